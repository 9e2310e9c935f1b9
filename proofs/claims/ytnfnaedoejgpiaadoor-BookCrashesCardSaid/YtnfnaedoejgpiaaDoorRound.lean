/- A round of the walk through a block. -/
import Derived.Test.YtnfnaedoejgpiaaDoorSha2
namespace Go.Proofs.YtnfnaedoejgpiaaDoor
open Go.RowKit

/-- The bodies of a code's loops, the outer ones, in order. -/
def loopsOf : Code → List Code
  | .loop c => [c]
  | .seq a b => loopsOf a ++ loopsOf b
  | .block _ c => loopsOf c
  | .scope c => loopsOf c
  | .cond _ a b => loopsOf a ++ loopsOf b
  | _ => []
noncomputable def mixBody : Code := ((Tryd.f82.body.map loopsOf).getD [])[1]?.getD .skip

set_option maxHeartbeats 20000000 in
set_option maxRecDepth 100000 in
theorem round_walk {Q : Exit → Act → World → Prop} (wr : World) (q r n : Nat) (v s : List (BitVec 32)) (h64 : n < 64) (hlv : v.length = 8) (hls : s.length = 16) (h1 : Blk wr r (ws v) 131) (h2 : Blk wr q (ws s) 140) (hT : Table wr) (hrq : r ≠ q) (hq0 : q ≠ 0) (hP : ∀ c (a : Act) d v w, Q (.panic c) (a.put d v) w → Q (.panic c) a w)
    (c0 c1 c2 c3 c5 c6 c8 c9 c10 c11 c12 c13 c14 c15 c16 c17 c18 c19 c20 c21 c22 c23 c24 c25 c26 c27 c28 c29 c30 c31 c32 c33 c34 c35 c36 c37 c38 c39 c40 c41 c42 c44 c45 c46 c47 c48 c49 c50 c51 c52 c53 c54 c55 c56 c57 c58 c59 c60 c61 c62 c63 c64 c65 c66 c67 c68 c69 c70 c71 c72 c73 c74 c75 c76 c77 c78 c79 c80 c81 c82 c83 c84 c85 c86 c87 c88 c89 c90 c91 c92 c93 c94 c95 c96 c97 c98 c99 c100 c101 c102 c103 c104 c105 c106 c107 c108 c109 c110 c111 c112 c113 c114 c115 c116 c117 c118 c119 c120 c121 c122 c123 c124 c125 c126 c127 c128 c129 c130 c131 c132 c133 c134 c135 c136 c137 c138 c139 c140 c141 c142 c143 : Value)
    (hQ : ∀ (y8 y9 y10 y11 y12 y13 y14 y15 y16 y17 y44 y45 y46 y47 y48 y49 y50 y51 y52 y53 y54 y55 y56 y57 y58 y59 y60 y61 y62 y63 y64 y65 y66 y67 y68 y69 y70 y71 y72 y73 y74 y75 y76 y77 y78 y79 y80 y81 y82 y83 y84 y85 y86 y87 y88 y89 y90 y91 y92 y93 y94 y95 y96 y97 y98 y99 y100 y101 y102 y103 y104 y105 y106 y107 y108 y109 y110 y111 y112 y113 y114 y115 y116 y117 y118 y119 y120 y121 y122 y123 y124 y125 y126 : Value) (w' : World), Blk w' r (ws (round v s n).1) 131 → Blk w' q (ws (round v s n).2) 140 → Upd [r, q] wr w' → Q .normal ⟨#[c0, c1, c2, c3, .pointer (some ⟨q, 0, none⟩), c5, c6, .pointer (some ⟨r, 0, none⟩), y8, y9, y10, y11, y12, y13, y14, y15, y16, y17, c18, c19, c20, c21, c22, c23, c24, c25, c26, c27, c28, c29, c30, c31, c32, c33, c34, c35, c36, c37, c38, c39, c40, c41, c42, .int .i64 ((n : Int) + 1), y44, y45, y46, y47, y48, y49, y50, y51, y52, y53, y54, y55, y56, y57, y58, y59, y60, y61, y62, y63, y64, y65, y66, y67, y68, y69, y70, y71, y72, y73, y74, y75, y76, y77, y78, y79, y80, y81, y82, y83, y84, y85, y86, y87, y88, y89, y90, y91, y92, y93, y94, y95, y96, y97, y98, y99, y100, y101, y102, y103, y104, y105, y106, y107, y108, y109, y110, y111, y112, y113, y114, y115, y116, y117, y118, y119, y120, y121, y122, y123, y124, y125, y126, c127, c128, c129, c130, c131, c132, c133, c134, c135, c136, c137, c138, c139, c140, c141, c142, c143], []⟩ w') :
    Code.wp Tryd.prog mixBody Q ⟨#[c0, c1, c2, c3, .pointer (some ⟨q, 0, none⟩), c5, c6, .pointer (some ⟨r, 0, none⟩), c8, c9, c10, c11, c12, c13, c14, c15, c16, c17, c18, c19, c20, c21, c22, c23, c24, c25, c26, c27, c28, c29, c30, c31, c32, c33, c34, c35, c36, c37, c38, c39, c40, c41, c42, .int .i64 (n : Int), c44, c45, c46, c47, c48, c49, c50, c51, c52, c53, c54, c55, c56, c57, c58, c59, c60, c61, c62, c63, c64, c65, c66, c67, c68, c69, c70, c71, c72, c73, c74, c75, c76, c77, c78, c79, c80, c81, c82, c83, c84, c85, c86, c87, c88, c89, c90, c91, c92, c93, c94, c95, c96, c97, c98, c99, c100, c101, c102, c103, c104, c105, c106, c107, c108, c109, c110, c111, c112, c113, c114, c115, c116, c117, c118, c119, c120, c121, c122, c123, c124, c125, c126, c127, c128, c129, c130, c131, c132, c133, c134, c135, c136, c137, c138, c139, c140, c141, c142, c143], []⟩ wr := by
  conv => arg 2; whnf
  obtain ⟨k, k1, k2, k3, k4, k5, k6, k7, a, b1, c2, d3, x4, y5, z6, l7, M, C, hround⟩ := round_named v s n h64 hlv
  have HN := Lib.hid hround
  unfold roundTo at HN
  clear hround
  obtain ⟨C0, C1, C2, C3, C4, C5, C6, C7⟩ := C _ _ _ h1
  have HC := Lib.hid C
  obtain ⟨W0, T0, E0, J0, W1, T1, E1, J1, W2, T2, E2, J2, W3, T3, E3, J3, W4, T4, E4, J4, W5, T5, E5, J5, W6, T6, E6, J6, W7, T7, E7, J7, N37⟩ := M
  have HW := Lib.hid (And.intro h1 (And.intro h2 (And.intro hT (And.intro hrq hq0))))
  have HQ := Lib.hid hQ
  clear C h1 h2 hT hrq hq0 hQ
  go_wp2
  go_quiet (fail)
  go_wp2
  go_quiet (fail)
  go_wp2
  have SQ : Blk wr r (ws v) 131 ∧ Table wr := ⟨HW.out.1, HW.out.2.2.1⟩
  have hK : ∀ w, Table w → w.cell? ⟨0, n, none⟩ = some (wv (K256.getD n 0)) := fun w ht => ht.2 n h64
  have J64 : (n : Int) < 64 := by omega
  have hns : (sched s n).length = 16 := by rw [sched_len]; exact hls
  obtain ⟨kn, hkn⟩ : ∃ x, K256.getD n 0 = x := ⟨_, rfl⟩
  rw [hkn] at hK HN
  clear hkn
  refine wp_region_ord (S := fun w => Blk w r (ws v) 131 ∧ Table w) (.take 0 (.take 1 (.take 2 (.take 3 (.take 6 (.take 7 (.take 8 (.take 9 (.take 10 (.take 11 (.take 12 (.take 14 (.take 15 (.take 16 (.take 18 (.act 4 (.take 5 (.take 13 (.take 17 (.act 19 (.take 20 (.take 21 .done)))))))))))))))))))))) (by kernel_rfl) (by kernel_rfl) (fun _ _ _ _ _ h => hP _ _ _ _ _ h) ?_
  repeat (refine ord_ex rfl rfl SQ ?_; apply Exists.intro; refine ⟨fun _ _ => ?_, ?_⟩; (focus (rename_i w hw; have CK := hK _ hw.2; obtain ⟨C0, C1, C2, C3, C4, C5, C6, C7⟩ := HC.out _ _ _ hw.1; go_simp; rfl)); simp only [Act.put, List.setIfInBounds_toArray, List.set_cons_zero, List.set_cons_succ, List.getElem_toArray, List.getElem_cons_succ, List.getElem_cons_zero])
  refine ord_act rfl ?_
  go_wp2_with fail
  refine (turned_any _ x4 6 11 25 (by decide) (by decide) (by decide)).mono ?_
  rintro e w1 ⟨rfl, rfl⟩
  generalize turned x4 6 11 25 = tx at *
  go_wp2_with fail
  refine ⟨fun _ => SQ, ?_⟩
  repeat (refine ord_ex rfl rfl SQ ?_; apply Exists.intro; refine ⟨fun _ _ => ?_, ?_⟩; (focus (rename_i w hw; have CK := hK _ hw.2; obtain ⟨C0, C1, C2, C3, C4, C5, C6, C7⟩ := HC.out _ _ _ hw.1; go_simp; rfl)); simp only [Act.put, List.setIfInBounds_toArray, List.set_cons_zero, List.set_cons_succ, List.getElem_toArray, List.getElem_cons_succ, List.getElem_cons_zero])
  refine ord_act rfl ?_
  go_wp2_with fail
  refine (next_any (wr.drewN _) q n s HW.out.2.1 hls h64).mono ?_
  rintro e w5 ⟨rfl, n2, n3⟩
  have n4 : Upd [q] wr w5 := ⟨n3.os, n3.tape, n3.output, n3.size, n3.block⟩
  have S5 : Blk w5 r (ws v) 131 ∧ Table w5 := ⟨SQ.1.upd n4 (by simpa using HW.out.2.2.2.1), SQ.2.upd n4 (by have := HW.out.2.2.2.2; simp; omega)⟩
  have U5 : Upd [q] wr w5 := n4
  have G5 := Lib.hid (And.intro n2 U5)
  clear n2 n3 n4 U5
  generalize (sched s n).getD (n % 16) 0 = nx at *
  generalize sched s n = s' at *
  go_wp2_with fail
  refine ⟨fun _ => S5, ?_⟩
  repeat (refine ord_ex rfl rfl S5 ?_; apply Exists.intro; refine ⟨fun _ _ => ?_, ?_⟩; (focus (rename_i w hw; have CK := hK _ hw.2; obtain ⟨C0, C1, C2, C3, C4, C5, C6, C7⟩ := HC.out _ _ _ hw.1; go_simp; rfl)); simp only [Act.put, List.setIfInBounds_toArray, List.set_cons_zero, List.set_cons_succ, List.getElem_toArray, List.getElem_cons_succ, List.getElem_cons_zero])
  simp only [w_xor, w_and, w_sum]
  have HN' := Lib.hid (HN.out)
  obtain ⟨tt, htt⟩ : ∃ x, l7 + tx + (z6 ^^^ x4 &&& (y5 ^^^ z6)) + kn + nx = x := ⟨_, rfl⟩
  rw [htt] at HN' ⊢
  clear htt
  have c3 := (HC.out _ _ _ S5.1).2.2.2.1
  have z3 := S5.1.frozen k3
  have hv3 := n_add d3 tt
  generalize d3 + tt = y3 at *
  have S6 := S5.1.set k3 (wv y3)
  have hq6 : (ws v).setIfInBounds k3 (wv y3) = ws (v.set k3 y3) := by simp [ws, List.map_set]
  rw [hq6] at S6
  clear hq6
  have z7 := S6.frozen k7
  have c7 := ws_cell S6 (k := k7) (by simp; omega)
  have l6 : (v.set k3 y3).length = 8 := by simp [hlv]
  generalize (v.set k3 y3).getD k7 0 = o7 at *
  show Exit.then _ _ Exit.normal _ _
  go_wp2_with fail
  refine (turned_any _ a 2 13 22 (by decide) (by decide) (by decide)).mono ?_
  rintro e w6 ⟨rfl, rfl⟩
  generalize turned a 2 13 22 = ta at *
  go_wp2_with fail
  simp only [w_and, w_or, w_sum3]
  generalize tt + ta + (a &&& b1 ||| c2 &&& (a ||| b1)) = f at *
  have S7 := S6.set k7 (wv f)
  have hq7 : (ws (v.set k3 y3)).setIfInBounds k7 (wv f) = ws ((v.set k3 y3).set k7 f) := by simp [ws, List.map_set]
  rw [hq7] at S7
  have hrq := HW.out.2.2.2.1
  have U7 := upd_set (upd_set (Upd.refl [r] w5) (b := r) (i := k3) (.inl (by simp)) (wv y3)) (b := r) (i := k7) (.inl (by simp)) (wv f)
  exact HQ.out _ _ _ _ _ _ _ _ _ _ _ _ _ _ _ _ _ _ _ _ _ _ _ _ _ _ _ _ _ _ _ _ _ _ _ _ _ _ _ _ _ _ _ _ _ _ _ _ _ _ _ _ _ _ _ _ _ _ _ _ _ _ _ _ _ _ _ _ _ _ _ _ _ _ _ _ _ _ _ _ _ _ _ _ _ _ _ _ _ _ _ _ _ _ (by rw [HN'.out]; exact S7) (by rw [HN'.out]; exact G5.out.1.upd U7 (by simp; omega)) ((G5.out.2.more (T := [r, q]) (by simp)).trans U7 (by simp))
end Go.Proofs.YtnfnaedoejgpiaaDoor
