/- What a block does to an engine: the walk. -/
import Derived.Test.YtnfnaedoejgpiaaDoorRound
namespace Go.Proofs.YtnfnaedoejgpiaaDoor
open Go.RowKit

theorem run_idx (V : List (BitVec 32)) (n : Nat) (hV : V.length = 8) (hn : n < 8) (w : World) : (Instr.index 131 (.agg (V.map wv).toArray) (.int .i64 n)).run Tryd.prog w = .ok (wv (V.getD n 0)) w := by
  have hnV : n < V.length := by omega
  have hi : (Tryd.prog.info? 114).map (·.size) = some 1 := by kernel_rfl
  obtain ⟨i, hi1, hi2⟩ := Option.map_eq_some_iff.1 hi
  have ha : ∀ w, (isAgg 114).run Tryd.prog w = .ok false w := fun w => by simp [isAgg, run_underlying Tryd.underlying114]
  simp [Instr.index, asIntOf, run_underlying Tryd.underlying131, part, ha, sizeOf, typeInfo, hi1, hi2, hnV]
  intro h; omega
set_option maxHeartbeats 20000000 in
set_option maxRecDepth 4000 in
theorem mix_any (w : World) (p : Nat) (t : TypeId) (h : List (BitVec 32)) (rest : List Value) (ao : Option Addr) (c : Nat) (b : List UInt8) (hh : h.length = 8) (hp : Blk w p (eng h rest) t) (hb : Bytes w (.slice ao b.length c) b) (hl : b.length = 64) (ht : Table w) (hb0 : blkOf (.slice ao b.length c) ≠ p + 1) (hp0 : p ≠ 0) :
    Calls Tryd.prog 82 #[.pointer (some ⟨p, 0, none⟩), .slice ao b.length c] w fun e w' => e = .returned (.tuple #[]) ∧ Blk w' p (eng (mixed h b) rest) t ∧ Upd [p] w w' := by
  obtain ⟨bb, o, rfl, hbb, hcell⟩ := Sl.addr hb (by omega)
  have HB := Lib.hid (And.intro hb (And.intro hcell (And.intro hp (And.intro ht (And.intro hb0 (And.intro hp0 hh))))))
  clear hb hcell hp ht hb0 hp0 hh
  rw [hl]
  go_enter Tryd.func82, Tryd.ntmps82
  go_wp2
  obtain ⟨q, hq⟩ : ∃ q, w.heap.size = q := ⟨_, rfl⟩
  have hQ := Lib.hid hq
  rw [hq]
  go_loopw [22] (Rel1 w q b) (fun i _ => (64 - intOf i).toNat)
  case atStart => exact ⟨0, by omega, rfl, Blk.newAt hQ.out.symm _ _, (Upd.refl [] w).alloc _⟩
  case round =>
    obtain ⟨n, hn, rfl, h1, h2⟩ := hrel
    rcases Nat.lt_or_ge n 64 with h64 | h64
    · have hnb : n < b.length := by omega
      have hc : wr.cell? ⟨bb, o + n, none⟩ = some (.int .u8 (b[n].toNat : Int)) := cell_upd (HB.out.2.1 n (bv b[n]) (by simp [hnb])) hbb h2 (by simp)
      have hbn : b.getD n 0 = b[n] := by simp [hnb]
      have hk : n / 4 < 16 := by omega
      have f4 : (n : Int) / 4 = ((n / 4 : Nat) : Int) := by omega
      have t4 : (n : Int).tdiv 4 = ((n / 4 : Nat) : Int) := by rw [Int.tdiv_eq_ediv_of_nonneg (by omega)]; omega
      have c4 := ws_cell h1 (k := n / 4) (by rw [loaded_len]; exact hk)
      have z4 := h1.frozen (n / 4)
      have hw := w_load ((loaded b n).getD (n / 4) 0) b[n]
      have hS := h1.set (n / 4) (wv (((loaded b n).getD (n / 4) 0) <<< 8 ||| BitVec.ofNat 32 (b.getD n 0).toNat))
      have e : (ws (loaded b n)).setIfInBounds (n / 4) (wv (((loaded b n).getD (n / 4) 0) <<< 8 ||| BitVec.ofNat 32 (b.getD n 0).toNat)) = ws (loaded b (n + 1)) := by simp [ws, loaded, List.map_set]
      rw [e] at hS
      rw [hbn] at hS
      have hU := upd_set h2 (b := q) (i := n / 4) (.inr (by have := hQ.out; omega)) (wv (((loaded b n).getD (n / 4) 0) <<< 8 ||| BitVec.ofNat 32 b[n].toNat))
      generalize (loaded b n).getD (n / 4) 0 = x at *
      generalize n / 4 = k at *
      have K4 : (k : Int) < 16 := by omega
      have G := Lib.hid (And.intro hS hU)
      clear hS hU h1 h2 e hbn
      generalize b[n] = y at *
      obtain ⟨z, hz⟩ : ∃ z, x <<< 8 ||| BitVec.ofNat 32 y.toNat = z := ⟨_, rfl⟩
      rw [hz] at G hw
      have HW := Lib.hid (And.intro hz hw)
      clear hz hw
      go_wp2
      go_roundw
      case rel =>
        rw [HW.out.2]
        exact ⟨n + 1, by omega, by go_num, G.out.1, G.out.2⟩
      case measure => simp [intOf]; omega
    · obtain rfl : n = 64 := by omega
      have hE := HB.out.2.2.1.upd h2 (by simp)
      have h8 : ((h.map wv).length = 8) := by have := HB.out.2.2.2.2.2.2; simpa using this
      have HE0 := Lib.hid h2.size
      have HE := Lib.hid (And.intro hE (And.intro h1 (And.intro h2 h8)))
      clear hE h1 h2
      obtain ⟨r, hr⟩ : ∃ r, wr.heap.size = r := ⟨_, rfl⟩
      have hR := Lib.hid hr
      have hcell := ws_eng HE.out.1 h8
      have hsz : (Tryd.prog.info? 131).map (·.size) = some (h.map wv).length := by rw [h8]; kernel_rfl
      have h18 : ((h.map wv).all fun u => u.oneCell') = true := List.all_eq_true.2 (wv_one h)
      have HC := Lib.hid (And.intro hcell (And.intro hsz h18))
      clear hcell hsz h18
      go_wp2_with (first | (with_reducible refine wpList_load_cells (o := ⟨some 42, _, _, _, _, _⟩) rfl 131 (.tmp 41) rfl ⟨p, 0, none⟩ rfl _ (h.map wv) HC.out.1 Tryd.underlying131 rfl HC.out.2.1 ?_) | (with_reducible refine wpList_store_blk (o := ⟨none, .store 131 (.tmp 7) (.tmp 42), _, _, _, _⟩) rfl 131 (.tmp 7) (.tmp 42) rfl (b := r) 0 rfl (Blk.newAt (w := wr) hR.out.symm _ _) (.agg (h.map wv).toArray) rfl (h.map wv) rfl ?_ HC.out.2.2 HC.out.2.1 ?_))
      · rw [h8]; decide
      intro w3 b3 u3
      rw [splice_all (by rw [h8]; rfl)] at b3
      have hrw : r ≠ p := by have := HE.out.1.lt; have := hR.out; omega
      have hrq : r ≠ q := by have := HE.out.2.1.lt; have := hR.out; omega
      have U3 : Upd [] w w3 := HE.out.2.2.1.trans ((Upd.fresh (w := wr) (by rw [hr]; exact u3))) (by simp)
      have E3 := (HE.out.1.alloc (.cells #[.int .u32 0, .int .u32 0, .int .u32 0, .int .u32 0, .int .u32 0, .int .u32 0, .int .u32 0, .int .u32 0] 131)).upd u3 (by simp; omega)
      have S3 := (HE.out.2.1.alloc (.cells #[.int .u32 0, .int .u32 0, .int .u32 0, .int .u32 0, .int .u32 0, .int .u32 0, .int .u32 0, .int .u32 0] 131)).upd u3 (by simp; omega)
      have G3 := Lib.hid (And.intro b3 (And.intro U3 (And.intro E3 (And.intro S3 (And.intro hrw hrq)))))
      clear b3 u3 U3 E3 S3 hrw hrq HE HC hr h8
      go_wp2
      have hL : (loaded b 64).length = 16 := loaded_len _ _
      have hmx : mixed h b = addAll h (rounds h (loaded b 64) 64).1 8 := rfl
      generalize loaded b 64 = L at *
      have HM := Lib.hid hmx
      clear hmx
      go_loopw [43] (Rel2 w q r h L) (fun i _ => (64 - intOf i).toNat)
      case atStart => exact ⟨0, by omega, rfl, G3.out.1, G3.out.2.2.2.1, G3.out.2.1⟩
      case round =>
        obtain ⟨n, hn, rfl, h1, h2, h3⟩ := hrel
        have hlen := rounds_len (v := h) (s := L) n
        have hlv : (rounds h L n).1.length = 8 := by rw [hlen.1]; exact HB.out.2.2.2.2.2.2
        have hls : (rounds h L n).2.length = 16 := by rw [hlen.2]; exact hL
        clear hlen
        rcases Nat.lt_or_ge n 64 with h64 | h64
        · have hnext : rounds h L (n + 1) = round (rounds h L n).1 (rounds h L n).2 n := rfl
          have HN := Lib.hid hnext
          clear hnext
          have hrq := G3.out.2.2.2.2.2
          have hr0 : w.heap.size ≤ r := by have := hR.out; have := HE0.out; omega
          have hq0 : q ≠ 0 := by have := HB.out.2.2.2.1.1; have := hQ.out; omega
          have HX := Lib.hid (And.intro hr0 h3)
          refine round_walk wr q r n _ _ h64 hlv hls h1 h2 (HB.out.2.2.2.1.upd h3 (by simp)) hrq hq0 (fun _ _ d _ _ h => by cases d <;> exact h) _ _ _ _ _ _ _ _ _ _ _ _ _ _ _ _ _ _ _ _ _ _ _ _ _ _ _ _ _ _ _ _ _ _ _ _ _ _ _ _ _ _ _ _ _ _ _ _ _ _ _ _ _ _ _ _ _ _ _ _ _ _ _ _ _ _ _ _ _ _ _ _ _ _ _ _ _ _ _ _ _ _ _ _ _ _ _ _ _ _ _ _ _ _ _ _ _ _ _ _ _ _ _ _ _ _ _ _ _ _ _ _ _ _ _ _ _ _ _ _ _ _ _ _ _ _ _ _ _ _ _ _ _ _ _ _ _ _ _ _ _ ?_
          intro y8 y9 y10 y11 y12 y13 y14 y15 y16 y17 y44 y45 y46 y47 y48 y49 y50 y51 y52 y53 y54 y55 y56 y57 y58 y59 y60 y61 y62 y63 y64 y65 y66 y67 y68 y69 y70 y71 y72 y73 y74 y75 y76 y77 y78 y79 y80 y81 y82 y83 y84 y85 y86 y87 y88 y89 y90 y91 y92 y93 y94 y95 y96 y97 y98 y99 y100 y101 y102 y103 y104 y105 y106 y107 y108 y109 y110 y111 y112 y113 y114 y115 y116 y117 y118 y119 y120 y121 y122 y123 y124 y125 y126 w' g1 g2 g3
          rw [← HN.out] at g1 g2
          exact ⟨⟨_, _, _, _, _, _, _, _, _, _, _, _, _, _, _, _, _, _, _, _, _, _, _, _, _, _, _, _, _, _, _, _, _, _, _, _, _, _, _, _, _, _, _, _, _, _, _, _, _, _, _, _, _, _, _, _, _, _, _, _, _, _, _, _, _, _, _, _, _, _, _, _, _, _, _, _, _, _, _, _, _, _, _, _, _, _, _, _, _, _, _, _, _, _, ⟨n + 1, by omega, rfl, g1, g2, HX.out.2.trans g3 (by have := hQ.out; have := HX.out.1; simp; omega)⟩, rfl⟩, by simp [intOf]; omega⟩
        · obtain rfl : n = 64 := by omega
          have hV : (rounds h L 64).1.length = 8 := hlv
          generalize (rounds h L 64).1 = V at *
          have hcell := fun j u hj => ws_at h1 j u hj
          have h8 : ((V.map wv).length = 8) := by simpa using hV
          have hsz : (Tryd.prog.info? 131).map (·.size) = some (V.map wv).length := by rw [h8]; kernel_rfl
          have HC := Lib.hid (And.intro hcell (And.intro hsz (And.intro h2 (And.intro h3 (HB.out.2.2.1.upd h3 (by simp))))))
          clear hcell hsz h8 h1 h2 h3
          go_wp2_with (with_reducible refine wpList_load_cells (o := ⟨some 127, _, _, _, _, _⟩) rfl 131 (.tmp 7) rfl ⟨r, 0, none⟩ rfl _ (V.map wv) HC.out.1 Tryd.underlying131 rfl HC.out.2.1 ?_)
          go_loopw [128] (Rel3 w p t rest h V) (fun i _ => (8 - intOf i).toNat)
          case atStart => exact ⟨0, by omega, rfl, HC.out.2.2.2.2, HC.out.2.2.2.1.more (by simp)⟩
          case round =>
            obtain ⟨n, hn, rfl, h1, h2⟩ := hrel
            have hln : (addAll h V n).length = 8 := by rw [addAll_len]; exact HB.out.2.2.2.2.2.2
            rcases Nat.lt_or_ge n 8 with h8 | h8
            · have hnV : n < V.length := by rw [hV]; exact h8
              have hg := run_idx V n hV h8
              have hN : addAll h V (n + 1) = (addAll h V n).set n ((addAll h V n).getD n 0 + V.getD n 0) := rfl
              have HN := Lib.hid hN
              clear hN
              generalize addAll h V n = g at *
              have C := fun w (h : Blk w p (eng g rest) t) => eng_cell h (k := n) (by omega)
              have z := h1.frozen n
              have hv := n_add (g.getD n 0) (V.getD n 0)
              have S1 := h1.set n (wv (g.getD n 0 + V.getD n 0))
              have hU := upd_set h2 (b := p) (i := n) (.inl (by simp)) (wv (g.getD n 0 + V.getD n 0))
              rw [eng_set (by omega), ← HN.out] at S1
              generalize g.getD n 0 + V.getD n 0 = y at *
              generalize g.getD n 0 = g0 at *
              generalize V.getD n 0 = v0 at *
              have cn := C _ h1
              have J8 : (n : Int) < 8 := by omega
              have HS := Lib.hid (And.intro S1 hU)
              clear S1 hU
              go_wp2_with fail
              have S0 : Blk wr p (eng g rest) t := h1
              refine wp_region_ord (S := fun w => Blk w p (eng g rest) t) (.take 0 (.take 1 (.take 2 (.take 3 (.take 4 (.take 5 (.take 6 (.take 7 (.take 8 (.take 9 (.take 10 (.act 11 .done)))))))))))) (by kernel_rfl) (by kernel_rfl) (fun _ _ d _ _ h => by cases d <;> exact h) ?_
              repeat (refine ord_ex rfl rfl S0 ?_; apply Exists.intro; refine ⟨fun _ _ => ?_, ?_⟩; (focus (rename_i w hw; have cn := C _ hw; go_simp; rfl)); simp only [Act.put, List.setIfInBounds_toArray, List.set_cons_zero, List.set_cons_succ, List.getElem_toArray, List.getElem_cons_succ, List.getElem_cons_zero])
              refine ord_act rfl ?_
              go_wp2_with fail
              refine ⟨fun h => Bool.noConfusion (h.symm.trans (by kernel_rfl : waitsAll _ _ _ = true)), ?_⟩
              show Exit.inBlock _ _ Exit.normal _ _
              go_wp2
              go_roundw
              case rel => exact ⟨n + 1, by omega, by go_num, HS.out.1, HS.out.2.drew⟩
              case measure => simp [intOf]; omega
            · obtain rfl : n = 8 := by omega
              go_wp2
              go_end0
              rw [HM.out]
              exact ⟨rfl, h1, h2⟩
end Go.Proofs.YtnfnaedoejgpiaaDoor
