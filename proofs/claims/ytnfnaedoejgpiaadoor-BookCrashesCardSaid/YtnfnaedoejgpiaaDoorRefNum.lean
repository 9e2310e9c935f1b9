/- The reference's number of four bytes, the greatest first. -/
import Derived.Test.YtnfnaedoejgpiaaDoorHeld
import Derived.Test.YtnfnaedoejgpiaaDoorRows2
import Derived.Test.YtnfnaedoejgpiaaDoorSha2
import Derived.Deep.DeepCutAuto
namespace Go.Proofs.YtnfnaedoejgpiaaDoor
open Go.RowKit

theorem wrapL {x : Int} (h0 : 0 ≤ x) (h1 : x < 1000000000000) : IntKind.i64.wrap x = x := by rw [IntKind.wrap_i64]; omega
def numB (b : List UInt8) : Nat := (b.getD 0 0).toNat * 16777216 + (b.getD 1 0).toNat * 65536 + (b.getD 2 0).toNat * 256 + (b.getD 3 0).toNat
set_option maxRecDepth 4000 in
set_option maxHeartbeats 1000000 in
theorem number_any (w : World) (xo : Option Addr) (n c : Nat) (b : List UInt8) (hs : Bytes w (.slice xo n c) b) (hn : b.length = n) (h4 : 4 ≤ n) :
    Calls Tryd.prog 32 #[.slice xo n c] w (fun e w' => e = .returned (.int .i64 (numB b)) ∧ Upd [] w w') := by
  obtain ⟨bb, o, rfl, hbb, hcell⟩ := Sl.addr (m := n) (by have := hs; unfold Bytes at this; rw [hn] at this; exact this) (by omega)
  have hc : ∀ i, i < n → w.cell? ⟨bb, o + i, none⟩ = some (.int .u8 ((b.getD i 0).toNat : Int)) := fun i hi => hcell i _ (by
    have : i < b.length := by omega
    rw [List.getElem?_map, List.getD_eq_getElem?_getD, List.getElem?_eq_getElem this]; rfl)
  have c0 := hc 0 (by omega)
  rw [Nat.add_zero] at c0
  have c1 := hc 1 (by omega)
  have c2 := hc 2 (by omega)
  have c3 := hc 3 (by omega)
  have l0 := (b.getD 0 0).toNat_lt
  have l1 := (b.getD 1 0).toNat_lt
  have l2 := (b.getD 2 0).toNat_lt
  have l3 := (b.getD 3 0).toNat_lt
  obtain ⟨N, hN⟩ : ∃ N, numB b = N := ⟨_, rfl⟩
  rw [hN]
  unfold numB at hN
  generalize (b.getD 0 0).toNat = x0 at *
  generalize (b.getD 1 0).toNat = x1 at *
  generalize (b.getD 2 0).toNat = x2 at *
  generalize (b.getD 3 0).toNat = x3 at *
  have n0 : 0 < n := by omega
  have n1 : (1 : Int) < (n : Int) := by omega
  have n2 : (2 : Int) < (n : Int) := by omega
  have n3 : (3 : Int) < (n : Int) := by omega
  replace l0 : x0 < 256 := l0
  replace l1 : x1 < 256 := l1
  replace l2 : x2 < 256 := l2
  replace l3 : x3 < 256 := l3
  have HN := Lib.hid hN
  have S0 : w.drew.cell? ⟨bb, o, none⟩ = some (.int .u8 (x0 : Int)) ∧ w.drew.cell? ⟨bb, o + 1, none⟩ = some (.int .u8 (x1 : Int)) ∧ w.drew.cell? ⟨bb, o + 2, none⟩ = some (.int .u8 (x2 : Int)) ∧ w.drew.cell? ⟨bb, o + 3, none⟩ = some (.int .u8 (x3 : Int)) := ⟨c0, c1, c2, c3⟩
  clear hc hcell hs hn hN c0 c1 c2 c3
  go_enter Tryd.func32, Tryd.ntmps32
  go_upto_region 1 with (fail)
  refine wp_region_ord (S := fun w => w.cell? ⟨bb, o, none⟩ = some (.int .u8 (x0 : Int)) ∧ w.cell? ⟨bb, o + 1, none⟩ = some (.int .u8 (x1 : Int)) ∧ w.cell? ⟨bb, o + 2, none⟩ = some (.int .u8 (x2 : Int)) ∧ w.cell? ⟨bb, o + 3, none⟩ = some (.int .u8 (x3 : Int))) (.take 0 (.take 1 (.take 2 (.take 3 (.take 4 (.take 5 (.take 6 (.take 7 (.take 8 (.take 9 (.take 10 (.take 11 (.take 12 (.take 13 (.take 14 (.take 15 (.take 16 (.take 17 (.take 18 (.take 19 (.take 20 (.take 21 (.take 22 .done))))))))))))))))))))))) (by kernel_rfl) (by kernel_rfl) (fun _ _ d _ _ h => by cases d <;> exact h) ?_
  iterate 5 (refine ord_ex rfl rfl S0 ?_; apply Exists.intro; refine ⟨fun _ _ => ?_, ?_⟩; (focus (rename_i w hw; have hcw := hw.1; go_simp; rfl)); simp only [Act.put, List.setIfInBounds_toArray, List.set_cons_zero, List.set_cons_succ, List.getElem_toArray, List.getElem_cons_succ, List.getElem_cons_zero])
  iterate 6 (refine ord_ex rfl rfl S0 ?_; apply Exists.intro; refine ⟨fun _ _ => ?_, ?_⟩; (focus (rename_i w hw; have hcw := hw.2.1; go_simp; rfl)); simp only [Act.put, List.setIfInBounds_toArray, List.set_cons_zero, List.set_cons_succ, List.getElem_toArray, List.getElem_cons_succ, List.getElem_cons_zero])
  iterate 6 (refine ord_ex rfl rfl S0 ?_; apply Exists.intro; refine ⟨fun _ _ => ?_, ?_⟩; (focus (rename_i w hw; have hcw := hw.2.2.1; go_simp; rfl)); simp only [Act.put, List.setIfInBounds_toArray, List.set_cons_zero, List.set_cons_succ, List.getElem_toArray, List.getElem_cons_succ, List.getElem_cons_zero])
  iterate 6 (refine ord_ex rfl rfl S0 ?_; apply Exists.intro; refine ⟨fun _ _ => ?_, ?_⟩; (focus (rename_i w hw; have hcw := hw.2.2.2; go_simp; rfl)); simp only [Act.put, List.setIfInBounds_toArray, List.set_cons_zero, List.set_cons_succ, List.getElem_toArray, List.getElem_cons_succ, List.getElem_cons_zero])
  first | (show Exit.inBlock _ _ Exit.normal _ _) | (show Exit.then _ _ Exit.normal _ _)
  clear S0
  go_wp2
  go_ret
  refine ⟨?_, (Upd.refl [] w).drew⟩
  have hN := HN.out
  show Ending.returned (.int .i64 _) = .returned (.int .i64 (N : Int))
  refine congrArg Ending.returned (congrArg (Value.int .i64) ?_)
  have a0 := wrapL (x := (x0 : Int)) (by omega) (by omega)
  have a1 := wrapL (x := (x1 : Int)) (by omega) (by omega)
  have a2 := wrapL (x := (x2 : Int)) (by omega) (by omega)
  have a3 := wrapL (x := (x3 : Int)) (by omega) (by omega)
  have b0 := wrapL (x := (x0 : Int) * 16777216) (by omega) (by omega)
  have b1 := wrapL (x := (x1 : Int) * 65536) (by omega) (by omega)
  have b2 := wrapL (x := (x2 : Int) * 256) (by omega) (by omega)
  have d1 := wrapL (x := (x0 : Int) * 16777216 + (x1 : Int) * 65536) (by omega) (by omega)
  have d2 := wrapL (x := (x0 : Int) * 16777216 + (x1 : Int) * 65536 + (x2 : Int) * 256) (by omega) (by omega)
  have d3 := wrapL (x := (x0 : Int) * 16777216 + (x1 : Int) * 65536 + (x2 : Int) * 256 + (x3 : Int)) (by omega) (by omega)
  simp only [a0, a1, a2, a3, b0, b1, b2, d1, d2, d3]
  omega
end Go.Proofs.YtnfnaedoejgpiaaDoor
