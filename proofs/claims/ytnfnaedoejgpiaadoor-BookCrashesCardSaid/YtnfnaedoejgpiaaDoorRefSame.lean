/- The reference's comparison of two rows of records. -/
import Derived.Test.YtnfnaedoejgpiaaDoorHeld
import Derived.Test.YtnfnaedoejgpiaaDoorRows2
import Derived.Test.YtnfnaedoejgpiaaDoorSha2
import Derived.Deep.DeepCutAuto
namespace Go.Proofs.YtnfnaedoejgpiaaDoor
open Go.RowKit

theorem bs_eq (a b : List UInt8) : ((bs a).toList == (bs b).toList) = decide (a = b) := by
  rw [bs_list, bs_list]
  by_cases h : a = b
  · subst h; simp
  · rw [decide_eq_false h]; exact beq_eq_false_iff_ne.2 h
def RelSame (w : World) (m : Nat) (ls ls2 : List (List UInt8)) (i : Value) (wr : World) : Prop :=
  ∃ k : Nat, k ≤ m ∧ i = .int .i64 k ∧ ls.take k = ls2.take k ∧ Upd [] w wr
set_option maxRecDepth 4000 in
set_option maxHeartbeats 2000000 in
theorem same_any (w : World) (xo yo : Option Addr) (m c m2 c2 : Nat) (vs vs2 : List Value) (ls ls2 : List (List UInt8)) (hs : Sl w (.slice xo m c) m 1 vs) (hll : ls.length = m) (hs2 : Sl w (.slice yo m2 c2) m2 1 vs2) (hll2 : ls2.length = m2) (hm : m ≤ 100000) (hm2 : m2 ≤ 100000)
    (hb : ∀ i, i < m → ∃ v, vs[i]? = some v ∧ Bytes w v (ls.getD i [])) (hb2 : ∀ i, i < m2 → ∃ v, vs2[i]? = some v ∧ Bytes w v (ls2.getD i [])) :
    Calls Tryd.prog 20 #[.slice xo m c, .slice yo m2 c2] w (fun e w' => e = .returned (.bool (decide (ls = ls2))) ∧ Upd [] w w') := by
  have HS := Lib.hid (And.intro hs (And.intro hll (And.intro hb (And.intro hs2 (And.intro hll2 hb2)))))
  clear hs hll hb hs2 hll2 hb2
  go_enter Tryd.func20, Tryd.ntmps20
  by_cases hmm : m = m2
  · subst hmm
    go_wp2_with fail
    go_loopw [5] (RelSame w m ls ls2) (fun i _ => ((m : Int) - intOf i).toNat)
    case atStart => exact ⟨0, by omega, rfl, by simp, Upd.refl _ _⟩
    case round =>
      obtain ⟨k, hk, rfl, hpre, hu⟩ := hrel
      have HP := Lib.hid (And.intro hpre hu)
      clear hpre
      rcases Nat.lt_or_ge k m with hlt | hge
      · obtain ⟨v, hv, hbv⟩ := HS.out.2.2.1 k hlt
        obtain ⟨v2, hv2, hbv2⟩ := HS.out.2.2.2.2.2 k hlt
        obtain ⟨bb, o, hxo, hbb, hcell⟩ := Sl.addr HS.out.1 (by omega)
        obtain ⟨bb2, o2, hyo, hbb2, hcell2⟩ := Sl.addr HS.out.2.2.2.1 (by omega)
        obtain ⟨x, hx⟩ : ∃ x, ls.getD k [] = x := ⟨_, rfl⟩
        obtain ⟨y, hy⟩ : ∃ y, ls2.getD k [] = y := ⟨_, rfl⟩
        rw [hx] at hbv
        rw [hy] at hbv2
        have hbr := hbv.upd hu (by simp)
        have hbr2 := hbv2.upd hu (by simp)
        have hc : wr.cell? ⟨bb, o + k, none⟩ = some v := cell_upd (hcell k _ hv) hbb hu (by simp)
        have hc2 : wr.cell? ⟨bb2, o2 + k, none⟩ = some v2 := cell_upd (hcell2 k _ hv2) hbb2 hu (by simp)
        obtain ⟨ro, rc, rfl, -⟩ := id hbr
        obtain ⟨ro2, rc2, rfl, -⟩ := id hbr2
        subst hxo
        subst hyo
        have hk1 : k < ls.length := by rw [HS.out.2.1]; exact hlt
        have hk2 : k < ls2.length := by rw [HS.out.2.2.2.2.1]; exact hlt
        have e1 : ls[k] = x := by rw [← hx, List.getD_eq_getElem?_getD, List.getElem?_eq_getElem hk1]; rfl
        have e2 : ls2[k] = y := by rw [← hy, List.getD_eq_getElem?_getD, List.getElem?_eq_getElem hk2]; rfl
        have h1 : x = y → ls.take (k + 1) = ls2.take (k + 1) := fun h => by
          rw [List.take_add_one, List.take_add_one, List.getElem?_eq_getElem hk1, List.getElem?_eq_getElem hk2, e1, e2, h, HP.out.1]
        have h2 : ¬ x = y → ¬ ls = ls2 := fun h e => by
          subst e
          exact h (e1.symm.trans e2)
        have hbe := bs_eq x y
        obtain ⟨b, hbb'⟩ : ∃ b, decide (x = y) = b := ⟨_, rfl⟩
        rw [hbb'] at hbe
        have HE := Lib.hid (And.intro h1 (And.intro h2 (And.intro hbb' hu)))
        have S0 : (wr.drew.cell? ⟨bb, o + k, none⟩ = some (.slice ro x.length rc) ∧ wr.drew.cell? ⟨bb2, o2 + k, none⟩ = some (.slice ro2 y.length rc2)) ∧ Bytes wr.drew (.slice ro x.length rc) x ∧ Bytes wr.drew (.slice ro2 y.length rc2) y := ⟨⟨hc, hc2⟩, hbr.drew, hbr2.drew⟩
        clear h1 h2 hbb' hu hx hy e1 e2 hk1 hk2 hc hc2 hbr hbr2 hbv hbv2 hv hv2 hcell hcell2 hbb hbb2
        go_upto_region 6 with (fail)
        refine wp_region_ord (S := fun w => (w.cell? ⟨bb, o + k, none⟩ = some (.slice ro x.length rc) ∧ w.cell? ⟨bb2, o2 + k, none⟩ = some (.slice ro2 y.length rc2)) ∧ Bytes w (.slice ro x.length rc) x ∧ Bytes w (.slice ro2 y.length rc2) y) (.take 0 (.take 1 (.take 2 (.take 3 (.take 4 (.take 5 (.take 6 (.take 7 (.take 8 (.take 9 (.take 10 .done))))))))))) (by kernel_rfl) (by kernel_rfl) (fun _ _ d _ _ h => by cases d <;> exact h) ?_
        iterate 3 (refine ord_ex rfl rfl S0 ?_; apply Exists.intro; refine ⟨fun _ _ => ?_, ?_⟩; (focus (rename_i w hw; skip; go_simp; rfl)); simp only [Act.put, List.setIfInBounds_toArray, List.set_cons_zero, List.set_cons_succ, List.getElem_toArray, List.getElem_cons_succ, List.getElem_cons_zero])
        (refine ord_ex rfl rfl S0 ?_; apply Exists.intro; refine ⟨fun _ _ => ?_, ?_⟩; (focus (rename_i w hw; have hcw := hw.1.1; go_simp; rfl)); simp only [Act.put, List.setIfInBounds_toArray, List.set_cons_zero, List.set_cons_succ, List.getElem_toArray, List.getElem_cons_succ, List.getElem_cons_zero])
        (refine ord_ex rfl rfl S0 ?_; apply Exists.intro; refine ⟨fun _ _ => ?_, ?_⟩; (focus (rename_i w hw; have hs1 := run_str (P := Tryd.prog) hw.2.1 26 5 Tryd.underlying26 Tryd.underlying5 9 Tryd.underlying9; go_simp; rfl)); simp only [Act.put, List.setIfInBounds_toArray, List.set_cons_zero, List.set_cons_succ, List.getElem_toArray, List.getElem_cons_succ, List.getElem_cons_zero])
        iterate 3 (refine ord_ex rfl rfl S0 ?_; apply Exists.intro; refine ⟨fun _ _ => ?_, ?_⟩; (focus (rename_i w hw; skip; go_simp; rfl)); simp only [Act.put, List.setIfInBounds_toArray, List.set_cons_zero, List.set_cons_succ, List.getElem_toArray, List.getElem_cons_succ, List.getElem_cons_zero])
        (refine ord_ex rfl rfl S0 ?_; apply Exists.intro; refine ⟨fun _ _ => ?_, ?_⟩; (focus (rename_i w hw; have hcw := hw.1.2; go_simp; rfl)); simp only [Act.put, List.setIfInBounds_toArray, List.set_cons_zero, List.set_cons_succ, List.getElem_toArray, List.getElem_cons_succ, List.getElem_cons_zero])
        (refine ord_ex rfl rfl S0 ?_; apply Exists.intro; refine ⟨fun _ _ => ?_, ?_⟩; (focus (rename_i w hw; have hs1 := run_str (P := Tryd.prog) hw.2.2 26 5 Tryd.underlying26 Tryd.underlying5 9 Tryd.underlying9; go_simp; rfl)); simp only [Act.put, List.setIfInBounds_toArray, List.set_cons_zero, List.set_cons_succ, List.getElem_toArray, List.getElem_cons_succ, List.getElem_cons_zero])
        (refine ord_ex rfl rfl S0 ?_; apply Exists.intro; refine ⟨fun _ _ => ?_, ?_⟩; (focus (rename_i w hw; skip; go_simp; rfl)); simp only [Act.put, List.setIfInBounds_toArray, List.set_cons_zero, List.set_cons_succ, List.getElem_toArray, List.getElem_cons_succ, List.getElem_cons_zero])
        first | (show Exit.inBlock _ _ Exit.normal _ _) | (show Exit.then _ _ Exit.normal _ _)
        clear S0
        cases b with
        | true =>
          have hxy : x = y := by simpa using HE.out.2.2.1
          have HF := Lib.hid (And.intro (HE.out.1 hxy) HE.out.2.2.2.drew)
          clear hxy HE
          go_wp2
          go_roundw
          case rel => exact ⟨k + 1, by omega, by go_num, HF.out.1, HF.out.2⟩
          case measure => simp [intOf]; omega
        | false =>
          have hxy : ¬ x = y := by simpa using HE.out.2.2.1
          have HF := Lib.hid (And.intro (HE.out.2.1 hxy) HE.out.2.2.2.drew)
          clear hxy HE
          go_wp2
          go_ret
          exact ⟨by rw [decide_eq_false HF.out.1]; rfl, HF.out.2⟩
      · obtain rfl : k = m := by omega
        have hall : ls.take k = ls := List.take_of_length_le (by rw [HS.out.2.1]; exact Nat.le_refl _)
        have hall2 : ls2.take k = ls2 := List.take_of_length_le (by rw [HS.out.2.2.2.2.1]; exact Nat.le_refl _)
        have heq : ls = ls2 := by rw [← hall, ← hall2]; exact HP.out.1
        have HF := Lib.hid heq
        clear hall hall2 heq hu
        go_wp2
        go_ret
        exact ⟨by rw [decide_eq_true HF.out]; rfl, HP.out.2⟩
  · have hne : ((m : Int) != (m2 : Int)) = true := by rw [bne_iff_ne]; omega
    have hls : ¬ ls = ls2 := fun e => hmm (by rw [← HS.out.2.1, ← HS.out.2.2.2.2.1, e])
    have HF := Lib.hid hls
    clear hls
    go_wp2
    go_ret
    exact ⟨by rw [decide_eq_false HF.out]; rfl, Upd.refl _ _⟩
end Go.Proofs.YtnfnaedoejgpiaaDoor
