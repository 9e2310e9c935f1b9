/- From the condition that sha's words lie where the program's text lays them, to the table of 64 words; a world that meets the condition; the law's last step. A slice of bytes that comes in, as a list of bytes. -/
import Derived.Test.YtnfnaedoejgpiaaDoorRows
import Derived.Test.YtnfnaedoejgpiaaDoorAwake
import Derived.ProofKit
import Derived.LaidMore
import Derived.OpenShut
import Derived.Stop.Joined
import Derived.Carry
namespace Go.Proofs.YtnfnaedoejgpiaaDoor
open Go.ChangeShapes Go.WideShapes Go.ChangeAt Go.RowKit

abbrev laid1 : List (String × DataW Unit) := [("gatepost/sha.rounds", Rows.laid_gatepost_sha_rounds)]
theorem ownK : ownKnob Tryd.prog.godebug = none := by kernel_rfl
theorem gSha : Tryd.prog.globalNamed "gatepost/sha.rounds" = some 0 := by kernel_rfl
theorem tSha : (Tryd.prog.globals[0]?).map (·.type) = some 141 := by kernel_rfl
theorem cellsA64 : Tryd.prog.cellsOf 141 = 64 := by kernel_rfl
theorem cellsU32 : Tryd.prog.cellsOf 114 = 1 := by kernel_rfl
theorem laid_words : (Rows.laid_gatepost_sha_rounds : DataW Unit) = .agg (K256.map fun k => .lit (.int .u32 k.toNat)) := by kernel_rfl
theorem table_of_laid {W : World} (h : laidMetH Tryd.prog laid1 W) : Table W := by
  rw [MakeChecks.laidMetH_plain _ _ _ (by kernel_rfl)] at h
  obtain ⟨ps, ⟨g, t, cs, fuel, p, q, hg, ht, hv, hd, _, _⟩, _⟩ := h
  obtain rfl := Option.some.inj (gSha.symm.trans hg)
  obtain rfl := Option.some.inj (tSha.symm.trans ht)
  obtain ⟨xs, m, rfl, hx, hl, hn, hel⟩ := DataW.trod_array Tryd.underlying141 hd
  rw [cellsA64] at hl
  rw [laid_words] at hx
  simp only [Prod.mk.injEq, DataW.agg.injEq] at hx
  have hcell : ∀ i, i < 64 → W.cell? ⟨0, i, none⟩ = some (wv (K256.getD i 0)) := by
    intro i hi
    rw [World.var?_cell hg hv i]
    have he := hel i hi
    rw [cellsU32, Nat.mul_one] at he
    have hxi : xs[i]? = some (xs[i]'(by omega)) := List.getElem?_eq_getElem _
    rw [hxi] at he
    obtain ⟨k, e1, e2, _⟩ := DataW.trod_int Tryd.underlying114 he
    have hk : (xs.map (·.1))[i]? = some (.lit (.int .u32 k)) := by rw [List.getElem?_map, hxi, e2]; rfl
    rw [← hx.1, List.getElem?_map] at hk
    have hK : K256[i]? = some (K256.getD i 0) := by
      have : i < K256.length := hi
      rw [List.getD_eq_getElem?_getD, List.getElem?_eq_getElem this, Option.getD_some]
    rw [hK] at hk
    simp only [Option.map_some, Option.some.injEq, DataW.lit.injEq, Lit.int.injEq, true_and] at hk
    have hci : cs.toList[i]? = some (.int .u32 k) := by
      have h1 : ((cs.toList.drop i).take 1)[0]? = some (.int .u32 k) := by rw [e1]; rfl
      simpa using h1
    rw [← Array.getElem?_toList, hci, ← hk]
  refine ⟨?_, hcell⟩
  have := hcell 0 (by decide)
  rcases Nat.eq_zero_or_pos W.heap.size with h0 | h0
  · exfalso
    simp only [World.cell?] at this
    rw [Array.getElem?_eq_none (by omega)] at this
    simp at this
  · exact h0
theorem door_met (os : Os) (args : Array Value) : laidMetH Tryd.prog laid1 ((World.doorLaid Tryd.prog 400 os).forCall (fun _ _ => 0) ⟨#[], args, []⟩).memory :=
  laidMetH_of_parts3 (fuel := 8) (laidMet_of_run' 8 (by kernel_rfl) (by kernel_rfl)) (by kernel_rfl) (by kernel_rfl)
/-- The law's last step: it returned true, and wrote new memory alone. -/
theorem law_post {H : Type} {enc : TypeId × Value → H} {f : Func} {s : ChangeSpec} {W W' : World} {args : Array Value} {ds gs : List (DataW H)} {before pa pv : List MemPlace} (hW : DataW.Whole enc Tryd.prog f.params.toList s.vars false W args.toList ds gs before) (hr : f.resultTypes = #[4]) (hs : (s.fn H (ds ++ gs)).results = [.lit (.bool true)])
    (hargs : DataW.TrodAll enc Tryd.prog W' 0 (fun b => decide (b < W.heap.size)) true f.params.toList args.toList (s.fn H (ds ++ gs)).args pa) (hvars : DataW.TrodVars enc Tryd.prog W' (fun b => decide (b < W.heap.size)) s.vars (s.fn H (ds ++ gs)).vars pv) (hps : before = pa ++ pv) (hu : Upd [] W W') : s.post enc Tryd.prog f false true false false W args (.bool true) W' := by
  refine ⟨ds, gs, before, [], pa, pv, hW, ?_, hargs, hvars, World.keptBut_mono (fun p hp => ⟨hp, ?_⟩) (hu.below.frame (· ∈ before)), fun h => by cases h⟩
  · rw [hs, hr]; exact trodAll_mk1 (shut_bool Tryd.underlying4 true)
  · rw [hps, List.mem_append] at hp; exact .inr hp
end Go.Proofs.YtnfnaedoejgpiaaDoor
namespace Go.Proofs.YtnfnaedoejgpiaaDoor
open Go.ChangeShapes Go.WideShapes Go.ChangeAt Go.RowKit

theorem laidOutK : laidOutB Tryd.prog = true := by kernel_rfl
theorem cellsByte : Tryd.prog.cellsOf 5 = 1 := by kernel_rfl
/-- The number of the last place, and one more. -/
theorem cell_lt {w : World} {a : Addr} {v : Value} (h : w.cell? a = some v) : a.block < w.heap.size ∧ a.spot = none := by
  unfold World.cell? at h
  split at h
  · rename_i c t f hh
    refine ⟨(Array.getElem?_eq_some_iff.1 hh).1, ?_⟩
    split at h
    · cases h
    · rename_i hs; simpa using hs
  · cases h
theorem addr_spot {a : Addr} {w : World} {c : Nat} {f : Nat → Value} (h : ∀ i, i < c → w.cell? (a.add i) = some (f i)) (h0 : 0 < c) : a.block < w.heap.size ∧ a.spot = none := by
  have := cell_lt (h 0 h0)
  simpa [Addr.add] using this
set_option maxRecDepth 100000 in
/-- A slice that comes in lies below the heap's size. -/
theorem okWide_blk {W : World} {base : Nat} {v : Value} (h : Value.okWide Tryd.prog W .any base 26 v) : blkOf v ≤ W.heap.size := by
  unfold Value.okWide at h
  rw [Tryd.underlying26] at h
  unfold Cell.okWide at h
  rw [Tryd.underlying26] at h
  have h2 : Cell.ok Tryd.prog W .any base 26 v := by cases v <;> exact h
  unfold Cell.ok at h2
  rw [Tryd.underlying26] at h2
  cases v <;> try (simp [blkOf]; done)
  rename_i ao n c
  cases ao with
  | none => simp [blkOf]
  | some a =>
    obtain ⟨_, _, _, _, row, cells, hs, _⟩ := h2
    unfold World.shape? at hs
    split at hs
    · rename_i hh
      have := (Array.getElem?_eq_some_iff.1 hh).1
      simp only [blkOf]; omega
    · cases hs
theorem open_bytesT {H : Type} {enc : TypeId × Value → H} {W : World} {fuel : Nat} {cs : List Value} {x : DataW H × List MemPlace} (h : DataW.trod enc Tryd.prog W 0 (fun _ => true) true fuel 26 cs = some x) :
    ∃ ao n c r, cs = [.slice ao n c] ∧ r.length = n ∧ Bytes W (.slice ao n c) r := by
  rcases open_ints Tryd.underlying26 Tryd.underlying5 cellsByte h with ⟨rfl, rfl⟩ | ⟨a, len, cap, zs, rfl, -, hl, hm, hz, rfl, hc, hw⟩
  · exact ⟨none, 0, 0, [], rfl, rfl, ⟨none, 0, rfl, Nat.le_refl _, by simp, rfl, fun _ => rfl, fun h => absurd h (by simp)⟩⟩
  · simp only [if_true] at hz
    have hcell : ∀ i, i < cap → W.cell? (a.add i) = some (.int .u8 (zs.getD i 0)) := fun i hi => hc i (by omega)
    have hwf : ∀ i, i < cap → 0 ≤ zs.getD i 0 ∧ zs.getD i 0 < 256 := fun i hi => by
      have hmem : zs.getD i 0 ∈ zs := by
        rw [List.getD_eq_getElem?_getD, List.getElem?_eq_getElem (by omega)]
        exact List.getElem_mem _
      have := hw _ hmem
      have h1 : IntKind.u8.min = 0 := by decide
      have h2 : IntKind.u8.max = 255 := by decide
      generalize zs.getD i 0 = z at *
      simp [Lit.wf, h1, h2] at this
      omega
    have hbv : ∀ i, i < cap → Value.int .u8 (zs.getD i 0) = bv (UInt8.ofNat (zs.getD i 0).toNat) := fun i hi => by
      have := hwf i hi
      refine bv_of ?_
      generalize zs.getD i 0 = z at *
      simp; omega
    refine ⟨some a, len, cap, (List.range len).map (fun i => UInt8.ofNat (zs.getD i 0).toNat), rfl, by simp, ?_⟩
    refine ⟨some a, cap, by simp, by simpa using hl, hm, by simp, by simp, fun h0 => ?_⟩
    obtain ⟨hlt, hsp⟩ := addr_spot hcell h0
    obtain ⟨ab, aoff, asp⟩ := a
    dsimp only at hsp hlt
    subst hsp
    refine ⟨ab, aoff, rfl, hlt, fun j u hj => ?_⟩
    rw [List.getElem?_map, List.getElem?_map] at hj
    have hjl : j < len := by
      rcases Nat.lt_or_ge j len with h | h
      · exact h
      · rw [List.getElem?_eq_none (by simpa using h)] at hj; simp at hj
    rw [List.getElem?_range hjl] at hj
    simp only [Option.map_some, Option.some.injEq] at hj
    rw [← hj, ← hbv j (by omega), ← Addr.add_lit]
    exact hcell j (by omega)
end Go.Proofs.YtnfnaedoejgpiaaDoor
