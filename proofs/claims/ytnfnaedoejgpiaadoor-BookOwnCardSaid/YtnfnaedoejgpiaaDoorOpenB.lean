/- A slice of bytes that comes in, as a list of bytes. -/
import Derived.Test.YtnfnaedoejgpiaaDoorLaid
import Derived.Carry
namespace Go.Proofs.YtnfnaedoejgpiaaDoor
open Go.ChangeShapes Go.WideShapes Go.ChangeAt Go.RowKit

theorem laidOutK : laidOutB Tryd.prog = true := by kernel_rfl
theorem cellsByte : Tryd.prog.cellsOf 5 = 1 := by kernel_rfl
/-- The number of the last place, and one more. -/
theorem cell_lt {w : World} {a : Addr} {v : Value} (h : w.cell? a = some v) : a.block < w.heap.size ∧ a.spot = none := by
  unfold World.cell? at h
  split at h
  · rename_i c t f hh
    refine ⟨(Array.getElem?_eq_some_iff.1 hh).1, ?_⟩
    split at h
    · cases h
    · rename_i hs; simpa using hs
  · cases h
theorem addr_spot {a : Addr} {w : World} {c : Nat} {f : Nat → Value} (h : ∀ i, i < c → w.cell? (a.add i) = some (f i)) (h0 : 0 < c) : a.block < w.heap.size ∧ a.spot = none := by
  have := cell_lt (h 0 h0)
  simpa [Addr.add] using this
set_option maxRecDepth 100000 in
/-- A slice that comes in lies below the heap's size. -/
theorem okWide_blk {W : World} {base : Nat} {v : Value} (h : Value.okWide Tryd.prog W .any base 26 v) : blkOf v ≤ W.heap.size := by
  unfold Value.okWide at h
  rw [Tryd.underlying26] at h
  unfold Cell.okWide at h
  rw [Tryd.underlying26] at h
  have h2 : Cell.ok Tryd.prog W .any base 26 v := by cases v <;> exact h
  unfold Cell.ok at h2
  rw [Tryd.underlying26] at h2
  cases v <;> try (simp [blkOf]; done)
  rename_i ao n c
  cases ao with
  | none => simp [blkOf]
  | some a =>
    obtain ⟨_, _, _, _, row, cells, hs, _⟩ := h2
    unfold World.shape? at hs
    split at hs
    · rename_i hh
      have := (Array.getElem?_eq_some_iff.1 hh).1
      simp only [blkOf]; omega
    · cases hs
theorem open_bytesT {H : Type} {enc : TypeId × Value → H} {W : World} {fuel : Nat} {cs : List Value} {x : DataW H × List MemPlace} (h : DataW.trod enc Tryd.prog W 0 (fun _ => true) true fuel 26 cs = some x) :
    ∃ ao n c r, cs = [.slice ao n c] ∧ r.length = n ∧ Bytes W (.slice ao n c) r := by
  rcases open_ints Tryd.underlying26 Tryd.underlying5 cellsByte h with ⟨rfl, rfl⟩ | ⟨a, len, cap, zs, rfl, -, hl, hm, hz, rfl, hc, hw⟩
  · exact ⟨none, 0, 0, [], rfl, rfl, ⟨none, 0, rfl, Nat.le_refl _, by simp, rfl, fun _ => rfl, fun h => absurd h (by simp)⟩⟩
  · simp only [if_true] at hz
    have hcell : ∀ i, i < cap → W.cell? (a.add i) = some (.int .u8 (zs.getD i 0)) := fun i hi => hc i (by omega)
    have hwf : ∀ i, i < cap → 0 ≤ zs.getD i 0 ∧ zs.getD i 0 < 256 := fun i hi => by
      have hmem : zs.getD i 0 ∈ zs := by
        rw [List.getD_eq_getElem?_getD, List.getElem?_eq_getElem (by omega)]
        exact List.getElem_mem _
      have := hw _ hmem
      have h1 : IntKind.u8.min = 0 := by decide
      have h2 : IntKind.u8.max = 255 := by decide
      generalize zs.getD i 0 = z at *
      simp [Lit.wf, h1, h2] at this
      omega
    have hbv : ∀ i, i < cap → Value.int .u8 (zs.getD i 0) = bv (UInt8.ofNat (zs.getD i 0).toNat) := fun i hi => by
      have := hwf i hi
      refine bv_of ?_
      generalize zs.getD i 0 = z at *
      simp; omega
    refine ⟨some a, len, cap, (List.range len).map (fun i => UInt8.ofNat (zs.getD i 0).toNat), rfl, by simp, ?_⟩
    refine ⟨some a, cap, by simp, by simpa using hl, hm, by simp, by simp, fun h0 => ?_⟩
    obtain ⟨hlt, hsp⟩ := addr_spot hcell h0
    obtain ⟨ab, aoff, asp⟩ := a
    dsimp only at hsp hlt
    subst hsp
    refine ⟨ab, aoff, rfl, hlt, fun j u hj => ?_⟩
    rw [List.getElem?_map, List.getElem?_map] at hj
    have hjl : j < len := by
      rcases Nat.lt_or_ge j len with h | h
      · exact h
      · rw [List.getElem?_eq_none (by simpa using h)] at hj; simp at hj
    rw [List.getElem?_range hjl] at hj
    simp only [Option.map_some, Option.some.injEq] at hj
    rw [← hj, ← hbv j (by omega), ← Addr.add_lit]
    exact hcell j (by omega)
end Go.Proofs.YtnfnaedoejgpiaaDoor
