/- Slices of slices of bytes, each in new memory: what an append of one more leaves. -/
import Derived.Test.YtnfnaedoejgpiaaDoorNew
namespace Go.Proofs.YtnfnaedoejgpiaaDoor
open Go.RowKit

theorem own_ne2 {w : World} {B B' e e' s s' n n' : Nat} {v v' : Value} {xs xs' : List Value} (h : w.ownsRow B e s v n xs) (h' : w.ownsRow B' e' s' v' n' xs') (ht : e ≠ e') : blkOf v = 0 ∨ blkOf v ≠ blkOf v' := by
  rcases h.2 with ⟨rfl, rfl⟩ | ⟨g, cap, cur, rfl, hg, hh, r⟩
  · exact .inl rfl
  · right
    rcases h'.2 with ⟨rfl, rfl⟩ | ⟨g', cap', cur', rfl, hg', hh', r'⟩
    · simp [blkOf]
    · intro he; simp [blkOf] at he; subst he
      exact ht (Blk.same (w := w) hh hh').2
/-- The slices vs are the bytes ls, each in a block of its own kind from B on. -/
def Owns (w : World) (B : Nat) (vs : List Value) (ls : List (List UInt8)) : Prop :=
  vs.length = ls.length ∧ ∀ i (h : i < vs.length) (h' : i < ls.length), w.ownsRow B 5 1 vs[i] ls[i].length (ls[i].map bv)
structure RowsAt (w : World) (B : Nat) (v : Value) (vs : List Value) (ls : List (List UInt8)) : Prop where
  row : w.ownsRow B 26 1 v ls.length vs
  all : Owns w B vs ls
theorem Owns.upd {S : List Nat} {w w' : World} {B : Nat} {vs : List Value} {ls : List (List UInt8)} (h : Owns w B vs ls) (hu : Upd S w w') (hS : ∀ x ∈ vs, ∀ k ∈ S, blkOf x ≠ k + 1) : Owns w' B vs ls :=
  ⟨h.1, fun i h1 h2 => own_upd (h.2 i h1 h2) hu (hS _ (List.getElem_mem h1))⟩
theorem RowsAt.upd {S : List Nat} {w w' : World} {B : Nat} {v : Value} {vs : List Value} {ls : List (List UInt8)} (h : RowsAt w B v vs ls) (hu : Upd S w w') (hv : ∀ k ∈ S, blkOf v ≠ k + 1) (hS : ∀ x ∈ vs, ∀ k ∈ S, blkOf x ≠ k + 1) : RowsAt w' B v vs ls :=
  ⟨own_upd h.row hu hv, h.all.upd hu hS⟩
theorem RowsAt.upd0 {w w' : World} {B : Nat} {v : Value} {vs : List Value} {ls : List (List UInt8)} (h : RowsAt w B v vs ls) (hu : Upd [] w w') : RowsAt w' B v vs ls := h.upd hu (by simp) (by simp)
theorem RowsAt.nil (w : World) (B : Nat) : RowsAt w B (.slice none 0 0) [] [] := ⟨World.ownsRow_nil _ _ _ _, rfl, fun i h => by simp at h⟩
theorem RowsAt.len {w : World} {B : Nat} {v : Value} {vs : List Value} {ls : List (List UInt8)} (h : RowsAt w B v vs ls) : vs.length = ls.length := h.all.1
theorem Owns.mem {w : World} {B : Nat} {vs : List Value} {ls : List (List UInt8)} (h : Owns w B vs ls) {x : Value} (hx : x ∈ vs) : ∃ l ∈ ls, w.ownsRow B 5 1 x l.length (l.map bv) := by
  obtain ⟨i, hi, rfl⟩ := List.mem_iff_getElem.1 hx
  exact ⟨ls[i]'(by rw [← h.1]; exact hi), List.getElem_mem _, h.2 i hi _⟩
theorem Owns.snoc {w : World} {B : Nat} {vs : List Value} {ls : List (List UInt8)} {x : Value} {l : List UInt8} (h : Owns w B vs ls) (hx : w.ownsRow B 5 1 x l.length (l.map bv)) : Owns w B (vs ++ [x]) (ls ++ [l]) := by
  refine ⟨by simp [h.1], fun i h1 h2 => ?_⟩
  rcases Nat.lt_or_ge i vs.length with hi | hi
  · have hi' : i < ls.length := by rw [← h.1]; exact hi
    rw [List.getElem_append_left hi, List.getElem_append_left hi']
    exact h.2 i hi hi'
  · have : i = vs.length := by simp at h1; omega
    subst this
    have := h.1
    simp only [List.getElem_append_right (Nat.le_refl _), List.getElem_append_right (Nat.le_of_eq h.1.symm)]
    simpa [this] using hx
/-- Behind an append of one more. -/
theorem RowsAt.app {w w' : World} {B : Nat} {v v' x : Value} {vs : List Value} {ls : List (List UInt8)} {l : List UInt8} (h : RowsAt w B v vs ls) (hx : w.ownsRow B 5 1 x l.length (l.map bv))
    (ha : Apped B 26 1 v ls.length 1 vs [x] w v' w') : RowsAt w' B v' (vs ++ [x]) (ls ++ [l]) := by
  have hk : ∀ {y : Value} {n : Nat} {ys : List Value}, w.ownsRow B 5 1 y n ys → ∀ k ∈ v.ownBlock.toList, blkOf y ≠ k + 1 := by
    intro y n ys hy k hk
    rw [own_block] at hk
    split at hk
    · simp at hk
    · simp at hk; rcases own_ne2 h.row hy (by decide) with h0 | h0 <;> omega
  refine ⟨by simpa using ha.own, (Owns.snoc ?_ (own_upd hx ha.upd (hk hx)))⟩
  exact h.all.upd ha.upd (fun y hy => by obtain ⟨l, _, ho⟩ := h.all.mem hy; exact hk ho)
theorem info_bytes : (Tryd.prog.info? 26).map (fun i => (i.zero, i.size, i.bytes)) = some (some (.slice none 0 0), 1, 24) := by kernel_rfl
theorem Owns.parts {w : World} {B : Nat} {vs : List Value} {ls : List (List UInt8)} (h : Owns w B vs ls) (hl : ∀ l ∈ ls, l.length ≤ 10000000) : vs.length = ls.length ∧ ∀ i (h : i < vs.length) (h' : i < ls.length), Bytes w vs[i] ls[i] ∧ blkOf vs[i] ≤ w.heap.size ∧ ls[i].length ≤ 10000000 :=
  ⟨h.1, fun i h1 h2 => ⟨own_sl (h.2 i h1 h2), (own_lt (h.2 i h1 h2)).1, hl _ (List.getElem_mem _)⟩⟩
end Go.Proofs.YtnfnaedoejgpiaaDoor
