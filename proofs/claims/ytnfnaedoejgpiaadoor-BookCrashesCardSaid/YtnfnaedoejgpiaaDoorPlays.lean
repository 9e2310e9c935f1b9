/- A book without a fuse, call by call: plain lists of bytes. No program stands here. -/
import Derived.Test.YtnfnaedoejgpiaaDoorRefRead
import Derived.Test.YtnfnaedoejgpiaaDoorShaEq
import Derived.Test.YtnfnaedoejgpiaaDoorRefHash
namespace Go.Proofs.YtnfnaedoejgpiaaDoor
open Go.RowKit

/-- The records' fingerprint, by the program's own link. -/
def hashO (ls : List (List UInt8)) : List UInt8 := ls.foldl linkOf (List.replicate 32 0)
theorem hashO_snoc (ls : List (List UInt8)) (x : List UInt8) : hashO (ls ++ [x]) = linkOf (hashO ls) x := by
  unfold hashO
  rw [List.foldl_append, List.foldl_cons, List.foldl_nil]
theorem foldl_same {α β : Type} {f g : β → α → β} {P : β → Prop} {Q : α → Prop} (hfg : ∀ h r, P h → Q r → f h r = g h r) (hP : ∀ h r, P (g h r)) : ∀ (ls : List α) (h : β), P h → (∀ r ∈ ls, Q r) → ls.foldl f h = ls.foldl g h
  | [], _, _, _ => rfl
  | r :: rs, h, hh, hr => by
    rw [List.foldl_cons, List.foldl_cons, hfg h r hh (hr r (by simp))]
    exact foldl_same hfg hP rs _ (hP h r) (fun x hx => hr x (by simp [hx]))
theorem hashO_eq (ls : List (List UInt8)) (hr : ∀ r ∈ ls, r.length ≤ 1000000) : hashO ls = hashB ls := by
  unfold hashO hashB
  exact foldl_same (f := linkOf) (g := linkB) (P := fun h => h.length = 32) (Q := fun r => r.length ≤ 1000000) (fun h r hh hr => link_same h r (by omega)) (fun h r => linkB_len h r) ls _ (by simp) hr
/-- A book of m sectors that has taken the records 'want', each in one go. -/
structure PlayS (m : Nat) (want : List (List UInt8)) (b : BookS) (D : DiskS) : Prop where
  over : b.over = false
  recs : b.recs = want
  gen : b.gen = 1
  fuse : D.fuse = -1
  waits : D.waits = []
  now : D.now = bookSecs 1 1 want ++ List.replicate (m - b.next) zeros
  next : b.next = (bookSecs 1 1 want).length
  le : b.next ≤ m
  lens : ∀ r ∈ want, r.length ≤ 4096
  hash : b.hash = hashO want
theorem PlayS.start (m : Nat) : PlayS m [] ⟨1, 0, [], List.replicate 32 0, false⟩ (DiskS.new m) :=
  ⟨rfl, rfl, rfl, rfl, rfl, rfl, rfl, Nat.zero_le _, by simp, by unfold hashO; rfl⟩
theorem PlayS.len {m : Nat} {want : List (List UInt8)} {b : BookS} {D : DiskS} (h : PlayS m want b D) : D.now.length = m := by
  have := h.le
  rw [h.now, List.length_append, List.length_replicate, ← h.next]; omega
theorem PlayS.long {m : Nat} {want : List (List UInt8)} {b : BookS} {D : DiskS} (h : PlayS m want b D) {r : List UInt8} (hl : 4096 < r.length) : appendS b D r = (b, D, 3) := by
  unfold appendS; rw [if_neg (by rw [h.over]; decide), if_pos hl]
theorem PlayS.full {m : Nat} {want : List (List UInt8)} {b : BookS} {D : DiskS} (h : PlayS m want b D) {r : List UInt8} (hl : r.length ≤ 4096) (hf : m - b.next < (parts52 r).length) : appendS b D r = (b, D, 4) := by
  unfold appendS; rw [if_neg (by rw [h.over]; decide), if_neg (by omega), if_pos (by rw [h.len]; exact hf)]
theorem PlayS.add {m : Nat} {want : List (List UInt8)} {b : BookS} {D : DiskS} (h : PlayS m want b D) {r : List UInt8} (hl : r.length ≤ 4096) (hf : (parts52 r).length ≤ m - b.next) :
    ∃ b' D', appendS b D r = (b', D', 0) ∧ PlayS m (want ++ [r]) b' D' ∧ b'.next = b.next + (parts52 r).length := by
  have hg := appendS_good (b := b) (D := D) (r := r) h.over hl (by rw [h.len]; exact hf) (by rw [h.fuse]; decide)
  have hb := bwrite_good (b.recs.length + 1) b.gen b.next (parts52 r).length (parts52 r) D 0 (by rw [h.fuse]; decide)
  have hn := bwrite_now (b.recs.length + 1) b.gen b.next (parts52 r).length (parts52 r) D 0 (bookSecs 1 1 want) (List.replicate (parts52 r).length zeros) (List.replicate (m - (b.next + (parts52 r).length)) zeros) (by rw [h.fuse]; decide) (by
    rw [h.now, List.append_assoc, List.replicate_append_replicate]; congr 2; omega) (by rw [← h.next]; omega) (by simp)
  rw [hg]
  have hle := h.le
  have hh := h.hash
  refine ⟨_, _, rfl, ⟨h.over, ?_, h.gen, ?_, hb.2.2, ?_, ?_, ?_, ?_, ?_⟩, rfl⟩
  · dsimp only; rw [h.recs]
  · rw [hb.2.1]; exact h.fuse
  · dsimp only
    rw [hn, bookSecs_snoc, h.recs, h.gen, show 1 + want.length = want.length + 1 by omega]
    rfl
  · dsimp only
    rw [bookSecs_snoc, List.length_append, recSecs_len, ← h.next]
  · dsimp only; omega
  · intro x hx
    rcases List.mem_append.1 hx with hx | hx
    · exact h.lens x hx
    · rw [List.mem_singleton.1 hx]; exact hl
  · dsimp only
    rw [hashO_snoc, ← hh]
theorem PlayS.read {m : Nat} {want : List (List UInt8)} {b : BookS} {D : DiskS} (h : PlayS m want b D) : readR D.now = (want, b.next) := by
  rw [h.now, h.next]
  exact readR_good (by decide) (by decide) h.lens _
theorem PlayS.hashB {m : Nat} {want : List (List UInt8)} {b : BookS} {D : DiskS} (h : PlayS m want b D) : b.hash = hashB want := by
  rw [h.hash]
  exact hashO_eq want (fun r hr => by have := h.lens r hr; omega)
theorem PlayS.few {m : Nat} {want : List (List UInt8)} {b : BookS} {D : DiskS} (h : PlayS m want b D) : want.length ≤ b.next := by
  have : ∀ (rs : List (List UInt8)) (num : Nat), rs.length ≤ (bookSecs 1 num rs).length := by
    intro rs
    induction rs with
    | nil => intro _; exact Nat.le_refl _
    | cons r rs ih => intro num; have := ih (num + 1); have := parts52_len r; simp [bookSecs, recSecs_len]; omega
  rw [h.next]; exact this want 1
end Go.Proofs.YtnfnaedoejgpiaaDoor
