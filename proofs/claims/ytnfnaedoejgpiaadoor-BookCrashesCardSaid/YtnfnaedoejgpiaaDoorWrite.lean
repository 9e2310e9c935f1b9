/- A record's parts; the sectors of a record, written. -/
import Derived.Test.YtnfnaedoejgpiaaDoorBook
namespace Go.Proofs.YtnfnaedoejgpiaaDoor
open Go.RowKit

/-- A record's parts. -/
def partsS : Nat → List UInt8 → List (List UInt8)
  | 0, l => [l]
  | f + 1, l => if 52 < l.length then l.take 52 :: partsS f (l.drop 52) else [l]
def parts52 (l : List UInt8) : List (List UInt8) := partsS l.length l
theorem partsS_more (f g : Nat) (l : List UInt8) (hf : l.length ≤ 52 * f + 52) (hg : l.length ≤ 52 * g + 52) : partsS f l = partsS g l := by
  induction f generalizing g l with
  | zero =>
    cases g with
    | zero => rfl
    | succ g => rw [partsS, partsS, if_neg (by omega)]
  | succ f ih =>
    rw [partsS]
    split
    · rename_i h
      cases g with
      | zero => omega
      | succ g => rw [partsS, if_pos h, ih g (l.drop 52) (by simp; omega) (by simp; omega)]
    · rename_i h
      cases g with
      | zero => rfl
      | succ g => rw [partsS, if_neg h]
theorem parts52_cons {l : List UInt8} (h : 52 < l.length) : parts52 l = l.take 52 :: parts52 (l.drop 52) := by
  unfold parts52
  rw [partsS_more l.length (l.length - 1 + 1) l (by omega) (by omega), partsS, if_pos h]
  rw [partsS_more (l.length - 1) (l.drop 52).length (l.drop 52) (by simp; omega) (by simp; omega)]
theorem parts52_one {l : List UInt8} (h : l.length ≤ 52) : parts52 l = [l] := by
  unfold parts52
  rw [partsS_more l.length 0 l (by omega) (by omega), partsS]
theorem parts52_len (l : List UInt8) : (parts52 l).length = max ((l.length + 51) / 52) 1 := by
  suffices h : ∀ (n : Nat) (l : List UInt8), l.length ≤ n → (parts52 l).length = max ((l.length + 51) / 52) 1 from h _ l (Nat.le_refl _)
  intro n
  induction n with
  | zero => intro l hl; rw [parts52_one (by omega)]; simp; omega
  | succ n ih =>
    intro l hl
    rcases Nat.lt_or_ge 52 l.length with h | h
    · rw [parts52_cons h, List.length_cons, ih (l.drop 52) (by simp; omega)]; simp; omega
    · rw [parts52_one h]; simp; omega
theorem parts52_le (l : List UInt8) : ∀ x ∈ parts52 l, x.length ≤ 52 := by
  suffices h : ∀ (n : Nat) (l : List UInt8), l.length ≤ n → ∀ x ∈ parts52 l, x.length ≤ 52 from h _ l (Nat.le_refl _)
  intro n
  induction n with
  | zero => intro l hl x hx; rw [parts52_one (by omega)] at hx; rw [List.mem_singleton.1 hx]; omega
  | succ n ih =>
    intro l hl x hx
    rcases Nat.lt_or_ge 52 l.length with h | h
    · rw [parts52_cons h] at hx
      rcases List.mem_cons.1 hx with rfl | hx
      · simp; omega
      · exact ih (l.drop 52) (by simp; omega) x hx
    · rw [parts52_one h] at hx; rw [List.mem_singleton.1 hx]; omega
/-- Slices of bytes, each in block bk or in none. -/
structure Cuts (w : World) (B bk : Nat) (v : Value) (vs : List Value) (ls : List (List UInt8)) : Prop where
  row : w.ownsRow B 26 1 v ls.length vs
  reads : Reads w vs ls
  at_ : ∀ x ∈ vs, blkE x = bk
theorem Cuts.app {w w' : World} {B bk : Nat} {v v' x : Value} {vs : List Value} {ls : List (List UInt8)} {l : List UInt8} (h : Cuts w B bk v vs ls) (hx : Bytes w x l) (hxb : blkE x = bk) (hbk : bk ≤ B)
    (ha : Apped B 26 1 v ls.length 1 vs [x] w v' w') : Cuts w' B bk v' (vs ++ [x]) (ls ++ [l]) := by
  have hk : ∀ k ∈ v.ownBlock.toList, bk ≠ k + 1 := by
    intro k hk
    rw [own_block] at hk
    split at hk
    · simp at hk
    · simp at hk; have := (own_lt h.row).2; omega
  refine ⟨by simpa using ha.own, ⟨by simp [h.reads.1], fun i h1 h2 => ?_⟩, fun y hy => ?_⟩
  · rcases Nat.lt_or_ge i vs.length with hi | hi
    · have hi' : i < ls.length := by rw [← h.reads.1]; exact hi
      rw [List.getElem_append_left hi, List.getElem_append_left hi']
      exact (h.reads.2 i hi hi').updE ha.upd (by rw [h.at_ _ (List.getElem_mem hi)]; exact hk)
    · have : i = vs.length := by simp at h1; omega
      subst this
      have := h.reads.1
      simp only [List.getElem_append_right (Nat.le_refl _), List.getElem_append_right (Nat.le_of_eq h.reads.1.symm)]
      have := hx.updE ha.upd (by rw [hxb]; exact hk)
      simpa [‹vs.length = ls.length›] using this
  · rcases List.mem_append.1 hy with hy | hy
    · exact h.at_ y hy
    · rw [List.mem_singleton.1 hy]; exact hxb
theorem Cuts.upd0 {w w' : World} {B bk : Nat} {v : Value} {vs : List Value} {ls : List (List UInt8)} (h : Cuts w B bk v vs ls) (hu : Upd [] w w') : Cuts w' B bk v vs ls := ⟨own_upd h.row hu (by simp), h.reads.upd0 hu, h.at_⟩
def PartsPost (W : World) (bk : Nat) (ls : List (List UInt8)) (e : Ending) (w : World) : Prop :=
  ∃ ao c vs, e = .returned (.slice ao ls.length c) ∧ Cuts w W.heap.size bk (.slice ao ls.length c) vs ls ∧ Upd [] W w
def RelParts (W : World) (bk : Nat) (l : List UInt8) (r v : Value) (w : World) : Prop :=
  ∃ (done : List (List UInt8)) (x : List UInt8) (vs : List Value), done ++ parts52 x = parts52 l ∧ 52 * done.length + x.length = l.length ∧ (∃ ao c, r = .slice ao x.length c) ∧ blkE r = bk ∧ Bytes w r x ∧ (∃ ao c, v = .slice ao done.length c) ∧ Cuts w W.heap.size bk v vs done ∧ Upd [] W w
set_option maxRecDepth 4000 in
set_option maxHeartbeats 1000000 in
theorem bparts_any (w : World) (ro : Option Addr) (rc : Nat) (l : List UInt8) (hr : Bytes w (.slice ro l.length rc) l) (hb : blkE (.slice ro l.length rc) ≤ w.heap.size) (hl : l.length ≤ 1000000000) :
    Calls Tryd.prog 29 #[.slice ro l.length rc] w (PartsPost w (blkE (.slice ro l.length rc)) (parts52 l)) := by
  obtain ⟨bk, hbk⟩ : ∃ bk, blkE (.slice ro l.length rc) = bk := ⟨_, rfl⟩
  rw [hbk] at hb ⊢
  have HS := Lib.hid (And.intro hr hbk)
  clear hr hbk
  go_enter Tryd.func29, Tryd.ntmps29
  go_wp2_with fail
  go_loopw [0, 3] (RelParts w bk l) (fun r _ _ => lenV r)
  case atStart => exact ⟨[], l, [], rfl, by simp, ⟨_, _, rfl⟩, HS.out.2, HS.out.1, ⟨none, 0, rfl⟩, ⟨World.ownsRow_nil _ _ _ _, ⟨rfl, fun i h => by simp at h⟩, by simp⟩, Upd.refl _ _⟩
  case round =>
    obtain ⟨done, x, vs, h1, h2, ⟨ao, c, rfl⟩, h3, h4, ⟨vo, vc, rfl⟩, h5, h6⟩ := hrel
    obtain ⟨n, hn⟩ : ∃ n, x.length = n := ⟨_, rfl⟩
    have hc : n ≤ c := by obtain ⟨_, _, hv, h0, _⟩ := h4; simp only [Value.slice.injEq] at hv; omega
    have hdl : 52 * done.length + n = l.length := by omega
    have HX := Lib.hid (And.intro hn (And.intro h1 (And.intro h3 (And.intro h4 (And.intro h5 h6)))))
    rw [hn]
    clear hn h1 h2 h3 h4 h5 h6
    rcases Nat.lt_or_ge 52 n with hlt | hge
    · have hx52 := HX.out.1
      obtain ⟨b, o, rfl, hbs, -⟩ := Sl.addr (m := n) (size := 1) (by have := HX.out.2.2.2.1; unfold Bytes at this; rw [hx52] at this; exact this) (by omega)
      have hB1 : Bytes wr (.slice (some ⟨b, o, none⟩) 52 c) (x.take 52) := bytes_take HX.out.2.2.2.1 (by omega)
      have hB2 : ∀ A, (c ≠ 52 → A = some ⟨b, o + 52, none⟩) → Bytes wr (.slice A (n - 52) (c - 52)) (x.drop 52) := fun A hA => by
        have := bytes_drop (m := 52) (A := A) HX.out.2.2.2.1 (by omega) (by intro h; rw [hA h]; simp [Addr.add_lit])
        rw [hx52] at this; exact this
      have HB := Lib.hid (And.intro hB1 hB2)
      have hc2 : (52 : Int) ≤ (c : Int) := by omega
      have hc3 : 52 < c := by omega
      clear hx52 hB1 hB2
      have hbk : b + 1 = bk := by have := HX.out.2.2.1; simp only [blkE] at this; rw [if_neg (by omega)] at this; exact this
      have HBK := Lib.hid hbk
      clear hbk
      have hC : Cuts (wr.alloc (.cells #[.slice (some ⟨b, o, none⟩) 52 c] 26)) w.heap.size bk (.slice vo done.length vc) vs done := HX.out.2.2.2.2.1.upd0 ((Upd.refl [] wr).alloc _)
      have hB1 := HB.out.1.upd ((Upd.refl [] wr).alloc (.cells #[.slice (some ⟨b, o, none⟩) 52 c] 26)) (by simp)
      have hsz := HX.out.2.2.2.2.2.size
      have HA := Lib.hid (And.intro hC (And.intro hB1 (And.intro hsz (Blk.new wr #[.slice (some ⟨b, o, none⟩) 52 c] 26).sl1)))
      clear hC hB1 hsz
      go_wp2_with (at_builtin; refine wpList_app _ rfl (.tmp 7) (.tmp 10) 24 rfl w.heap.size 26 (.slice none 0 0) 1 24 Tryd.underlying24 info_bytes rfl (by decide) (.slice vo done.length vc) done.length vs rfl HA.out.1.row (.slice (some ⟨wr.heap.size, 0, none⟩) 1 1) 1 [.slice (some ⟨b, o, none⟩) 52 c] rfl HA.out.2.2.2 (by simp [Value.oneCell']) (by omega) (by decide) (by have := HA.out.2.2.1; simp; omega) ?_)
      intro ao2 c2 w2 h2
      have hlx : (x.take 52).length = 52 := by have := HX.out.1; simp; omega
      have hC2 := Cuts.app (l := x.take 52) (x := .slice (some ⟨b, o, none⟩) 52 c) HA.out.1 (by unfold Bytes; rw [hlx]; have := HA.out.2.1; unfold Bytes at this; rw [hlx] at this; exact this) (by simp only [blkE]; rw [if_neg (by omega)]; exact HBK.out) hb h2
      have hsep : ∀ k ∈ (Value.slice vo done.length vc).ownBlock.toList, w.heap.size ≤ k := fun k hk => by
        have := own_lt HA.out.1.row
        rw [own_block] at hk
        split at hk
        · simp at hk
        · simp at hk; omega
      have hu2 : Upd [] w w2 := (HX.out.2.2.2.2.2.alloc _).trans h2.upd (fun k hk => .inr (hsep k hk))
      have hB2 : Bytes w2 (.slice (some ⟨b, o + 52, none⟩) (n - 52) (c - 52)) (x.drop 52) :=
        ((HB.out.2 _ (fun _ => rfl)).upd ((Upd.refl [] wr).alloc _) (by simp)).upd h2.upd (fun k hk => by have := hsep k hk; have := HBK.out; simp only [blkOf]; omega)
      have hpc := parts52_cons (l := x) (by have := HX.out.1; omega)
      have hdrop : (x.drop 52).length = n - 52 := by have := HX.out.1; simp; omega
      have H2 := Lib.hid (And.intro hC2 (And.intro hu2 (And.intro hB2 (And.intro hpc hdrop))))
      clear hC2 hu2 h2 hlx hsep hB2 hpc hdrop
      go_wp2
      go_roundw
      case rel =>
        refine ⟨done ++ [x.take 52], x.drop 52, _, ?_, ?_, ⟨_, _, by rw [H2.out.2.2.2.2]⟩, by simp only [blkE]; rw [if_neg (by omega)]; exact HBK.out, H2.out.2.2.1, ⟨ao2, c2, by simp⟩, H2.out.1, H2.out.2.1⟩
        · rw [List.append_assoc, ← HX.out.2.1, H2.out.2.2.2.1]; rfl
        · rw [H2.out.2.2.2.2]; simp; omega
      case measure => simp only [lenV]; omega
    · have hx1 := parts52_one (l := x) (by have := HX.out.1; omega)
      have hC : Cuts (wr.alloc (.cells #[.slice ao n c] 26)) w.heap.size bk (.slice vo done.length vc) vs done := HX.out.2.2.2.2.1.upd0 ((Upd.refl [] wr).alloc _)
      have hB1 := HX.out.2.2.2.1.upd ((Upd.refl [] wr).alloc (.cells #[.slice ao n c] 26)) (by simp)
      rw [HX.out.1] at hB1
      have hbk := HX.out.2.2.1
      rw [HX.out.1] at hbk
      have hsz := HX.out.2.2.2.2.2.size
      have HA := Lib.hid (And.intro hC (And.intro hB1 (And.intro hsz (And.intro (Blk.new wr #[.slice ao n c] 26).sl1 (And.intro hx1 hbk)))))
      clear hC hB1 hsz hx1 hbk
      go_wp2_with (at_builtin; refine wpList_app _ rfl (.tmp 14) (.tmp 16) 24 rfl w.heap.size 26 (.slice none 0 0) 1 24 Tryd.underlying24 info_bytes rfl (by decide) (.slice vo done.length vc) done.length vs rfl HA.out.1.row (.slice (some ⟨wr.heap.size, 0, none⟩) 1 1) 1 [.slice ao n c] rfl HA.out.2.2.2.1 (by simp [Value.oneCell']) (by omega) (by decide) (by have := HA.out.2.2.1; simp; omega) ?_)
      intro ao2 c2 w2 h2
      have hsep : ∀ k ∈ (Value.slice vo done.length vc).ownBlock.toList, w.heap.size ≤ k := fun k hk => by
        have := own_lt HA.out.1.row
        rw [own_block] at hk
        split at hk
        · simp at hk
        · simp at hk; omega
      have hC2 := Cuts.app (l := x) (x := .slice ao n c) HA.out.1 (by unfold Bytes; rw [HX.out.1]; exact HA.out.2.1) HA.out.2.2.2.2.2 hb h2
      have hu2 : Upd [] w w2 := (HX.out.2.2.2.2.2.alloc _).trans h2.upd (fun k hk => .inr (hsep k hk))
      have he : done ++ [x] = parts52 l := by rw [← HX.out.2.1, HA.out.2.2.2.2.1]
      rw [he] at hC2
      have hel : done.length + 1 = (parts52 l).length := by rw [← he]; simp
      rw [hel] at hC2 ⊢
      have H2 := Lib.hid (And.intro hC2 hu2)
      clear hC2 hu2 h2 hsep he hel
      go_wp2
      go_ret
      exact ⟨_, _, _, rfl, H2.out.1, H2.out.2⟩
end Go.Proofs.YtnfnaedoejgpiaaDoor
