/- What the reference reads out of sectors, and what a book without a fuse writes: plain lists of bytes. No program stands here. -/
import Derived.Test.YtnfnaedoejgpiaaDoorAwake
import Derived.Test.YtnfnaedoejgpiaaDoorRefNum
namespace Go.Proofs.YtnfnaedoejgpiaaDoor
open Go.RowKit

/-- How many bytes a sector says that it holds. -/
def sizR (s : List UInt8) : Nat := (s.getD 10 0).toNat * 256 + (s.getD 11 0).toNat
/-- The reference's record, its sectors from i on; none: they are no record's. -/
def oneGo (ss : List (List UInt8)) (at_ n g count : Nat) : Nat → Nat → List UInt8 → Option (List UInt8)
  | 0, _, all => some all
  | f + 1, i, all =>
    let s := ss.getD (at_ + i) []
    if 52 < sizR s ∨ (i + 1 < count ∧ sizR s ≠ 52) then none
    else if s ≠ secOf n g i count ((s.drop 12).take (sizR s)) then none
    else oneGo ss at_ n g count f (i + 1) (all ++ (s.drop 12).take (sizR s))
def oneEnd (g count : Nat) : Option (List UInt8) → List UInt8 × Nat × Nat
  | none => ([], 0, 0)
  | some all => (all, g, count)
/-- The record that stands at a sector, by the reference. -/
def oneR (ss : List (List UInt8)) (at_ n least : Nat) : List UInt8 × Nat × Nat :=
  if ss.length ≤ at_ then ([], 0, 0)
  else
    let s := ss.getD at_ []
    let count := (s.getD 9 0).toNat
    let g := numB (s.drop 4)
    if count < 1 ∨ 79 < count ∨ ss.length < at_ + count ∨ g < least then ([], 0, 0)
    else oneEnd g count (oneGo ss at_ n g count count 0 [])
/-- All records of sectors, by the reference, and where they end. -/
def readGo (ss : List (List UInt8)) : Nat → Nat → List (List UInt8) → Nat → List (List UInt8) × Nat
  | 0, at_, out, _ => (out, at_)
  | f + 1, at_, out, least =>
    let r := oneR ss at_ (out.length + 1) least
    if r.2.2 = 0 ∨ 4096 < r.1.length then (out, at_) else readGo ss f (at_ + r.2.2) (out ++ [r.1]) r.2.1
def readR (ss : List (List UInt8)) : List (List UInt8) × Nat := readGo ss (ss.length + 1) 0 [] 1
/-- A record's sectors, from part i on. -/
def secsFrom (num gen cnt : Nat) : Nat → List (List UInt8) → List (List UInt8)
  | _, [] => []
  | i, x :: xs => secOf num gen i cnt x :: secsFrom num gen cnt (i + 1) xs
def recSecs (num gen : Nat) (r : List UInt8) : List (List UInt8) := secsFrom num gen (parts52 r).length 0 (parts52 r)
def bookSecs (gen : Nat) : Nat → List (List UInt8) → List (List UInt8)
  | _, [] => []
  | num, r :: rs => recSecs num gen r ++ bookSecs gen (num + 1) rs
theorem secsFrom_len (num gen cnt : Nat) : ∀ (i : Nat) (xs : List (List UInt8)), (secsFrom num gen cnt i xs).length = xs.length
  | _, [] => rfl
  | i, x :: xs => by simp [secsFrom, secsFrom_len num gen cnt (i + 1) xs]
theorem recSecs_len (num gen : Nat) (r : List UInt8) : (recSecs num gen r).length = (parts52 r).length := secsFrom_len _ _ _ _ _
theorem secsFrom_at (num gen cnt : Nat) : ∀ (i : Nat) (xs : List (List UInt8)) (j : Nat) (h : j < xs.length), (secsFrom num gen cnt i xs)[j]? = some (secOf num gen (i + j) cnt xs[j])
  | i, x :: xs, 0, h => rfl
  | i, x :: xs, j + 1, h => by
    have := secsFrom_at num gen cnt (i + 1) xs j (by simpa using h)
    rw [secsFrom, List.getElem?_cons_succ, this]
    simp only [List.getElem_cons_succ]
    rw [show i + 1 + j = i + (j + 1) by omega]
theorem bookSecs_snoc (gen : Nat) : ∀ (num : Nat) (rs : List (List UInt8)) (r : List UInt8), bookSecs gen num (rs ++ [r]) = bookSecs gen num rs ++ recSecs (num + rs.length) gen r
  | num, [], r => by simp [bookSecs]
  | num, x :: xs, r => by
    rw [List.cons_append, bookSecs, bookSecs, bookSecs_snoc gen (num + 1) xs r, List.append_assoc]
    rw [show num + 1 + xs.length = num + (x :: xs).length by simp; omega]
theorem parts52_ind {C : List UInt8 → Prop} (h1 : ∀ l : List UInt8, l.length ≤ 52 → C l) (h2 : ∀ l : List UInt8, 52 < l.length → C (l.drop 52) → C l) : ∀ (n : Nat) (l : List UInt8), l.length ≤ n → C l
  | 0, l, h => h1 l (by omega)
  | n + 1, l, h => by
    rcases Nat.lt_or_ge 52 l.length with h3 | h3
    · exact h2 l h3 (parts52_ind h1 h2 n _ (by simp; omega))
    · exact h1 l h3
theorem parts52_flat (l : List UInt8) : (parts52 l).flatten = l := by
  refine parts52_ind (C := fun l => (parts52 l).flatten = l) (fun l h => ?_) (fun l h ih => ?_) l.length l (Nat.le_refl _)
  · rw [parts52_one h]; simp
  · rw [parts52_cons h, List.flatten_cons, ih, List.take_append_drop]
theorem parts52_full (l : List UInt8) : ∀ j (h : j < (parts52 l).length), j + 1 < (parts52 l).length → (parts52 l)[j].length = 52 := by
  refine parts52_ind (C := fun l => ∀ j (h : j < (parts52 l).length), j + 1 < (parts52 l).length → (parts52 l)[j].length = 52) (fun l h => ?_) (fun l h ih => ?_) l.length l (Nat.le_refl _)
  · rw [parts52_one h]; intro j h1 h2; simp at h2
  · rw [parts52_cons h]
    intro j h1 h2
    cases j with
    | zero => simp; omega
    | succ j => exact ih j (by simpa using h1) (by simpa using h2)
theorem sec_parts (n g i c : Nat) {x : List UInt8} (hx : x.length ≤ 52) (hc : c < 256) (hg : g < 4294967296) : sizR (secOf n g i c x) = x.length ∧ ((secOf n g i c x).drop 12).take x.length = x ∧ ((secOf n g i c x).getD 9 0).toNat = c ∧ numB ((secOf n g i c x).drop 4) = g := by
  obtain ⟨n0, n1, n2, n3, hn⟩ : ∃ a b c d, be n 4 = [a, b, c, d] := ⟨_, _, _, _, rfl⟩
  have hge : be g 4 = [UInt8.ofNat (g / 256 ^ 3), UInt8.ofNat (g / 256 ^ 2), UInt8.ofNat (g / 256 ^ 1), UInt8.ofNat (g / 256 ^ 0)] := rfl
  have e1 : be i 1 = [UInt8.ofNat i] := by simp [be]
  have e2 : be c 1 = [UInt8.ofNat c] := by simp [be]
  have e3 : be x.length 2 = [0, UInt8.ofNat x.length] := by
    simp only [be, Nat.pow_one, Nat.pow_zero, Nat.div_one]
    rw [Nat.div_eq_of_lt (by omega)]; rfl
  unfold secOf secHead
  rw [hn, hge, e1, e2, e3]
  refine ⟨?_, ?_, ?_, ?_⟩
  · simp [sizR]; omega
  · simp
  · simp; omega
  · simp [numB]; omega
theorem oneGo_good {ss : List (List UInt8)} {at_ n g : Nat} {ps : List (List UInt8)} (hss : ∀ j (h : j < ps.length), ss[at_ + j]? = some (secOf n g j ps.length ps[j])) (h52 : ∀ x ∈ ps, x.length ≤ 52) (hful : ∀ j (h : j < ps.length), j + 1 < ps.length → ps[j].length = 52) (hc : ps.length < 256) (hg : g < 4294967296) :
    ∀ (f i : Nat) (all : List UInt8), i + f = ps.length → oneGo ss at_ n g ps.length f i all = some (all ++ (ps.drop i).flatten)
  | 0, i, all, h => by
    rw [oneGo, List.drop_eq_nil_of_le (by omega)]; simp
  | f + 1, i, all, h => by
    have hi : i < ps.length := by omega
    have hs := hss i hi
    have hx := h52 ps[i] (List.getElem_mem hi)
    obtain ⟨s1, s2, _, _⟩ := sec_parts n g i ps.length hx hc hg
    have e : ss.getD (at_ + i) [] = secOf n g i ps.length ps[i] := by rw [List.getD_eq_getElem?_getD, hs]; rfl
    rw [oneGo]
    rw [e, s1, s2, if_neg (by
      have := hful i hi
      rintro (h1 | ⟨h1, h2⟩)
      · omega
      · exact h2 (this h1)), if_neg (by simp), oneGo_good hss h52 hful hc hg f (i + 1) _ (by omega), List.drop_eq_getElem_cons hi, List.flatten_cons, List.append_assoc]
theorem oneR_good {ss : List (List UInt8)} {at_ n g least : Nat} {r : List UInt8} (hss : ∀ j (h : j < (parts52 r).length), ss[at_ + j]? = some (secOf n g j (parts52 r).length (parts52 r)[j])) (hl : r.length ≤ 4096) (hg : g < 4294967296) (hle : least ≤ g) :
    oneR ss at_ n least = (r, g, (parts52 r).length) := by
  have hlen := parts52_len r
  have h0 : 0 < (parts52 r).length := by omega
  have hs0 := hss 0 h0
  have h52 := parts52_le r
  obtain ⟨s1, s2, s3, s4⟩ := sec_parts n g 0 (parts52 r).length (h52 _ (List.getElem_mem h0)) (by omega) hg
  have hlast := hss ((parts52 r).length - 1) (by omega)
  have hlt := (List.getElem?_eq_some_iff.1 hlast).1
  have e : ss.getD at_ [] = secOf n g 0 (parts52 r).length (parts52 r)[0] := by rw [List.getD_eq_getElem?_getD]; rw [Nat.add_zero] at hs0; rw [hs0]; rfl
  unfold oneR
  rw [if_neg (by omega)]
  dsimp only
  rw [e, s3, s4, if_neg (by omega), oneGo_good hss h52 (parts52_full r) (by omega) hg _ 0 [] (by omega)]
  simp [parts52_flat, oneEnd]
theorem oneR_zero {ss : List (List UInt8)} {at_ n least : Nat} (h : ∀ s, ss[at_]? = some s → s = zeros) : oneR ss at_ n least = ([], 0, 0) := by
  unfold oneR
  rcases Nat.lt_or_ge at_ ss.length with h1 | h1
  · rw [if_neg (by omega)]
    have e : ss.getD at_ [] = zeros := by rw [List.getD_eq_getElem?_getD, List.getElem?_eq_getElem h1]; exact h _ (List.getElem?_eq_getElem h1)
    rw [e, if_pos (.inl (by decide))]
  · rw [if_pos h1]
theorem readGo_good (gen : Nat) (hg : 1 ≤ gen) (hg2 : gen < 4294967296) (post : List (List UInt8)) (hz : ∀ s, post[0]? = some s → s = zeros) : ∀ (rs done : List (List UInt8)) (pre : List (List UInt8)) (f least : Nat), (∀ r ∈ rs, r.length ≤ 4096) → rs.length < f → least ≤ gen →
    readGo (pre ++ bookSecs gen (done.length + 1) rs ++ post) f pre.length done least = (done ++ rs, (pre ++ bookSecs gen (done.length + 1) rs).length)
  | [], done, pre, f, least, _, hf, _ => by
    obtain ⟨f, rfl⟩ : ∃ k, f = k + 1 := ⟨f - 1, by simp at hf; omega⟩
    rw [readGo]
    have : oneR (pre ++ bookSecs gen (done.length + 1) [] ++ post) pre.length (done.length + 1) least = ([], 0, 0) := oneR_zero (by
      intro s hs
      rw [bookSecs, List.append_nil, List.getElem?_append_right (Nat.le_refl _), Nat.sub_self] at hs
      exact hz s hs)
    rw [this, if_pos (.inl rfl)]
    simp [bookSecs]
  | r :: rs, done, pre, f, least, hr, hf, hle => by
    obtain ⟨f, rfl⟩ : ∃ k, f = k + 1 := ⟨f - 1, by simp at hf; omega⟩
    have hrl := hr r (by simp)
    have h1 : oneR (pre ++ bookSecs gen (done.length + 1) (r :: rs) ++ post) pre.length (done.length + 1) least = (r, gen, (parts52 r).length) := oneR_good (by
      intro j hj
      rw [bookSecs, List.append_assoc, List.append_assoc, List.getElem?_append_right (by omega), List.getElem?_append_left (by rw [recSecs_len]; omega)]
      have := secsFrom_at (done.length + 1) gen (parts52 r).length 0 (parts52 r) j hj
      rw [Nat.zero_add] at this
      rw [show pre.length + j - pre.length = j by omega]
      exact this) hrl hg2 hle
    rw [readGo]
    have h0 := parts52_len r
    rw [h1]
    dsimp only
    rw [if_neg (by omega)]
    have ih := readGo_good gen hg hg2 post hz rs (done ++ [r]) (pre ++ recSecs (done.length + 1) gen r) f gen (fun x hx => hr x (by simp [hx])) (by simpa using hf) (Nat.le_refl _)
    simp only [List.length_append, recSecs_len, List.length_singleton] at ih
    rw [bookSecs]
    simp only [List.append_assoc, List.length_append, recSecs_len] at ih ⊢
    rw [ih]
    simp [Nat.add_assoc]
theorem readR_good {gen : Nat} (hg : 1 ≤ gen) (hg2 : gen < 4294967296) {rs : List (List UInt8)} (hr : ∀ r ∈ rs, r.length ≤ 4096) (m : Nat) : readR (bookSecs gen 1 rs ++ List.replicate m zeros) = (rs, (bookSecs gen 1 rs).length) := by
  have hlen : rs.length ≤ (bookSecs gen 1 rs).length := by
    have : ∀ (rs : List (List UInt8)) (num : Nat), rs.length ≤ (bookSecs gen num rs).length := by
      intro rs
      induction rs with
      | nil => intro _; exact Nat.le_refl _
      | cons r rs ih => intro num; have := ih (num + 1); have := parts52_len r; simp [bookSecs, recSecs_len]; omega
    exact this rs 1
  have := readGo_good gen hg hg2 (List.replicate m zeros) (fun s hs => by rw [List.getElem?_replicate] at hs; split at hs; simpa using hs.symm; cases hs) rs [] [] ((bookSecs gen 1 rs ++ List.replicate m zeros).length + 1) 1 hr (by simp; omega) hg
  simpa [readR] using this
/-- What a write of all parts leaves on a disk without a fuse. -/
theorem bwrite_now (num gen next cnt : Nat) : ∀ (ls : List (List UInt8)) (D : DiskS) (i : Nat) (pre old post : List (List UInt8)), D.fuse < 0 → D.now = pre ++ old ++ post → pre.length = next + i → old.length = ls.length →
    (bwrite num gen next cnt D i ls).1.now = pre ++ secsFrom num gen cnt i ls ++ post
  | [], D, i, pre, old, post, h, hn, hp, ho => by
    obtain rfl : old = [] := List.eq_nil_of_length_eq_zero (by simpa using ho)
    unfold bwrite; rw [if_neg (by omega)]; simpa [secsFrom] using hn
  | x :: xs, D, i, pre, old, post, h, hn, hp, ho => by
    match old, ho with
    | o :: old, ho =>
      unfold bwrite; rw [if_neg (by omega)]
      have hf : (D.write (next + i) (secOf num gen i cnt x)).fuse < 0 := by simp only [DiskS.write, DiskS.burnt]; split <;> omega
      have hn2 : (D.write (next + i) (secOf num gen i cnt x)).now = (pre ++ [secOf num gen i cnt x]) ++ old ++ post := by
        simp only [DiskS.write, hn]
        rw [← hp]
        simp
      rw [bwrite_now num gen next cnt xs _ (i + 1) _ old post hf hn2 (by simp; omega) (by simpa using ho)]
      simp [secsFrom]
end Go.Proofs.YtnfnaedoejgpiaaDoor
