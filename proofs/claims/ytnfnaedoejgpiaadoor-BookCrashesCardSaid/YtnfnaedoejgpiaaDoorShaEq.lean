/- The reference's fingerprints are the program's: plain mathematics of words and bytes. No program stands here. -/
import Derived.Test.YtnfnaedoejgpiaaDoorRefHash
import Derived.Test.YtnfnaedoejgpiaaDoorHeadF
namespace Go.Proofs.YtnfnaedoejgpiaaDoor
open Go.RowKit

theorem be_word (x : BitVec 32) (c : UInt8) (h : x.toNat < 2 ^ 24) : (x <<< 8 ||| BitVec.ofNat 32 c.toNat).toNat = x.toNat * 256 + c.toNat := by
  have hc := c.toNat_lt
  rw [BitVec.toNat_or, BitVec.toNat_shiftLeft, BitVec.toNat_ofNat, Nat.shiftLeft_eq]
  have e1 : x.toNat * 2 ^ 8 % 2 ^ 32 = x.toNat * 2 ^ 8 := Nat.mod_eq_of_lt (by omega)
  have e2 : c.toNat % 2 ^ 32 = c.toNat := Nat.mod_eq_of_lt (by omega)
  rw [e1, e2, ← Nat.shiftLeft_eq, ← Nat.shiftLeft_add_eq_or_of_lt (by omega : c.toNat < 2 ^ 8), Nat.shiftLeft_eq]
theorem be32_nat (b : List UInt8) (i : Nat) : (be32 b i).toNat = (b.getD (4 * i) 0).toNat * 16777216 + (b.getD (4 * i + 1) 0).toNat * 65536 + (b.getD (4 * i + 2) 0).toNat * 256 + (b.getD (4 * i + 3) 0).toNat := by
  unfold be32
  have h0 := (b.getD (4 * i) 0).toNat_lt
  have h1 := (b.getD (4 * i + 1) 0).toNat_lt
  have h2 := (b.getD (4 * i + 2) 0).toNat_lt
  have h3 := (b.getD (4 * i + 3) 0).toNat_lt
  have q0 : 4 * i + 3 - 7 / 2 = 4 * i := by omega
  have q1 : 4 * i + 3 - 6 / 2 = 4 * i := by omega
  have q2 : 4 * i + 3 - 5 / 2 = 4 * i + 1 := by omega
  have q3 : 4 * i + 3 - 4 / 2 = 4 * i + 1 := by omega
  have q4 : 4 * i + 3 - 3 / 2 = 4 * i + 2 := by omega
  have q5 : 4 * i + 3 - 2 / 2 = 4 * i + 2 := by omega
  have q6 : 4 * i + 3 - 1 / 2 = 4 * i + 3 := by omega
  have q7 : 4 * i + 3 - 0 / 2 = 4 * i + 3 := by omega
  simp only [hexN, q0, q1, q2, q3, q4, q5, q6, q7]
  generalize (b.getD (4 * i) 0).toNat = x0 at *
  generalize (b.getD (4 * i + 1) 0).toNat = x1 at *
  generalize (b.getD (4 * i + 2) 0).toNat = x2 at *
  generalize (b.getD (4 * i + 3) 0).toNat = x3 at *
  rw [BitVec.toNat_ofNat]
  simp
  omega
/-- Words not reached yet are nought. -/
theorem loaded_zero (b : List UInt8) : ∀ (n j : Nat), n ≤ 4 * j → (loaded b n).getD j 0 = 0
  | 0, j, _ => by
    unfold loaded
    rw [List.getD_eq_getElem?_getD, List.getElem?_replicate]; split <;> rfl
  | n + 1, j, h => by
    have ih := loaded_zero b n j (by omega)
    rw [loaded, List.getD_eq_getElem?_getD, List.getElem?_set_ne (by omega), ← List.getD_eq_getElem?_getD, ih]
/-- Words behind which the bytes are stay. -/
theorem loaded_more (b : List UInt8) (j : Nat) : ∀ (n : Nat), 4 * (j + 1) ≤ n → (loaded b n).getD j 0 = (loaded b (4 * (j + 1))).getD j 0
  | 0, h => by omega
  | n + 1, h => by
    rcases Nat.lt_or_ge (4 * (j + 1)) (n + 1) with h1 | h1
    · have ih := loaded_more b j n (by omega)
      rw [loaded, List.getD_eq_getElem?_getD, List.getElem?_set_ne (by omega), ← List.getD_eq_getElem?_getD, ih]
    · have : n + 1 = 4 * (j + 1) := by omega
      rw [this]
theorem loaded_step (b : List UInt8) (n j : Nat) (hj : j < 16) (h : n / 4 = j) : (loaded b (n + 1)).getD j 0 = (loaded b n).getD j 0 <<< 8 ||| BitVec.ofNat 32 (b.getD n 0).toNat := by
  subst h
  have hl := loaded_len b n
  rw [loaded, List.getD_eq_getElem?_getD, List.getElem?_set_self (by omega)]
  rfl
theorem loaded_be (b : List UInt8) (j : Nat) (hj : j < 16) : (loaded b 64).getD j 0 = be32 b j := by
  rw [loaded_more b j 64 (by omega)]
  apply BitVec.eq_of_toNat_eq
  rw [be32_nat]
  have e0 := loaded_zero b (4 * j) j (by omega)
  have e1 := loaded_step b (4 * j) j hj (by omega)
  have e2 := loaded_step b (4 * j + 1) j hj (by omega)
  have e3 := loaded_step b (4 * j + 1 + 1) j hj (by omega)
  have e4 := loaded_step b (4 * j + 1 + 1 + 1) j hj (by omega)
  rw [e0] at e1
  have h0 := (b.getD (4 * j) 0).toNat_lt
  have h1 := (b.getD (4 * j + 1) 0).toNat_lt
  have h2 := (b.getD (4 * j + 1 + 1) 0).toNat_lt
  have h3 := (b.getD (4 * j + 1 + 1 + 1) 0).toNat_lt
  have f1 : ((loaded b (4 * j + 1)).getD j 0).toNat = (b.getD (4 * j) 0).toNat := by
    rw [e1, be_word _ _ (by simp)]; simp
  have f2 : ((loaded b (4 * j + 1 + 1)).getD j 0).toNat = (b.getD (4 * j) 0).toNat * 256 + (b.getD (4 * j + 1) 0).toNat := by
    rw [e2, be_word _ _ (by omega), f1]
  have f3 : ((loaded b (4 * j + 1 + 1 + 1)).getD j 0).toNat = ((b.getD (4 * j) 0).toNat * 256 + (b.getD (4 * j + 1) 0).toNat) * 256 + (b.getD (4 * j + 1 + 1) 0).toNat := by
    rw [e3, be_word _ _ (by omega), f2]
  have f4 : ((loaded b (4 * j + 1 + 1 + 1 + 1)).getD j 0).toNat = (((b.getD (4 * j) 0).toNat * 256 + (b.getD (4 * j + 1) 0).toNat) * 256 + (b.getD (4 * j + 1 + 1) 0).toNat) * 256 + (b.getD (4 * j + 1 + 1 + 1) 0).toNat := by
    rw [e4, be_word _ _ (by omega), f3]
  show ((loaded b (4 * j + 1 + 1 + 1 + 1)).getD j 0).toNat = _
  rw [f4]
  simp only [Nat.add_assoc, Nat.reduceAdd] at *
  omega
/-- The row's words, those of the full row. -/
theorem rowTo_get (b : List UInt8) : ∀ (n m i : Nat), i < n → n ≤ m → (rowTo b m).getD i 0 = (rowTo b n).getD i 0
  | n, 0, i, h, h2 => by omega
  | n, m + 1, i, h, h2 => by
    rcases Nat.lt_or_ge m n with h3 | h3
    · have : m + 1 = n := by omega
      rw [this]
    · rw [← rowTo_get b n m i h h3, rowTo, List.getD_eq_getElem?_getD, List.getElem?_append_left (by rw [rowTo_len]; omega), ← List.getD_eq_getElem?_getD]
theorem rowTo_at (b : List UInt8) (m i : Nat) (h : i < m) : (rowTo b m).getD i 0 = if i < 16 then be32 b i else (rowTo b m).getD (i - 16) 0 + sig0 ((rowTo b m).getD (i - 15) 0) + (rowTo b m).getD (i - 7) 0 + sig1 ((rowTo b m).getD (i - 2) 0) := by
  rw [rowTo_get b (i + 1) m i (by omega) (by omega)]
  have e : (rowTo b (i + 1)).getD i 0 = if i < 16 then be32 b i else (rowTo b i).getD (i - 16) 0 + sig0 ((rowTo b i).getD (i - 15) 0) + (rowTo b i).getD (i - 7) 0 + sig1 ((rowTo b i).getD (i - 2) 0) := by
    rw [rowTo, List.getD_eq_getElem?_getD, List.getElem?_append_right (by rw [rowTo_len]; omega), rowTo_len, Nat.sub_self]; rfl
  rw [e]
  split
  · rfl
  · rw [rowTo_get b i m (i - 16) (by omega) (by omega), rowTo_get b i m (i - 15) (by omega) (by omega), rowTo_get b i m (i - 7) (by omega) (by omega), rowTo_get b i m (i - 2) (by omega) (by omega)]
theorem right_rotr (x : BitVec 32) (n : Nat) (h0 : 0 < n) (h : n < 32) : rightB x n true = rotr x n := by
  unfold rightB rotr
  rw [if_pos rfl, BitVec.rotateRight_def, Nat.mod_eq_of_lt h, BitVec.or_comm]
theorem sig0_half (x : BitVec 32) : sig0 x = half x 7 18 3 := by
  unfold sig0 half
  rw [right_rotr _ _ (by decide) (by decide), right_rotr _ _ (by decide) (by decide)]; rfl
theorem sig1_half (x : BitVec 32) : sig1 x = half x 17 19 10 := by
  unfold sig1 half
  rw [right_rotr _ _ (by decide) (by decide), right_rotr _ _ (by decide) (by decide)]; rfl
/-- The schedule holds the last sixteen words. -/
def Rolls (b : List UInt8) (n : Nat) (s : List (BitVec 32)) : Prop := s.length = 16 ∧ ∀ m, m < max n 16 → n ≤ m + 16 → s.getD (m % 16) 0 = (rowTo b 64).getD m 0
theorem rolls_start (b : List UInt8) : Rolls b 0 (loaded b 64) := by
  refine ⟨loaded_len b 64, fun m hm _ => ?_⟩
  have h16 : m < 16 := by omega
  rw [Nat.mod_eq_of_lt h16, loaded_be b m h16, rowTo_at b 64 m (by omega), if_pos h16]
theorem rolls_step {b : List UInt8} {n : Nat} {s : List (BitVec 32)} (h : Rolls b n s) (hn : n < 64) : Rolls b (n + 1) (sched s n) ∧ (sched s n).getD (n % 16) 0 = (rowTo b 64).getD n 0 := by
  obtain ⟨hl, hs⟩ := h
  unfold sched
  rcases Nat.lt_or_ge n 16 with h16 | h16
  · rw [if_pos h16]
    refine ⟨⟨hl, fun m hm hm2 => hs m (by omega) (by omega)⟩, hs n (by omega) (by omega)⟩
  · rw [if_neg (by omega)]
    have a0 := hs (n - 16) (by omega) (by omega)
    have a1 := hs (n - 15) (by omega) (by omega)
    have a2 := hs (n - 7) (by omega) (by omega)
    have a3 := hs (n - 2) (by omega) (by omega)
    have m0 : (n - 16) % 16 = n % 16 := by omega
    have m1 : (n - 15) % 16 = (n + 1) % 16 := by omega
    have m2 : (n - 7) % 16 = (n + 9) % 16 := by omega
    have m3 : (n - 2) % 16 = (n + 14) % 16 := by omega
    rw [m0] at a0; rw [m1] at a1; rw [m2] at a2; rw [m3] at a3
    have hw : s.getD (n % 16) 0 + (half (s.getD ((n + 1) % 16) 0) 7 18 3 + s.getD ((n + 9) % 16) 0 + half (s.getD ((n + 14) % 16) 0) 17 19 10) = (rowTo b 64).getD n 0 := by
      rw [rowTo_at b 64 n hn, if_neg (by omega), a0, a1, a2, a3, sig0_half, sig1_half]
      simp only [BitVec.add_assoc]
    rw [hw]
    have hlt : n % 16 < s.length := by omega
    refine ⟨⟨by simpa using hl, fun m hm hm2 => ?_⟩, ?_⟩
    · rcases Nat.lt_or_ge m n with h1 | h1
      · rw [List.getD_eq_getElem?_getD, List.getElem?_set_ne (by omega), ← List.getD_eq_getElem?_getD]
        exact hs m (by omega) (by omega)
      · have : m = n := by omega
        subst this
        rw [List.getD_eq_getElem?_getD, List.getElem?_set_self hlt, Option.getD_some]
    · rw [List.getD_eq_getElem?_getD, List.getElem?_set_self hlt, Option.getD_some]
theorem ch_eq (x y z : BitVec 32) : z ^^^ (x &&& (y ^^^ z)) = (x &&& y) ||| (~~~x &&& z) := by
  apply BitVec.eq_of_getLsbD_eq
  intro i hi
  simp only [BitVec.getLsbD_xor, BitVec.getLsbD_and, BitVec.getLsbD_or, BitVec.getLsbD_not, hi, decide_true, Bool.true_and]
  cases x.getLsbD i <;> cases y.getLsbD i <;> cases z.getLsbD i <;> rfl
theorem maj_eq (a b c : BitVec 32) : a &&& b ||| c &&& (a ||| b) = (a &&& b) ||| (a &&& c) ||| (b &&& c) := by
  apply BitVec.eq_of_getLsbD_eq
  intro i hi
  simp only [BitVec.getLsbD_and, BitVec.getLsbD_or]
  cases a.getLsbD i <;> cases b.getLsbD i <;> cases c.getLsbD i <;> rfl
theorem turned_right (x : BitVec 32) (a b c : Nat) (ha : 0 < a ∧ a < 32) (hb : 0 < b ∧ b < 32) (hc : 0 < c ∧ c < 32) : rightB x a true ^^^ rightB x b true ^^^ rightB x c true = turned x a b c := by
  unfold turned
  rw [right_rotr _ _ ha.1 ha.2, right_rotr _ _ hb.1 hb.2, right_rotr _ _ hc.1 hc.2]
theorem con_k : ((List.range 64).all fun k => conB k == K256.getD k 0) = true := by decide +kernel
theorem beg_k : begs = H0 := by decide +kernel
theorem con_eq (k : Nat) (h : k < 64) : conB k = K256.getD k 0 := by
  have := List.all_eq_true.1 con_k k (List.mem_range.2 h)
  simpa using this
/-- The engine's words, turned by the round's place. -/
def Turns (n : Nat) (v u : List (BitVec 32)) : Prop := v.length = 8 ∧ u.length = 8 ∧ ∀ j, j < 8 → v.getD (((64 - n) % 8 + j) % 8) 0 = u.getD j 0
theorem list8 {l : List (BitVec 32)} (h : l.length = 8) : ∃ a b c d e f g i, l = [a, b, c, d, e, f, g, i] := by
  match l, h with
  | [a, b, c, d, e, f, g, i], _ => exact ⟨a, b, c, d, e, f, g, i, rfl⟩
theorem list8_ext {l m : List (BitVec 32)} (hl : l.length = 8) (hm : m.length = 8) (h : ∀ j, j < 8 → l.getD j 0 = m.getD j 0) : l = m := by
  obtain ⟨a, b, c, d, e, f, g, i, rfl⟩ := list8 hl
  obtain ⟨a', b', c', d', e', f', g', i', rfl⟩ := list8 hm
  have h0 := h 0 (by decide); have h1 := h 1 (by decide); have h2 := h 2 (by decide); have h3 := h 3 (by decide)
  have h4 := h 4 (by decide); have h5 := h 5 (by decide); have h6 := h 6 (by decide); have h7 := h 7 (by decide)
  simp at h0 h1 h2 h3 h4 h5 h6 h7
  simp [h0, h1, h2, h3, h4, h5, h6, h7]
set_option maxHeartbeats 4000000 in
theorem turns_step {n : Nat} {v u s : List (BitVec 32)} {w : BitVec 32} (h : Turns n v u) (hn : n < 64) (hw : (sched s n).getD (n % 16) 0 = w) : Turns (n + 1) (round v s n).1 (stepB (conB n) w u) := by
  obtain ⟨hv, hu, ht⟩ := h
  have h0 := ht 0 (by decide); have h1 := ht 1 (by decide); have h2 := ht 2 (by decide); have h3 := ht 3 (by decide)
  have h4 := ht 4 (by decide); have h5 := ht 5 (by decide); have h6 := ht 6 (by decide); have h7 := ht 7 (by decide)
  clear ht
  unfold round stepB
  dsimp only
  rw [hw, con_eq n hn]
  rw [turned_right _ 6 11 25 (by decide) (by decide) (by decide), turned_right _ 2 13 22 (by decide) (by decide) (by decide), ← ch_eq, ← maj_eq]
  simp only [Nat.add_zero, Nat.mod_mod] at h0
  generalize K256.getD n 0 = kk at *
  have hk' : (64 - (n + 1)) % 8 = ((64 - n) % 8 + 7) % 8 := by omega
  have hk8 : (64 - n) % 8 < 8 := Nat.mod_lt _ (by decide)
  unfold Turns
  rw [hk']
  clear hw hk'
  rw [h0, h1, h2, h3, h4, h5, h6, h7]
  generalize (64 - n) % 8 = k at *
  obtain ⟨a, b, c, d, e, f, g, i, rfl⟩ := list8 hu
  obtain ⟨a', b', c', d', e', f', g', i', rfl⟩ := list8 hv
  have hc : k = 0 ∨ k = 1 ∨ k = 2 ∨ k = 3 ∨ k = 4 ∨ k = 5 ∨ k = 6 ∨ k = 7 := by omega
  refine ⟨by simp, rfl, fun j hj => ?_⟩
  have hj8 : j = 0 ∨ j = 1 ∨ j = 2 ∨ j = 3 ∨ j = 4 ∨ j = 5 ∨ j = 6 ∨ j = 7 := by omega
  rcases hc with rfl | rfl | rfl | rfl | rfl | rfl | rfl | rfl <;> simp at h0 h1 h2 h3 h4 h5 h6 h7 <;> subst h0 h1 h2 h3 h4 h5 h6 h7 <;> rcases hj8 with rfl | rfl | rfl | rfl | rfl | rfl | rfl | rfl <;> simp [BitVec.add_assoc]

theorem rounds_both (b : List UInt8) (h s : List (BitVec 32)) (hh : h.length = 8) (hs : Rolls b 0 s) : ∀ n, n ≤ 64 → Turns n (rounds h s n).1 (roundsB b h n) ∧ Rolls b n (rounds h s n).2
  | 0, _ => by
    have e : rounds h s 0 = (h, s) := by rw [rounds]
    have e2 : roundsB b h 0 = h := by rw [roundsB]
    rw [e, e2]
    refine ⟨⟨hh, hh, fun j hj => ?_⟩, hs⟩
    rw [show ((64 - 0) % 8 + j) % 8 = j by omega]
  | n + 1, hn => by
    obtain ⟨h1, h2⟩ := rounds_both b h s hh hs n (by omega)
    obtain ⟨h3, h4⟩ := rolls_step h2 (by omega)
    have e2 : roundsB b h (n + 1) = stepB (conB n) ((rowTo b 64).getD n 0) (roundsB b h n) := by rw [roundsB]
    have e : rounds h s (n + 1) = round (rounds h s n).1 (rounds h s n).2 n := by rw [rounds]
    rw [e, e2]
    refine ⟨turns_step h1 (by omega) h4, ?_⟩
    unfold round
    exact h3
theorem addAll_at (h v : List (BitVec 32)) (hh : h.length = 8) : ∀ n j, n ≤ 8 → j < 8 → (addAll h v n).length = 8 ∧ (addAll h v n).getD j 0 = if j < n then h.getD j 0 + v.getD j 0 else h.getD j 0
  | 0, j, _, _ => ⟨hh, rfl⟩
  | n + 1, j, hn, hj => by
    obtain ⟨h1, h2⟩ := addAll_at h v hh n j (by omega) hj
    obtain ⟨_, h3⟩ := addAll_at h v hh n n (by omega) (by omega)
    rw [if_neg (by omega)] at h3
    refine ⟨by rw [addAll, List.length_set]; exact h1, ?_⟩
    rw [addAll, h3, List.getD_eq_getElem?_getD]
    by_cases e : n = j
    · subst e; rw [List.getElem?_set_self (by omega), if_pos (by omega)]; rfl
    · rw [List.getElem?_set_ne e, ← List.getD_eq_getElem?_getD, h2]
      by_cases e2 : j < n
      · rw [if_pos e2, if_pos (by omega)]
      · rw [if_neg e2, if_neg (by omega)]
theorem mixed_block (h : List (BitVec 32)) (hh : h.length = 8) (b : List UInt8) : mixed h b = blockB h b := by
  obtain ⟨⟨hv, hu, ht⟩, -⟩ := rounds_both b h (loaded b 64) hh (rolls_start b) 64 (by omega)
  refine list8_ext (addAll_at h _ hh 8 0 (by omega) (by omega)).1 (by simp [blockB]) fun j hj => ?_
  have h1 := (addAll_at h (rounds h (loaded b 64) 64).1 hh 8 j (by omega) hj).2
  have h2 := ht j hj
  rw [show ((64 - 64) % 8 + j) % 8 = j by omega] at h2
  unfold mixed
  rw [h1, if_pos hj, h2]
  unfold blockB
  conv => rhs; rw [List.getD_eq_getElem?_getD, List.getElem?_map, List.getElem?_range hj, Option.map_some, Option.getD_some]
theorem absorb_big {h : List (BitVec 32)} {l : List UInt8} (hl : 64 ≤ l.length) : absorb h l = absorb (mixed h (l.take 64)) (l.drop 64) := by
  rw [absorb, if_pos hl]
theorem absorb_small {h : List (BitVec 32)} {l : List UInt8} (hl : l.length < 64) : absorb h l = (h, l) := by
  rw [absorb, if_neg (by omega)]
theorem absorb_ind {C : List (BitVec 32) → List UInt8 → Prop} (hs : ∀ h l, l.length < 64 → C h l) (hb : ∀ h l, 64 ≤ l.length → C (mixed h (l.take 64)) (l.drop 64) → C h l) : ∀ (n : Nat) (h : List (BitVec 32)) (l : List UInt8), l.length ≤ n → C h l
  | 0, h, l, hl => hs h l (by omega)
  | n + 1, h, l, hl => by
    rcases Nat.lt_or_ge l.length 64 with h1 | h1
    · exact hs h l h1
    · exact hb h l h1 (absorb_ind hs hb n _ _ (by simp; omega))
theorem absorb_rest (h : List (BitVec 32)) (l : List UInt8) : (absorb h l).2.length = l.length % 64 := by
  refine absorb_ind (C := fun h l => (absorb h l).2.length = l.length % 64) (fun h l hl => ?_) (fun h l hl ih => ?_) l.length h l (Nat.le_refl _)
  · rw [absorb_small hl]; dsimp only; omega
  · rw [absorb_big hl, ih]; simp; omega
theorem absorb_app (h : List (BitVec 32)) (l m : List UInt8) : absorb h (l ++ m) = absorb (absorb h l).1 ((absorb h l).2 ++ m) := by
  refine absorb_ind (C := fun h l => absorb h (l ++ m) = absorb (absorb h l).1 ((absorb h l).2 ++ m)) (fun h l hl => ?_) (fun h l hl ih => ?_) l.length h l (Nat.le_refl _)
  · rw [absorb_small (l := l) hl]
  · rw [absorb_big (l := l) hl, ← ih, absorb_big (l := l ++ m) (by simp; omega), List.take_append_of_le_length hl, List.drop_append_of_le_length hl]
theorem takes_all : ∀ (ls : List (List UInt8)) (S : StreamS), S.left.length < 64 → S.size < 18446744073709551616 → S.takes ls = ⟨(absorb S.h (S.left ++ ls.flatten)).1, (absorb S.h (S.left ++ ls.flatten)).2, (S.size + ls.flatten.length) % 18446744073709551616⟩
  | [], S, h, h2 => by
    rw [List.flatten_nil, List.append_nil, absorb_small h]
    show S = _
    rw [List.length_nil, Nat.add_zero, Nat.mod_eq_of_lt h2]
  | b :: ls, S, h, h2 => by
    have ih := takes_all ls (S.take b) (by unfold StreamS.take; dsimp only; rw [absorb_rest]; exact Nat.mod_lt _ (by decide)) (by unfold StreamS.take; exact Nat.mod_lt _ (by decide))
    show (S.take b).takes ls = _
    rw [ih]
    unfold StreamS.take
    dsimp only
    rw [List.flatten_cons, ← List.append_assoc, absorb_app S.h (S.left ++ b)]
    congr 1
    rw [List.length_append, Nat.mod_add_mod, Nat.add_assoc]
theorem absorb_sum (P : List UInt8) (B : Nat) (hP : P.length = 64 * B) : ∀ k, k ≤ B → absorb begs P = absorb (sumTo P k) (P.drop (64 * k))
  | 0, _ => rfl
  | k + 1, hk => by
    rw [absorb_sum P B hP k (by omega), absorb_big (by simp; omega), mixed_block _ (sumTo_len P k), List.drop_drop]
    rfl
theorem absorb_sums {P : List UInt8} {B : Nat} (hP : P.length = 64 * B) : (absorb begs P).1 = sumTo P B := by
  rw [absorb_sum P B hP B (Nat.le_refl _), List.drop_eq_nil_of_le (by omega), absorb_small (by simp)]
theorem sizeOf8_len (s k : Nat) : (sizeOf8 s k).length = k := by
  induction k with
  | zero => rfl
  | succ k ih => simp [sizeOf8, ih]
theorem sizeOf8_at (s : Nat) : ∀ (k j : Nat), j < k → (sizeOf8 s k)[j]? = some (UInt8.ofNat ((8 * s % 18446744073709551616) / 2 ^ (56 - 8 * j)))
  | 0, j, h => by omega
  | k + 1, j, h => by
    rw [sizeOf8]
    rcases Nat.lt_or_ge j k with h1 | h1
    · rw [List.getElem?_append_left (by rw [sizeOf8_len]; exact h1)]; exact sizeOf8_at s k j h1
    · have : j = k := by omega
      subst this
      rw [List.getElem?_append_right (by rw [sizeOf8_len]; omega), sizeOf8_len, Nat.sub_self]; rfl
theorem padTo_at' {l : List UInt8} {M j i : Nat} (hi : i < M) : (padTo l M j)[i]? = some (if M ≤ i + j then UInt8.ofNat (8 * l.length / 256 ^ (M - 1 - i)) else if i < l.length then l.getD i 0 else if i = l.length then 128 else 0) := by
  unfold padTo; rw [List.getElem?_map, List.getElem?_range hi]; rfl
theorem pad_whole (l : List UInt8) (hl : l.length < 2000000000000000) (S : StreamS) (hS : S.left.length = l.length % 64) (hz : S.size = l.length) :
    padTo l (64 * ((l.length + 72) / 64)) 8 = l ++ endOf S := by
  obtain ⟨M, hM⟩ : ∃ M, 64 * ((l.length + 72) / 64) = M := ⟨_, rfl⟩
  have hf : fill0 S.left.length = M - l.length - 9 := by unfold fill0; rw [hS]; omega
  have hM9 : l.length + 9 ≤ M := by omega
  rw [hM]
  unfold endOf
  rw [hf, hz]
  apply List.ext_getElem?
  intro i
  rcases Nat.lt_or_ge i M with hi | hi
  · rw [padTo_at' hi]
    rcases Nat.lt_or_ge i l.length with h1 | h1
    · rw [if_neg (by omega), if_pos h1, List.getElem?_append_left h1, List.getD_eq_getElem?_getD, List.getElem?_eq_getElem h1]; rfl
    · rw [List.getElem?_append_right h1, List.cons_append]
      rcases Nat.eq_or_lt_of_le h1 with h2 | h2
      · rw [if_neg (by omega), if_neg (by omega), if_pos h2.symm, ← h2, Nat.sub_self]; rfl
      · obtain ⟨k, hk⟩ : ∃ k, i - l.length = k + 1 := ⟨i - l.length - 1, by omega⟩
        rw [hk, List.getElem?_cons_succ]
        rcases Nat.lt_or_ge (i + 8) M with h3 | h3
        · rw [if_neg (by omega), if_neg (by omega), if_neg (by omega), List.getElem?_append_left (by rw [List.length_replicate]; omega), List.getElem?_replicate, if_pos (by omega)]
        · rw [if_pos h3, List.getElem?_append_right (by rw [List.length_replicate]; omega), List.length_replicate, sizeOf8_at _ _ _ (by omega)]
          congr 2
          rw [Nat.mod_eq_of_lt (by omega)]
          congr 1
          rw [show (256 : Nat) = 2 ^ 8 by rfl, ← Nat.pow_mul]
          congr 1
          omega
  · rw [List.getElem?_eq_none (by rw [padTo_len]; omega), List.getElem?_eq_none]
    simp only [List.length_append, List.length_cons, List.length_replicate, sizeOf8_len]; omega
theorem told_at (h : List (BitVec 32)) : ∀ (m j : Nat), m ≤ 32 → j < 32 → (toldN h m).length = 32 ∧ (toldN h m).getD j 0 = if j < m then byteOf (h.getD (j / 4) 0) (j % 4) else 0
  | 0, j, _, hj => by
    refine ⟨rfl, ?_⟩
    rw [if_neg (by omega)]; unfold toldN
    rw [List.getD_eq_getElem?_getD, List.getElem?_replicate]; split <;> rfl
  | m + 1, j, hm, hj => by
    obtain ⟨h1, h2⟩ := told_at h m j (by omega) hj
    refine ⟨by rw [toldN, List.length_set]; exact h1, ?_⟩
    rw [toldN, List.getD_eq_getElem?_getD]
    by_cases e : m = j
    · subst e; rw [List.getElem?_set_self (by omega), if_pos (by omega)]; rfl
    · rw [List.getElem?_set_ne e, ← List.getD_eq_getElem?_getD, h2]
      by_cases e2 : j < m
      · rw [if_pos e2, if_pos (by omega)]
      · rw [if_neg e2, if_neg (by omega)]
theorem shr128 (s : Nat) (h : s < 8) : (128 : Nat) >>> s = 2 ^ (7 - s) := by
  have : ∀ s : Fin 8, (128 : Nat) >>> s.val = 2 ^ (7 - s.val) := by decide
  exact this ⟨s, h⟩
theorem out_bit (V : List (BitVec 32)) : ∀ (k j r : Nat), k ≤ 256 → j < 32 → r < 8 → ((outTo V k).getD j 0).toNat.testBit (7 - r) = (decide (8 * j + r < k) && (V.getD ((8 * j + r) / 32) 0).getLsbD (31 - (8 * j + r) % 32))
  | 0, j, r, _, hj, hr => by
    rw [decide_eq_false (by omega), Bool.false_and]
    unfold outTo
    rw [List.getD_eq_getElem?_getD, List.getElem?_replicate, if_pos hj]; simp
  | k + 1, j, r, hk, hj, hr => by
    have ih := out_bit V k j r (by omega) hj hr
    rw [outTo]
    by_cases hb : (V.getD (k / 32) 0).getLsbD (31 - k % 32) = true
    · rw [if_pos hb, List.getD_eq_getElem?_getD]
      by_cases e : k / 8 = j
      · subst e
        rw [List.getElem?_set_self (by rw [outTo_len]; exact hj)]
        show (UInt8.ofNat (((outTo V k).getD (k / 8) 0).toNat ||| 128 >>> (k % 8))).toNat.testBit (7 - r) = _
        have hx := ((outTo V k).getD (k / 8) 0).toNat_lt
        rw [shr128 _ (Nat.mod_lt _ (by decide))]
        have hlt : ((outTo V k).getD (k / 8) 0).toNat ||| 2 ^ (7 - k % 8) < 256 := Nat.or_lt_two_pow (n := 8) hx (Nat.pow_lt_pow_right (by decide) (by omega))
        rw [UInt8.toNat_ofNat', Nat.mod_eq_of_lt hlt, Nat.testBit_or, ih, Nat.testBit_two_pow]
        by_cases e2 : r = k % 8
        · have e3 : 8 * (k / 8) + r = k := by omega
          rw [e3, hb, decide_eq_true (by omega : 7 - k % 8 = 7 - r), Bool.or_true, decide_eq_true (by omega : k < k + 1)]; rfl
        · rw [decide_eq_false (by omega : ¬ 7 - k % 8 = 7 - r), Bool.or_false]
          congr 1
          exact decide_eq_decide.2 (by omega)
      · rw [List.getElem?_set_ne e, ← List.getD_eq_getElem?_getD, ih]
        congr 1
        exact decide_eq_decide.2 (by omega)
    · rw [if_neg hb, ih]
      by_cases e2 : 8 * j + r = k
      · rw [e2]
        simp only [Bool.not_eq_true] at hb
        rw [hb, Bool.and_false, Bool.and_false]
      · congr 1
        exact decide_eq_decide.2 (by omega)
theorem ext32 {l m : List UInt8} (hl : l.length = 32) (hm : m.length = 32) (h : ∀ j, j < 32 → l.getD j 0 = m.getD j 0) : l = m := by
  apply List.ext_getElem (hl.trans hm.symm)
  intro j hj hj'
  have := h j (by omega)
  rw [List.getD_eq_getElem?_getD, List.getElem?_eq_getElem hj, Option.getD_some, List.getD_eq_getElem?_getD, List.getElem?_eq_getElem hj', Option.getD_some] at this
  exact this
theorem out_told (V : List (BitVec 32)) : outTo V 256 = toldN V 32 := by
  refine ext32 (outTo_len V 256) (told_at V 32 0 (by omega) (by omega)).1 fun j hj32 => ?_
  rw [(told_at V 32 j (by omega) hj32).2, if_pos hj32]
  have hb := fun r hr => out_bit V 256 j r (by omega) hj32 hr
  generalize (outTo V 256).getD j 0 = x at *
  apply UInt8.toNat_inj.1
  apply Nat.eq_of_testBit_eq
  intro i
  rcases Nat.lt_or_ge i 8 with hi | hi
  · have hb := hb (7 - i) (by omega)
    rw [show 7 - (7 - i) = i by omega, decide_eq_true (by omega : 8 * j + (7 - i) < 256), Bool.true_and] at hb
    rw [hb]
    unfold byteOf
    rw [UInt8.toNat_ofNat', Nat.testBit_mod_two_pow, decide_eq_true hi, Bool.true_and, ← Nat.shiftRight_eq_div_pow, Nat.testBit_shiftRight]
    rw [show (8 * j + (7 - i)) / 32 = j / 4 by omega, show 31 - (8 * j + (7 - i)) % 32 = 24 - 8 * (j % 4) + i by omega]
    rfl
  · rw [Nat.testBit_lt_two_pow, Nat.testBit_lt_two_pow]
    · exact Nat.lt_of_lt_of_le (UInt8.toNat_lt _) (Nat.pow_le_pow_right (by decide) hi)
    · exact Nat.lt_of_lt_of_le (UInt8.toNat_lt _) (Nat.pow_le_pow_right (by decide) hi)
/-- The reference's fingerprint is the program's. -/
theorem digest_parts (ls : List (List UInt8)) (hl : ls.flatten.length < 2000000000000000) : ofParts ls = digestB ls.flatten := by
  unfold ofParts digestB StreamS.sum
  have ht := takes_all ls StreamS.new (by decide) (by decide)
  have e0 : StreamS.new.left ++ ls.flatten = ls.flatten := rfl
  have e1 : StreamS.new.size + ls.flatten.length = ls.flatten.length := Nat.zero_add _
  rw [e0, e1, Nat.mod_eq_of_lt (by omega)] at ht
  obtain ⟨S, hS⟩ : ∃ S, StreamS.new.takes ls = S := ⟨_, rfl⟩
  rw [hS] at ht ⊢
  generalize ls.flatten = l at *
  have hz : S.size = l.length := by rw [ht]
  have hr : S.left.length = l.length % 64 := by rw [ht]; exact absorb_rest _ _
  rw [pad_whole l hl S hr hz, out_told]
  congr 1
  have hlen : (l ++ endOf S).length = 64 * ((l.length + 72) / 64) := by rw [← pad_whole l hl S hr hz, padTo_len]
  rw [← absorb_sums hlen, beg_k, absorb_app, StreamS.take]
  rw [ht]
  rfl
theorem link_same (prev record : List UInt8) (hl : prev.length + record.length < 1000000000000000) : linkOf prev record = linkB prev record := by
  have e : [prev, be4 record.length, record].flatten = prev ++ (be4 record.length ++ record) := by simp
  have h4 : (be4 record.length).length = 4 := rfl
  unfold linkOf linkB
  rw [digest_parts _ (by rw [e]; simp only [List.length_append, h4]; omega), e]

end Go.Proofs.YtnfnaedoejgpiaaDoor
