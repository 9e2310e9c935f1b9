/- What a crash leaves of a book: plain lists of bytes. No program stands here. -/
import Derived.Test.YtnfnaedoejgpiaaDoorPlays
import Derived.Test.YtnfnaedoejgpiaaDoorOpen
namespace Go.Proofs.YtnfnaedoejgpiaaDoor
open Go.RowKit

theorem num_app (a rest : List UInt8) (k : Nat) (h : a.length = k) : (InS.mk false (a ++ rest)).num k = (ofBe a, ⟨false, rest⟩) := by
  unfold InS.num InS.raw
  rw [if_pos ⟨rfl, by omega, by simp; omega⟩]
  simp [← h]
theorem ofBe4 (n : Nat) (h : n < 4294967296) : ofBe (be n 4) = n := by
  simp [be, ofBe]; omega
theorem ofBe2 (n : Nat) (h : n < 65536) : ofBe (be n 2) = n := by
  simp [be, ofBe]; omega
theorem ofBe1 (n : Nat) (h : n < 256) : ofBe (be n 1) = n := by
  simp [be, ofBe]; omega
theorem secOf_parts (n g i c : Nat) (x : List UInt8) : secOf n g i c x = be n 4 ++ (be g 4 ++ (be i 1 ++ (be c 1 ++ (be x.length 2 ++ (x ++ List.replicate (52 - x.length) 0))))) := by
  unfold secOf secHead
  simp only [List.append_assoc]
theorem readS_sec {n g i c : Nat} {x : List UInt8} (hn : n < 4294967296) (hg : g < 4294967296) (hi : i < 256) (hc : c < 256) (hx : x.length ≤ 52) : readS (secOf n g i c x) = (⟨n, g, i, c, x⟩, true) := by
  have hl : labels (secOf n g i c x) = (n, g, i, c, x.length, ⟨false, x ++ List.replicate (52 - x.length) 0⟩) := by
    unfold labels
    rw [secOf_parts]
    dsimp only
    rw [num_app _ _ 4 (be_length n 4)]
    dsimp only
    rw [num_app _ _ 4 (be_length g 4)]
    dsimp only
    rw [num_app _ _ 1 (be_length i 1)]
    dsimp only
    rw [num_app _ _ 1 (be_length c 1)]
    dsimp only
    rw [num_app _ _ 2 (be_length _ 2)]
    dsimp only
    rw [ofBe4 n hn, ofBe4 g hg, ofBe1 i hi, ofBe1 c hc, ofBe2 _ (by omega)]
  unfold readS
  rw [hl]
  dsimp only
  rw [if_neg (by omega)]
  have hr : (InS.raw ⟨false, x ++ List.replicate (52 - x.length) 0⟩ (x.length : Nat)).1 = x := by
    unfold InS.raw
    rw [if_pos ⟨rfl, by omega, by simp; omega⟩]
    simp
  rw [hr]
  simp
theorem readS_gen {s : List UInt8} (h : 4 ≤ s.length) (hr : (readS s).2 = true) : (readS s).1.g = genOf s := by
  have h4 : ((InS.mk false s).num 4).2 = ⟨false, s.drop 4⟩ := by
    unfold InS.num InS.raw
    rw [if_pos ⟨rfl, by omega, by show (4 : Int) ≤ (s.length : Nat); omega⟩]; rfl
  unfold readS at hr ⊢
  obtain ⟨n, g, i, c, k, st, hl⟩ : ∃ n g i c k st, labels s = (n, g, i, c, k, st) := ⟨_, _, _, _, _, _, rfl⟩
  have hg : g = genOf s := by
    have : (labels s).2.1 = (((InS.mk false s).num 4).2.num 4).1 := rfl
    rw [hl, h4] at this
    exact this
  rw [hl] at hr ⊢
  dsimp only at hr ⊢
  split at hr
  · cases hr
  · rename_i h5
    rw [if_neg h5]; exact hg
theorem genOf_sec {n g i c : Nat} {x : List UInt8} (hn : n < 4294967296) (hg : g < 4294967296) (hi : i < 256) (hc : c < 256) (hx : x.length ≤ 52) : genOf (secOf n g i c x) = g := by
  have h := readS_sec hn hg hi hc hx
  have := readS_gen (s := secOf n g i c x) (by rw [secOf_len n g i c hx]; decide) (by rw [h])
  rw [h] at this
  exact this.symm
/-- One step of a stand whose sector is good, and is not. -/
theorem standGo_ok {num : Nat} {s : List UInt8} {ss : List (List UInt8)} {i : Nat} {all : List UInt8} {cnt ls : Nat} {p : PartS} (hp : readS s = (p, true)) (h1 : p.n = num) (h2 : p.i = i) (h3 : p.c = if i = 0 then p.c else cnt) (h4 : 1 ≤ p.c) (h5 : p.c ≤ 79) (h6 : p.g = if i = 0 then max ls p.g else ls) (h7 : i + 1 = p.c ∨ p.x.length = 52) :
    standGo num (s :: ss) i all cnt ls = if i + 1 = p.c then (all ++ p.x, p.g, p.c) else standGo num ss (i + 1) (all ++ p.x) p.c p.g := by
  rw [standGo]
  rw [hp]
  dsimp only
  rw [← h6, ← h3]
  rw [if_pos ⟨rfl, h1, h2, rfl, h4, h5, rfl, h7⟩]
theorem standGo_no {num : Nat} {s : List UInt8} {ss : List (List UInt8)} {i : Nat} {all : List UInt8} {cnt ls : Nat} (h : ¬ ((readS s).2 = true ∧ (readS s).1.g = if i = 0 then max ls (readS s).1.g else ls)) : standGo num (s :: ss) i all cnt ls = ([], 0, 0) := by
  rw [standGo]
  rw [if_neg]
  rintro ⟨h1, _, _, _, _, _, h2, _⟩
  exact h ⟨h1, h2⟩
/-- A stand that comes up in a step. -/
theorem standGo_case (num : Nat) (s : List UInt8) (ss : List (List UInt8)) (i : Nat) (all : List UInt8) (cnt ls : Nat) :
    standGo num (s :: ss) i all cnt ls = ([], 0, 0) ∨ ∃ p : PartS, readS s = (p, true) ∧ p.n = num ∧ p.i = i ∧ (p.c = if i = 0 then p.c else cnt) ∧ 1 ≤ p.c ∧ p.c ≤ 79 ∧ (p.g = if i = 0 then max ls p.g else ls) ∧ (i + 1 = p.c ∨ p.x.length = 52) := by
  rcases Classical.em ((readS s).2 = true ∧ (readS s).1.n = num ∧ (readS s).1.i = i ∧ (readS s).1.c = (if i = 0 then (readS s).1.c else cnt) ∧ 1 ≤ (readS s).1.c ∧ (readS s).1.c ≤ 79 ∧ (readS s).1.g = (if i = 0 then max ls (readS s).1.g else ls) ∧ (i + 1 = (readS s).1.c ∨ (readS s).1.x.length = 52)) with h | h
  · obtain ⟨h1, h2, h3, h4, h5, h6, h7, h8⟩ := h
    right
    exact ⟨(readS s).1, by rw [← h1], h2, h3, h4, h5, h6, h7, h8⟩
  · left
    rw [standGo, if_neg h]
/-- What stands, depends on its own sectors alone. -/
theorem standGo_prefix {num : Nat} : ∀ (T T' : List (List UInt8)) (i : Nat) (all : List UInt8) (cnt ls : Nat) (r : List UInt8) (g n : Nat), standGo num T i all cnt ls = (r, g, n) → n ≠ 0 → i < n ∧ (T'.take (n - i) = T.take (n - i) → standGo num T' i all cnt ls = (r, g, n))
  | [], T', i, all, cnt, ls, r, g, n, h, hn => by
    rw [standGo] at h
    simp only [Prod.mk.injEq] at h
    omega
  | s :: T, T', i, all, cnt, ls, r, g, n, h, hn => by
    rcases standGo_case num s T i all cnt ls with h0 | ⟨p, h1, h2, h3, h4, h5, h6, h7, h8⟩
    · rw [h0] at h
      simp only [Prod.mk.injEq] at h
      omega
    · rw [standGo_ok h1 h2 h3 h4 h5 h6 h7 h8] at h
      by_cases hl : i + 1 = p.c
      · rw [if_pos hl] at h
        simp only [Prod.mk.injEq] at h
        refine ⟨by omega, fun ht => ?_⟩
        match T', ht with
        | [], ht => rw [show n - i = (n - i - 1) + 1 by omega] at ht; simp at ht
        | s' :: T', ht =>
          rw [show n - i = (n - i - 1) + 1 by omega, List.take_succ_cons, List.take_succ_cons] at ht
          simp only [List.cons.injEq] at ht
          rw [ht.1, standGo_ok h1 h2 h3 h4 h5 h6 h7 h8, if_pos hl]
          simp only [Prod.mk.injEq]
          exact h
      · rw [if_neg hl] at h
        match T' with
        | [] =>
          obtain ⟨hlt, _⟩ := standGo_prefix T [] (i + 1) _ _ _ r g n h hn
          refine ⟨by omega, fun ht => ?_⟩
          rw [show n - i = (n - i - 1) + 1 by omega] at ht; simp at ht
        | s' :: T' =>
          obtain ⟨hlt, hrest⟩ := standGo_prefix T T' (i + 1) _ _ _ r g n h hn
          refine ⟨by omega, fun ht => ?_⟩
          rw [show n - i = (n - (i + 1)) + 1 by omega, List.take_succ_cons, List.take_succ_cons] at ht
          simp only [List.cons.injEq] at ht
          rw [ht.1, standGo_ok h1 h2 h3 h4 h5 h6 h7 h8, if_neg hl]
          exact hrest ht.2
/-- Nothing stands among sectors that are all older. -/
theorem stand_older {num L : Nat} {T : List (List UInt8)} (h64 : ∀ s ∈ T, s.length = 64) (h : ∀ s ∈ T, genOf s < L) : standS T num L = ([], 0, 0) := by
  unfold standS
  cases T with
  | nil => rw [standGo]
  | cons s T =>
    refine standGo_no ?_
    rintro ⟨h1, h2⟩
    rw [if_pos rfl, readS_gen (by rw [h64 s (by simp)]; decide) h1] at h2
    have := h s (by simp)
    omega
/-- A record's own sectors stand. -/
theorem standGo_whole {num g cnt : Nat} (hn : num < 4294967296) (hg : g < 4294967296) (hc : cnt ≤ 79) (rest : List (List UInt8)) : ∀ (xs : List (List UInt8)) (i : Nat) (all : List UInt8) (c0 ls : Nat), xs ≠ [] → i + xs.length = cnt → (∀ x ∈ xs, x.length ≤ 52) → (∀ j (h : j < xs.length), j + 1 < xs.length → xs[j].length = 52) → (i = 0 → ls ≤ g) → (i ≠ 0 → ls = g ∧ c0 = cnt) →
    standGo num (secsFrom num g cnt i xs ++ rest) i all c0 ls = (all ++ xs.flatten, g, cnt)
  | [], i, all, c0, ls, h, _, _, _, _, _ => absurd rfl h
  | x :: xs, i, all, c0, ls, _, hlen, h52, hfull, h0, h1 => by
    have hx := h52 x (by simp)
    simp only [List.length_cons] at hlen
    rw [secsFrom, List.cons_append]
    rw [standGo_ok (p := ⟨num, g, i, cnt, x⟩) (readS_sec hn hg (by omega) (by omega) hx) rfl rfl (by by_cases hi : i = 0; simp [hi]; rw [if_neg hi, (h1 hi).2]) (by show 1 ≤ cnt; omega) hc (by by_cases hi : i = 0; rw [if_pos hi]; have := h0 hi; show g = max ls g; omega; rw [if_neg hi, (h1 hi).1]) (by
      show i + 1 = cnt ∨ x.length = 52
      cases xs with
      | nil => left; simp at hlen; omega
      | cons y ys => right; exact hfull 0 (by simp) (by simp))]
    cases xs with
    | nil =>
      simp only [List.length_nil] at hlen
      rw [if_pos (by show i + 1 = cnt; omega)]
      simp
    | cons y ys =>
      rw [if_neg (by show ¬ i + 1 = cnt; simp only [List.length_cons] at hlen; omega)]
      show standGo num (secsFrom num g cnt (i + 1) (y :: ys) ++ rest) (i + 1) (all ++ x) cnt g = _
      rw [standGo_whole hn hg hc rest (y :: ys) (i + 1) (all ++ x) cnt g (by simp) (by omega) (fun z hz => h52 z (by simp [hz])) (fun j hj hj2 => hfull (j + 1) (by simpa using hj) (by simpa using hj2)) (fun h => by omega) (fun _ => ⟨rfl, rfl⟩)]
      simp
/-- Behind a first sector that is old: either the same stands as did, or nothing. -/
theorem standGo_old {num g : Nat} : ∀ (T' : List (List UInt8)) (T : List (List UInt8)) (i : Nat) (all : List UInt8) (cnt ls : Nat), i ≠ 0 → ls < g → T'.length = T.length → (∀ s ∈ T', s.length = 64) → (∀ k : Nat, T'[k]? = T[k]? ∨ ∃ s : List UInt8, T'[k]? = some s ∧ genOf s = g) →
    standGo num T' i all cnt ls = ([], 0, 0) ∨ standGo num T' i all cnt ls = standGo num T i all cnt ls
  | [], T, i, all, cnt, ls, _, _, hl, _, _ => by
    obtain rfl : T = [] := List.eq_nil_of_length_eq_zero (by simpa using hl.symm)
    exact .inr rfl
  | s' :: T', [], i, all, cnt, ls, _, _, hl, _, _ => by simp at hl
  | s' :: T', s :: T, i, all, cnt, ls, hi, hlt, hl, h64, hm => by
    rcases standGo_case num s' T' i all cnt ls with h0 | ⟨p, h1, h2, h3, h4, h5, h6, h7, h8⟩
    · exact .inl h0
    · rcases hm 0 with he | ⟨x, he, hx⟩
      · simp only [List.getElem?_cons_zero, Option.some.injEq] at he
        subst he
        have hpl : p.g < g := by rw [if_neg hi] at h7; rw [h7]; exact hlt
        rw [standGo_ok h1 h2 h3 h4 h5 h6 h7 h8, standGo_ok h1 h2 h3 h4 h5 h6 h7 h8]
        split
        · exact .inr rfl
        · exact standGo_old T' T (i + 1) (all ++ p.x) p.c p.g (by omega) hpl (by simpa using hl) (fun x hx => h64 x (by simp [hx])) (fun k => by have := hm (k + 1); simpa using this)
      · simp only [List.getElem?_cons_zero, Option.some.injEq] at he
        subst he
        rw [if_neg hi] at h7
        have := readS_gen (s := s') (by rw [h64 s' (by simp)]; decide) (by rw [h1])
        rw [h1] at this
        dsimp only at this
        omega
/-- Behind a first sector that is new: either the new record stands, or nothing. -/
theorem standGo_new {num g cnt : Nat} {xs : List (List UInt8)} (hn : num < 4294967296) (hg : g < 4294967296) (hc : cnt ≤ 79) (hxl : xs.length = cnt) (h52 : ∀ x ∈ xs, x.length ≤ 52) : ∀ (T' : List (List UInt8)) (i : Nat) (all : List UInt8), i ≠ 0 → i < cnt → (∀ s ∈ T', s.length = 64) → (∀ k s, T'[k]? = some s → genOf s < g ∨ ∃ h : i + k < xs.length, s = secOf num g (i + k) cnt xs[i + k]) →
    standGo num T' i all cnt g = ([], 0, 0) ∨ standGo num T' i all cnt g = (all ++ (xs.drop i).flatten, g, cnt)
  | [], i, all, _, _, _, _ => by rw [standGo]; exact .inl rfl
  | s' :: T', i, all, hi, hic, h64, hm => by
    rcases standGo_case num s' T' i all cnt g with h0 | ⟨p, h1, h2, h3, h4, h5, h6, h7, h8⟩
    · exact .inl h0
    · rcases hm 0 s' rfl with he | ⟨hlt, he⟩
      · rw [if_neg hi] at h7
        have := readS_gen (s := s') (by rw [h64 s' (by simp)]; decide) (by rw [h1])
        rw [h1] at this
        dsimp only at this
        omega
      · simp only [Nat.add_zero] at he hlt
        have hr := readS_sec (n := num) (g := g) (i := i) (c := cnt) (x := xs[i]) hn hg (by omega) (by omega) (h52 _ (List.getElem_mem hlt))
        rw [← he, h1] at hr
        simp only [Prod.mk.injEq, and_true] at hr
        subst hr
        dsimp only at h2 h3 h4 h5 h6 h7 h8
        rw [standGo_ok h1 h2 h3 h4 h5 h6 h7 h8]
        dsimp only
        rw [List.drop_eq_getElem_cons hlt, List.flatten_cons]
        by_cases hl : i + 1 = cnt
        · rw [if_pos hl, List.drop_eq_nil_of_le (by omega)]
          right; simp
        · rw [if_neg hl]
          have := standGo_new hn hg hc hxl h52 T' (i + 1) (all ++ xs[i]) (by omega) (by omega) (fun x hx => h64 x (by simp [hx])) (fun k s hk => by
            have := hm (k + 1) s (by simpa using hk)
            rcases this with h | ⟨h, h'⟩
            · exact .inl h
            · right
              have e : i + (k + 1) = i + 1 + k := by omega
              simp only [e] at h h'
              exact ⟨h, h'⟩)
          rw [List.append_assoc] at this
          exact this
/-- Sectors over which a record's sectors were laid in part. -/
theorem stand_mix {num g cnt L : Nat} {xs T T' : List (List UInt8)} (hn : num < 4294967296) (hg : g < 4294967296) (hc : cnt ≤ 79) (hc1 : 1 ≤ cnt) (hxl : xs.length = cnt) (h52 : ∀ x ∈ xs, x.length ≤ 52) (hl : T'.length = T.length) (h64 : ∀ s ∈ T', s.length = 64) (hT : ∀ s ∈ T, genOf s < g)
    (hm : ∀ k, T'[k]? = T[k]? ∨ ∃ h : k < xs.length, T'[k]? = some (secOf num g k cnt xs[k])) :
    standS T' num L = ([], 0, 0) ∨ standS T' num L = standS T num L ∨ standS T' num L = (xs.flatten, g, cnt) := by
  unfold standS
  match T', T, hl with
  | [], [], _ => exact .inr (.inl rfl)
  | s' :: T', s :: T, hl =>
    have hgen : ∀ k (h : k < xs.length), genOf (secOf num g k cnt xs[k]) = g := fun k h => genOf_sec hn hg (by omega) (by omega) (h52 _ (List.getElem_mem h))
    rcases standGo_case num s' T' 0 [] 0 L with h0 | ⟨p, h1, h2, h3, h4, h5, h6, h7, h8⟩
    · exact .inl h0
    · rw [if_pos rfl] at h7
      rcases hm 0 with he | ⟨hlt, he⟩
      · simp only [List.getElem?_cons_zero, Option.some.injEq] at he
        subst he
        have hpg := readS_gen (s := s') (by rw [h64 s' (by simp)]; decide) (by rw [h1])
        rw [h1] at hpg
        dsimp only at hpg
        have := hT s' (by simp)
        rw [standGo_ok h1 h2 h3 h4 h5 h6 (by rw [if_pos rfl]; exact h7) h8, standGo_ok h1 h2 h3 h4 h5 h6 (by rw [if_pos rfl]; exact h7) h8]
        split
        · exact .inr (.inl rfl)
        · rcases standGo_old (num := num) (g := g) T' T (0 + 1) ([] ++ p.x) p.c p.g (by omega) (by omega) (by simpa using hl) (fun x hx => h64 x (by simp [hx])) (fun k => by
            have := hm (k + 1)
            simp only [List.getElem?_cons_succ] at this
            rcases this with h | ⟨h, h'⟩
            · exact .inl h
            · exact .inr ⟨_, h', hgen _ h⟩) with h | h
          · exact .inl h
          · exact .inr (.inl h)
      · simp only [List.getElem?_cons_zero, Option.some.injEq] at he
        have hr := readS_sec (n := num) (g := g) (i := 0) (c := cnt) (x := xs[0]) hn hg (by omega) (by omega) (h52 _ (List.getElem_mem hlt))
        rw [← he, h1] at hr
        simp only [Prod.mk.injEq, and_true] at hr
        subst hr
        dsimp only at h2 h3 h4 h5 h6 h7 h8
        rw [standGo_ok h1 h2 h3 h4 h5 h6 (by rw [if_pos rfl]; exact h7) h8]
        dsimp only
        have hflat : xs.flatten = xs[0] ++ (xs.drop 1).flatten := by
          have := List.drop_eq_getElem_cons hlt
          rw [List.drop_zero] at this
          conv => lhs; rw [this]
          rw [List.flatten_cons]
        by_cases hl1 : 0 + 1 = cnt
        · rw [if_pos hl1]
          right; right
          rw [hflat, List.drop_eq_nil_of_le (by omega)]; simp
        · rw [if_neg hl1]
          have := standGo_new hn hg hc hxl h52 T' (0 + 1) ([] ++ xs[0]) (by omega) (by omega) (fun x hx => h64 x (by simp [hx])) (fun k s hk => by
            have := hm (k + 1)
            simp only [List.getElem?_cons_succ] at this
            rcases this with h | ⟨h, h'⟩
            · left
              have hk2 : T[k]? = some s := by rw [← h]; exact hk
              exact hT s (by simp [List.mem_of_getElem? hk2])
            · right
              rw [hk] at h'
              simp only [Option.some.injEq] at h'
              have e : 0 + 1 + k = k + 1 := by omega
              simp only [e]
              exact ⟨h, h'⟩)
          rcases this with h | h
          · exact .inl h
          · right; right
            rw [h, hflat]; simp

/-- The records that stand from the first sector on: where they end, what they are, the last one's generation. -/
inductive Reach (ss : List (List UInt8)) : Nat → List (List UInt8) → Nat → Prop where
  | start : Reach ss 0 [] 1
  | step {next : Nat} {recs : List (List UInt8)} {L : Nat} {r : List UInt8} {g n : Nat} (h : Reach ss next recs L) (hs : standS (ss.drop next) (recs.length + 1) L = (r, g, n)) (hn : n ≠ 0) (hr : r.length ≤ 4096) : Reach ss (next + n) (recs ++ [r]) g
/-- No record stands there. -/
def Stop (ss : List (List UInt8)) (next num L : Nat) : Prop := (standS (ss.drop next) num L).2.2 = 0 ∨ 4096 < (standS (ss.drop next) num L).1.length
theorem Reach.le {ss : List (List UInt8)} {next L : Nat} {recs : List (List UInt8)} (h : Reach ss next recs L) : recs.length ≤ next ∧ next ≤ ss.length ∧ ∀ r ∈ recs, r.length ≤ 4096 := by
  induction h with
  | start => simp
  | step h hs hn hr ih =>
    rename_i next recs L r g n
    have hb := standGo_bd (recs.length + 1) (ss.drop next) 0 [] 0 L
    unfold standS at hs
    rw [hs] at hb
    have := hb.1
    simp only [List.length_drop] at this
    refine ⟨by simp; omega, by omega, fun x hx => ?_⟩
    rcases List.mem_append.1 hx with hx | hx
    · exact ih.2.2 x hx
    · rw [List.mem_singleton.1 hx]; exact hr
theorem Reach.go {ss : List (List UInt8)} {next L : Nat} {recs : List (List UInt8)} (gen : Nat) (h : Reach ss next recs L) : ∀ f, openGo ss gen (f + recs.length) 0 [] (List.replicate 32 0) 1 = openGo ss gen f next recs (hashO recs) L := by
  induction h with
  | start => intro f; rfl
  | step h hs hn hr ih =>
    rename_i next recs L r g n
    intro f
    rw [List.length_append, List.length_singleton, ← Nat.add_assoc, Nat.add_right_comm, ih (f + 1), openGo, hs]
    dsimp only
    rw [if_neg (by omega), hashO_snoc]
theorem open_reach {ss : List (List UInt8)} {next L : Nat} {recs : List (List UInt8)} (h : Reach ss next recs L) (hs : Stop ss next (recs.length + 1) L) : openS ss = ⟨mostOf ss + 1, next, recs, hashO recs, false⟩ := by
  have hle := h.le
  have := h.go (mostOf ss + 1) (ss.length + 1 - recs.length)
  rw [show ss.length + 1 - recs.length + recs.length = ss.length + 1 by omega] at this
  unfold openS
  rw [this]
  obtain ⟨f, hf⟩ : ∃ f, ss.length + 1 - recs.length = f + 1 := ⟨ss.length - recs.length, by omega⟩
  rw [hf, openGo]
  exact if_pos hs
theorem take_drop_eq {α : Type} {l m : List α} {a n : Nat} (h : l.take (a + n) = m.take (a + n)) : (l.drop a).take n = (m.drop a).take n := by
  have h1 : ∀ l : List α, (l.drop a).take n = (l.take (a + n)).drop a := fun l => by rw [List.drop_take]; congr 1; omega
  rw [h1, h1, h]
theorem take_le {α : Type} {l m : List α} {a b : Nat} (h : l.take b = m.take b) (hab : a ≤ b) : l.take a = m.take a := by
  have h1 : ∀ l : List α, l.take a = (l.take b).take a := fun l => by rw [List.take_take, Nat.min_eq_left hab]
  rw [h1, h1 m, h]
theorem Reach.prefix {ss ss' : List (List UInt8)} {next L : Nat} {recs : List (List UInt8)} (h : Reach ss next recs L) : ss'.take next = ss.take next → Reach ss' next recs L := by
  induction h with
  | start => intro _; exact .start
  | step h hs hn hr ih =>
    rename_i next recs L r g n
    intro ht
    have h1 := ih (take_le ht (by omega))
    have h2 := (standGo_prefix (ss.drop next) (ss'.drop next) 0 [] 0 L r g n hs hn).2 (by rw [Nat.sub_zero]; exact take_drop_eq ht)
    exact .step h1 h2 hn hr
/-- What a write of all parts leaves. -/
theorem bwrite_all (num gen next cnt : Nat) : ∀ (ls : List (List UInt8)) (D : DiskS) (i : Nat) (pre old post : List (List UInt8)), D.now = pre ++ old ++ post → pre.length = next + i → old.length = ls.length → D.now.length = D.flushed.length →
    ((bwrite num gen next cnt D i ls).2 = 0 ∧ (bwrite num gen next cnt D i ls).1.waits = [] ∧ (bwrite num gen next cnt D i ls).1.now = pre ++ secsFrom num gen cnt i ls ++ post ∧ (bwrite num gen next cnt D i ls).1.flushed = pre ++ secsFrom num gen cnt i ls ++ post) ∨
    ((bwrite num gen next cnt D i ls).2 = 5 ∧ (bwrite num gen next cnt D i ls).1.fuse = 0 ∧ (bwrite num gen next cnt D i ls).1.flushed = D.flushed ∧ ∀ w ∈ (bwrite num gen next cnt D i ls).1.waits, w ∈ D.waits ∨ ∃ (j : Nat) (h : j < ls.length), w = (next + (i + j), secOf num gen (i + j) cnt ls[j]))
  | [], D, i, pre, old, post, hn, hp, ho, _ => by
    obtain rfl : old = [] := List.eq_nil_of_length_eq_zero (by simpa using ho)
    unfold bwrite
    by_cases hf : D.fuse = 0
    · right
      rw [if_pos hf]
      exact ⟨rfl, hf, rfl, fun w hw => .inl hw⟩
    · left
      rw [if_neg hf]
      exact ⟨rfl, rfl, by simpa [secsFrom] using hn, by simpa [secsFrom] using hn⟩
  | x :: xs, D, i, pre, old, post, hn, hp, ho, hfl => by
    match old, ho with
    | o :: old, ho =>
      unfold bwrite
      by_cases hf : D.fuse = 0
      · right
        rw [if_pos hf]
        exact ⟨rfl, hf, rfl, fun w hw => .inl hw⟩
      · rw [if_neg hf]
        have hn2 : (D.write (next + i) (secOf num gen i cnt x)).now = (pre ++ [secOf num gen i cnt x]) ++ old ++ post := by
          simp only [DiskS.write, hn]
          rw [← hp]
          simp
        have hw2 : (D.write (next + i) (secOf num gen i cnt x)).waits = D.waits ++ [(next + i, secOf num gen i cnt x)] := rfl
        have hf2 : (D.write (next + i) (secOf num gen i cnt x)).flushed = D.flushed := rfl
        have ih := bwrite_all num gen next cnt xs (D.write (next + i) (secOf num gen i cnt x)) (i + 1) _ old post hn2 (by simp; omega) (by simpa using ho) (by rw [hf2, ← hfl]; simp [DiskS.write])
        rcases ih with ⟨h1, h2, h3, h4⟩ | ⟨h1, h2, h3, h4⟩
        · left
          refine ⟨h1, h2, ?_, ?_⟩
          · rw [h3]; simp [secsFrom]
          · rw [h4]; simp [secsFrom]
        · right
          refine ⟨h1, h2, h3.trans hf2, fun w hw => ?_⟩
          rcases h4 w hw with h | ⟨j, h, h'⟩
          · rw [hw2] at h
            rcases List.mem_append.1 h with h | h
            · exact .inl h
            · right
              exact ⟨0, by simp, by rw [List.mem_singleton.1 h]; simp⟩
          · right
            refine ⟨j + 1, by simpa using h, ?_⟩
            rw [h']
            simp only [List.getElem_cons_succ]
            rw [show i + 1 + j = i + (j + 1) by omega]
theorem bwrite_wlen (num gen next cnt : Nat) : ∀ (ls : List (List UInt8)) (D : DiskS) (i : Nat), (bwrite num gen next cnt D i ls).1.waits.length ≤ D.waits.length + ls.length
  | [], D, i => by unfold bwrite; split <;> simp
  | x :: xs, D, i => by
    unfold bwrite
    split
    · simp
    · have := bwrite_wlen num gen next cnt xs (D.write (next + i) (secOf num gen i cnt x)) (i + 1)
      have hw2 : (D.write (next + i) (secOf num gen i cnt x)).waits.length = D.waits.length + 1 := by simp [DiskS.write]
      rw [hw2] at this
      simp only [List.length_cons]
      omega
/-- A crash's writes: those of what waits that are picked. -/
def crashGo : List (Nat × List UInt8) → Nat → List Bool → List (List UInt8) → List (List UInt8)
  | [], _, _, cur => cur
  | w :: ws, i, pick, cur => crashGo ws (i + 1) pick (if pick.getD i false = true then cur.set w.1 w.2 else cur)
def DiskS.crash (D : DiskS) (pick : List Bool) : DiskS := ⟨-1, crashGo D.waits 0 pick D.flushed, crashGo D.waits 0 pick D.flushed, []⟩
def DiskS.fused (D : DiskS) (n : Int) : DiskS := { D with fuse := if D.fuse = 0 then 0 else max n (-1) }
theorem crashGo_mix {F : List (List UInt8)} {next : Nat} {ps : List (List UInt8)} : ∀ (ws : List (Nat × List UInt8)) (i : Nat) (pick : List Bool) (cur : List (List UInt8)), (∀ w ∈ ws, ∃ (j : Nat) (h : j < ps.length), w = (next + j, ps[j])) → cur.length = F.length → (∀ p, cur[p]? = F[p]? ∨ ∃ (j : Nat) (h : j < ps.length), p = next + j ∧ cur[p]? = some ps[j]) →
    (crashGo ws i pick cur).length = F.length ∧ ∀ p, (crashGo ws i pick cur)[p]? = F[p]? ∨ ∃ (j : Nat) (h : j < ps.length), p = next + j ∧ (crashGo ws i pick cur)[p]? = some ps[j]
  | [], i, pick, cur, _, hl, hm => ⟨hl, hm⟩
  | w :: ws, i, pick, cur, hw, hl, hm => by
    rw [crashGo]
    refine crashGo_mix ws (i + 1) pick _ (fun x hx => hw x (by simp [hx])) ?_ ?_
    · split
      · simpa using hl
      · exact hl
    · intro p
      split
      · obtain ⟨j, hj, rfl⟩ := hw w (by simp)
        dsimp only
        by_cases hp : next + j = p
        · subst hp
          rcases Nat.lt_or_ge (next + j) cur.length with h | h
          · right
            exact ⟨j, hj, rfl, by rw [List.getElem?_set_self h]⟩
          · rw [List.set_eq_of_length_le h]; exact hm _
        · rw [List.getElem?_set_ne hp]; exact hm p
      · exact hm p
/-- A book and its disk, of 300 sectors, between the law's calls: 'k' calls at most have been; 'want' is what was answered OK; 'owed': a record, 'cut', was cut off. -/
structure CrashS (k : Nat) (want : List (List UInt8)) (owed : Bool) (cut : List UInt8) (b : BookS) (D : DiskS) : Prop where
  recs : b.recs = want
  hash : b.hash = hashO want
  over : b.over = owed
  gen1 : 1 ≤ b.gen
  gen2 : b.gen ≤ k + 1
  len : D.flushed.length = 300
  nlen : D.now.length = 300
  f64 : ∀ s ∈ D.flushed, s.length = 64
  gens : ∀ s ∈ D.flushed, genOf s ≤ b.gen
  rest : ∀ s ∈ D.flushed.drop b.next, genOf s < b.gen
  stands : ∃ L, L ≤ b.gen ∧ Reach D.flushed b.next want L ∧ Stop D.flushed b.next (want.length + 1) L
  wfew : D.waits.length ≤ 79
  idle : owed = false → D.waits = [] ∧ D.now = D.flushed
  lost : owed = true → D.fuse = 0 ∧ cut.length ≤ 4096 ∧ b.next + (parts52 cut).length ≤ 300 ∧ ∀ w ∈ D.waits, ∃ (j : Nat) (h : j < (parts52 cut).length), w = (b.next + j, secOf (want.length + 1) b.gen j (parts52 cut).length (parts52 cut)[j])
theorem CrashS.le {k : Nat} {want : List (List UInt8)} {owed : Bool} {cut : List UInt8} {b : BookS} {D : DiskS} (h : CrashS k want owed cut b D) : want.length ≤ b.next ∧ b.next ≤ 300 ∧ ∀ r ∈ want, r.length ≤ 4096 := by
  obtain ⟨L, _, h1, _⟩ := h.stands
  have := h1.le
  rw [h.len] at this
  exact this
theorem stop_older {ss : List (List UInt8)} {next num L : Nat} (h64 : ∀ s ∈ ss, s.length = 64) (h : ∀ s ∈ ss.drop next, genOf s < L) : Stop ss next num L := by
  left
  rw [stand_older (fun s hs => h64 s (List.mem_of_mem_drop hs)) h]
theorem CrashS.start : CrashS 0 [] false [] ⟨1, 0, [], List.replicate 32 0, false⟩ (DiskS.new 300) := by
  have hz : ∀ s ∈ List.replicate 300 zeros, s = zeros := fun s hs => List.eq_of_mem_replicate hs
  refine ⟨rfl, by unfold hashO; rfl, rfl, by decide, by decide, List.length_replicate, List.length_replicate, fun s hs => ?_, fun s hs => ?_, fun s hs => ?_, ⟨1, by decide, .start, ?_⟩, by decide, fun _ => ⟨rfl, rfl⟩, fun h => by cases h⟩
  · rw [hz s hs]; rfl
  · rw [hz s hs, genOf_zeros]; decide
  · rw [hz s (List.mem_of_mem_drop hs), genOf_zeros]; decide
  · refine stop_older (fun s hs => by rw [hz s hs]; rfl) (fun s hs => by rw [hz s (List.mem_of_mem_drop hs), genOf_zeros]; decide)
theorem CrashS.more {k k' : Nat} {want : List (List UInt8)} {owed : Bool} {cut : List UInt8} {b : BookS} {D : DiskS} (h : CrashS k want owed cut b D) (hk : k ≤ k') : CrashS k' want owed cut b D :=
  { h with gen2 := Nat.le_trans h.gen2 (by omega) }
/-- A cut record that is not owed may be any. -/
theorem CrashS.anycut {k : Nat} {want : List (List UInt8)} {cut cut' : List UInt8} {b : BookS} {D : DiskS} (h : CrashS k want false cut b D) : CrashS k want false cut' b D :=
  { h with lost := fun h => by cases h }
theorem CrashS.fuse {k : Nat} {want : List (List UInt8)} {owed : Bool} {cut : List UInt8} {b : BookS} {D : DiskS} (h : CrashS k want owed cut b D) (n : Int) : CrashS k want owed cut b (D.fused n) :=
  { h with
    lost := fun ho => by
      have := h.lost ho
      exact ⟨by unfold DiskS.fused; dsimp only; rw [if_pos this.1], this.2⟩ }
theorem mostOf_le {ss : List (List UInt8)} {g : Nat} (h : ∀ s ∈ ss, genOf s ≤ g) : mostOf ss ≤ g ∧ ∀ s ∈ ss, genOf s ≤ mostOf ss := by
  have : ∀ (ss : List (List UInt8)) (m : Nat), (∀ s ∈ ss, genOf s ≤ g) → m ≤ g → ss.foldl (fun m s => max m (genOf s)) m ≤ g ∧ m ≤ ss.foldl (fun m s => max m (genOf s)) m ∧ ∀ s ∈ ss, genOf s ≤ ss.foldl (fun m s => max m (genOf s)) m := by
    intro ss
    induction ss with
    | nil => intro m _ hm; exact ⟨hm, Nat.le_refl _, by simp⟩
    | cons s ss ih =>
      intro m hs hm
      have h1 := hs s (by simp)
      have := ih (max m (genOf s)) (fun x hx => hs x (by simp [hx])) (by omega)
      rw [List.foldl_cons]
      refine ⟨this.1, by omega, fun x hx => ?_⟩
      rcases List.mem_cons.1 hx with rfl | hx
      · omega
      · exact this.2.2 x hx
  have h2 := this ss 0 h (by omega)
  exact ⟨h2.1, h2.2.2⟩
theorem split3 {α : Type} (l : List α) (a n : Nat) : l = l.take a ++ (l.drop a).take n ++ l.drop (a + n) := by
  rw [List.append_assoc, ← List.drop_drop, List.take_append_drop, List.take_append_drop]
theorem CrashS.long {k : Nat} {want : List (List UInt8)} {cut : List UInt8} {b : BookS} {D : DiskS} (h : CrashS k want false cut b D) {r : List UInt8} (hl : 4096 < r.length) : appendS b D r = (b, D, 3) := by
  unfold appendS; rw [if_neg (by rw [h.over]; decide), if_pos hl]
theorem CrashS.full {k : Nat} {want : List (List UInt8)} {cut : List UInt8} {b : BookS} {D : DiskS} (h : CrashS k want false cut b D) {r : List UInt8} (hl : r.length ≤ 4096) (hf : 300 - b.next < (parts52 r).length) : appendS b D r = (b, D, 4) := by
  unfold appendS; rw [if_neg (by rw [h.over]; decide), if_neg (by omega), if_pos (by rw [h.nlen]; exact hf)]
theorem CrashS.gone {k : Nat} {want : List (List UInt8)} {cut : List UInt8} {b : BookS} {D : DiskS} (h : CrashS k want true cut b D) (r : List UInt8) : appendS b D r = (b, D, 5) := by
  unfold appendS; rw [if_pos h.over]
/-- An Append that is tried: it is done, or it is cut off. -/
theorem CrashS.try {k : Nat} {want : List (List UInt8)} {cut : List UInt8} {b : BookS} {D : DiskS} (h : CrashS k want false cut b D) (hk : k ≤ 100) {r : List UInt8} (hl : r.length ≤ 4096) (hf : (parts52 r).length ≤ 300 - b.next) :
    (∃ b' D', appendS b D r = (b', D', 0) ∧ CrashS k (want ++ [r]) false cut b' D') ∨ (∃ b' D', appendS b D r = (b', D', 5) ∧ CrashS k want true r b' D') := by
  have hle := h.le
  have hlen := parts52_len r
  have h52 := parts52_le r
  obtain ⟨hw, hnf⟩ := h.idle rfl
  obtain ⟨L, hL, hreach, hstop⟩ := h.stands
  have hg1 := h.gen1
  have hg2 := h.gen2
  obtain ⟨cnt, hcnt⟩ : ∃ cnt, (parts52 r).length = cnt := ⟨_, rfl⟩
  have hsplit := split3 D.now b.next cnt
  have hb := bwrite_all (b.recs.length + 1) b.gen b.next cnt (parts52 r) D 0 (D.now.take b.next) ((D.now.drop b.next).take cnt) (D.now.drop (b.next + cnt)) hsplit (by rw [List.length_take, h.nlen]; omega) (by rw [List.length_take, List.length_drop, h.nlen, hcnt]; omega) (by rw [h.nlen, h.len])
  have hap : appendS b D r = if (bwrite (b.recs.length + 1) b.gen b.next cnt D 0 (parts52 r)).2 ≠ 0 then ({ b with over := true }, (bwrite (b.recs.length + 1) b.gen b.next cnt D 0 (parts52 r)).1, (bwrite (b.recs.length + 1) b.gen b.next cnt D 0 (parts52 r)).2) else ({ b with recs := b.recs ++ [r], hash := linkOf b.hash r, next := b.next + cnt }, (bwrite (b.recs.length + 1) b.gen b.next cnt D 0 (parts52 r)).1, 0) := by
    unfold appendS
    rw [if_neg (by rw [h.over]; decide), if_neg (by omega), if_neg (by rw [h.nlen]; omega), hcnt]
  obtain ⟨lk, hlk⟩ : ∃ lk, linkOf b.hash r = lk := ⟨_, rfl⟩
  rw [hlk] at hap
  have hnl := bwrite_len (b.recs.length + 1) b.gen b.next cnt (parts52 r) D 0
  have hwl := bwrite_wlen (b.recs.length + 1) b.gen b.next cnt (parts52 r) D 0
  rw [h.recs] at hap hb hnl hwl
  obtain ⟨R, hR⟩ : ∃ R, bwrite (want.length + 1) b.gen b.next cnt D 0 (parts52 r) = R := ⟨_, rfl⟩
  rw [hR] at hap hb hnl hwl
  have hsl := secsFrom_len (want.length + 1) b.gen cnt 0 (parts52 r)
  have hmem : ∀ s ∈ secsFrom (want.length + 1) b.gen cnt 0 (parts52 r), genOf s = b.gen ∧ s.length = 64 := fun s hs => by
    obtain ⟨j, hj, rfl⟩ := List.mem_iff_getElem.1 hs
    have hj2 : j < (parts52 r).length := by omega
    have := secsFrom_at (want.length + 1) b.gen cnt 0 (parts52 r) j hj2
    rw [List.getElem?_eq_getElem hj, Nat.zero_add, Option.some.injEq] at this
    rw [this]
    have hx := h52 _ (List.getElem_mem hj2)
    exact ⟨genOf_sec (by omega) (by omega) (by omega) (by omega) hx, secOf_len _ _ _ _ hx⟩
  rcases hb with ⟨h1, h2, h3, h4⟩ | ⟨h1, h2, h3, h4⟩
  · left
    rw [h1, if_neg (by simp)] at hap
    refine ⟨_, _, hap, ?_⟩
    rw [hnf] at h3 h4
    obtain ⟨S, hS⟩ : ∃ S, secsFrom (want.length + 1) b.gen cnt 0 (parts52 r) = S := ⟨_, rfl⟩
    have hwhole := standGo_whole (num := want.length + 1) (g := b.gen) (cnt := cnt) (by omega) (by omega) (by omega) (D.flushed.drop (b.next + cnt)) (parts52 r) 0 [] 0 L (by intro he; rw [he] at hlen; simp only [List.length_nil] at hlen; omega) (by omega) h52 (parts52_full r) (fun _ => hL) (fun h => absurd rfl h)
    rw [hS] at h3 h4 hmem hwhole hsl
    have htl : (D.flushed.take b.next).length = b.next := by rw [List.length_take, h.len]; omega
    have hdrop : R.1.flushed.drop b.next = S ++ D.flushed.drop (b.next + cnt) := by
      rw [h4, List.append_assoc, List.drop_left' htl]
    have hdrop2 : R.1.flushed.drop (b.next + cnt) = D.flushed.drop (b.next + cnt) := by
      rw [← List.drop_drop, hdrop, List.drop_left' (by omega)]
    have htake : R.1.flushed.take b.next = D.flushed.take b.next := by
      rw [h4, List.append_assoc, List.take_left' htl]
    have hr1 := hreach.prefix htake
    have hst : standS (R.1.flushed.drop b.next) (want.length + 1) L = (r, b.gen, cnt) := by
      unfold standS
      rw [hdrop, hwhole, List.nil_append, parts52_flat]
    have hr2 := Reach.step hr1 hst (by omega) hl
    have hall : ∀ s ∈ R.1.flushed, s ∈ D.flushed ∨ s ∈ S := fun s hs => by
      rw [h4] at hs
      rcases List.mem_append.1 hs with hs | hs
      · rcases List.mem_append.1 hs with hs | hs
        · exact .inl (List.mem_of_mem_take hs)
        · exact .inr hs
      · exact .inl (List.mem_of_mem_drop hs)
    have hrest : ∀ s ∈ R.1.flushed.drop (b.next + cnt), genOf s < b.gen := fun s hs => by
      rw [hdrop2, ← List.drop_drop] at hs
      exact h.rest s (List.mem_of_mem_drop hs)
    have h64 : ∀ s ∈ R.1.flushed, s.length = 64 := fun s hs => by
      rcases hall s hs with hs | hs
      · exact h.f64 s hs
      · exact (hmem s hs).2
    refine ⟨by rw [← h.recs], ?_, h.over, h.gen1, h.gen2, ?_, ?_, h64, fun s hs => ?_, hrest, ⟨b.gen, Nat.le_refl _, hr2, stop_older h64 hrest⟩, by rw [h2]; simp, fun _ => ⟨h2, by rw [h3, h4]⟩, fun h => by cases h⟩
    · show lk = _
      rw [← hlk, hashO_snoc, h.hash]
    · rw [h4, ← h3, hnl, h.nlen]
    · rw [hnl, h.nlen]
    · rcases hall s hs with hs | hs
      · exact h.gens s hs
      · exact Nat.le_of_eq (hmem s hs).1
  · right
    rw [h1, if_pos (by decide)] at hap
    refine ⟨_, _, hap, ?_⟩
    refine ⟨rfl, h.hash, rfl, h.gen1, h.gen2, by rw [h3]; exact h.len, by rw [hnl, h.nlen], fun s hs => h.f64 s (by rw [← h3]; exact hs), fun s hs => h.gens s (by rw [← h3]; exact hs), fun s hs => h.rest s (by rw [← h3]; exact hs), ⟨L, hL, by rw [h3]; exact hreach, by rw [h3]; exact hstop⟩, by rw [hw] at hwl; simp only [List.length_nil] at hwl; omega, (fun h => by cases h), fun _ => ⟨h2, hl, by show b.next + _ ≤ _; rw [hcnt]; omega, fun w hw' => ?_⟩⟩
    rcases h4 w hw' with h5 | ⟨j, hj, h5⟩
    · rw [hw] at h5; simp at h5
    · refine ⟨j, hj, ?_⟩
      rw [h5, hcnt, Nat.zero_add]
theorem standGo_gen {num : Nat} : ∀ (T : List (List UInt8)) (i : Nat) (all : List UInt8) (cnt ls : Nat) (r : List UInt8) (g n : Nat), (∀ s ∈ T, s.length = 64) → standGo num T i all cnt ls = (r, g, n) → n ≠ 0 → ∃ s ∈ T, genOf s = g
  | [], i, all, cnt, ls, r, g, n, _, h, hn => by
    rw [standGo] at h
    simp only [Prod.mk.injEq] at h
    omega
  | s :: T, i, all, cnt, ls, r, g, n, h64, h, hn => by
    rcases standGo_case num s T i all cnt ls with h0 | ⟨p, h1, h2, h3, h4, h5, h6, h7, h8⟩
    · rw [h0] at h
      simp only [Prod.mk.injEq] at h
      omega
    · rw [standGo_ok h1 h2 h3 h4 h5 h6 h7 h8] at h
      split at h
      · simp only [Prod.mk.injEq] at h
        have := readS_gen (s := s) (by rw [h64 s (by simp)]; decide) (by rw [h1])
        rw [h1] at this
        exact ⟨s, by simp, this.symm.trans h.2.1⟩
      · obtain ⟨x, hx, hg⟩ := standGo_gen T (i + 1) _ _ _ r g n (fun x hx => h64 x (by simp [hx])) h hn
        exact ⟨x, by simp [hx], hg⟩
theorem Reach.gen {ss : List (List UInt8)} {next L g : Nat} {recs : List (List UInt8)} (h : Reach ss next recs L) (h64 : ∀ s ∈ ss, s.length = 64) (hg : ∀ s ∈ ss, genOf s ≤ g) : L ≤ g + 1 := by
  cases h with
  | start => omega
  | step h hs hn hr =>
    obtain ⟨s, hm, rfl⟩ := standGo_gen _ _ _ _ _ _ _ _ (fun s hm => h64 s (List.mem_of_mem_drop hm)) hs hn
    have := hg s (List.mem_of_mem_drop hm)
    omega
/-- A crash, and the book opened behind it. -/
theorem CrashS.crash {k : Nat} {want : List (List UInt8)} {owed : Bool} {cut : List UInt8} {b : BookS} {D : DiskS} (h : CrashS k want owed cut b D) (hk : k ≤ 100) (pick : List Bool) :
    ∃ want', (want' = want ∨ (owed = true ∧ want' = want ++ [cut])) ∧ mostOf (D.crash pick).now ≤ k + 1 ∧ CrashS (k + 1) want' false cut (openS (D.crash pick).now) (D.crash pick) := by
  obtain ⟨L, hL, hreach, hstop⟩ := h.stands
  have hle := h.le
  have hg1 := h.gen1
  have hg2 := h.gen2
  have hnow : (D.crash pick).now = crashGo D.waits 0 pick D.flushed := rfl
  have hfl : (D.crash pick).flushed = crashGo D.waits 0 pick D.flushed := rfl
  -- the sectors behind the crash
  obtain ⟨ps, cnt, hps, hcnt, hpl, h52, hc1, hc2, hcn, hwaits⟩ : ∃ (xs : List (List UInt8)) (cnt : Nat), xs.length = cnt ∧ (owed = true → xs = parts52 cut) ∧ xs.flatten = (if owed = true then cut else []) ∧ (∀ x ∈ xs, x.length ≤ 52) ∧ 1 ≤ cnt ∧ cnt ≤ 79 ∧ (owed = true → cut.length ≤ 4096 ∧ b.next + cnt ≤ 300) ∧ ∀ w ∈ D.waits, ∃ (j : Nat) (h : j < (secsFrom (want.length + 1) b.gen cnt 0 xs).length), w = (b.next + j, (secsFrom (want.length + 1) b.gen cnt 0 xs)[j]) := by
    cases owed with
    | false => exact ⟨[[]], 1, rfl, by simp, by simp, by simp, by simp, by simp, by simp, fun w hw => by rw [(h.idle rfl).1] at hw; simp at hw⟩
    | true =>
      have hl := h.lost rfl
      have hlen := parts52_len cut
      refine ⟨parts52 cut, (parts52 cut).length, rfl, fun _ => rfl, by simp [parts52_flat], parts52_le cut, by omega, by omega, fun _ => ⟨hl.2.1, hl.2.2.1⟩, fun w hw => ?_⟩
      obtain ⟨j, hj, rfl⟩ := hl.2.2.2 w hw
      refine ⟨j, by rw [secsFrom_len]; exact hj, ?_⟩
      have := secsFrom_at (want.length + 1) b.gen (parts52 cut).length 0 (parts52 cut) j hj
      rw [List.getElem?_eq_getElem (by rw [secsFrom_len]; exact hj), Nat.zero_add, Option.some.injEq] at this
      rw [this]
  have hmix := crashGo_mix (F := D.flushed) (next := b.next) (ps := secsFrom (want.length + 1) b.gen cnt 0 ps) D.waits 0 pick D.flushed hwaits rfl (fun p => .inl rfl)
  rw [hnow]
  obtain ⟨ss, hss⟩ : ∃ ss, crashGo D.waits 0 pick D.flushed = ss := ⟨_, rfl⟩
  rw [hss] at hmix hnow hfl ⊢
  obtain ⟨hlen, hm⟩ := hmix
  have hat : ∀ j (hj : j < ps.length), (secsFrom (want.length + 1) b.gen cnt 0 ps)[j]? = some (secOf (want.length + 1) b.gen j cnt ps[j]) := fun j hj => by
    have := secsFrom_at (want.length + 1) b.gen cnt 0 ps j hj
    rw [Nat.zero_add] at this; exact this
  have hm2 : ∀ p, ss[p]? = D.flushed[p]? ∨ ∃ (j : Nat) (hj : j < ps.length), p = b.next + j ∧ ss[p]? = some (secOf (want.length + 1) b.gen j cnt ps[j]) := fun p => by
    rcases hm p with h | ⟨j, hj, hp, h⟩
    · exact .inl h
    · right
      have hj2 : j < ps.length := by rw [secsFrom_len] at hj; exact hj
      refine ⟨j, hj2, hp, ?_⟩
      rw [h, ← hat j hj2, List.getElem?_eq_getElem hj]
  have htake : ss.take b.next = D.flushed.take b.next := by
    apply List.ext_getElem?
    intro p
    rw [List.getElem?_take, List.getElem?_take]
    split
    · rcases hm2 p with h | ⟨j, hj, hp, _⟩
      · exact h
      · omega
    · rfl
  have hgen : ∀ j (hj : j < ps.length), genOf (secOf (want.length + 1) b.gen j cnt ps[j]) = b.gen ∧ (secOf (want.length + 1) b.gen j cnt ps[j]).length = 64 := fun j hj => by
    have hx := h52 _ (List.getElem_mem hj)
    exact ⟨genOf_sec (by omega) (by omega) (by omega) (by omega) hx, secOf_len _ _ _ _ hx⟩
  have hall : ∀ s ∈ ss, genOf s ≤ b.gen ∧ s.length = 64 := fun s hs => by
    obtain ⟨p, hp, rfl⟩ := List.mem_iff_getElem.1 hs
    rcases hm2 p with h1 | ⟨j, hj, _, h1⟩
    · rw [List.getElem?_eq_getElem hp] at h1
      have hmem := List.mem_of_getElem? h1.symm
      exact ⟨h.gens _ hmem, h.f64 _ hmem⟩
    · rw [List.getElem?_eq_getElem hp, Option.some.injEq] at h1
      rw [h1]
      exact ⟨Nat.le_of_eq (hgen j hj).1, (hgen j hj).2⟩
  obtain ⟨hmost, hmost2⟩ := mostOf_le (fun s hs => (hall s hs).1)
  have hreach2 := hreach.prefix htake
  have hmixst := stand_mix (num := want.length + 1) (g := b.gen) (cnt := cnt) (L := L) (xs := ps) (T := D.flushed.drop b.next) (T' := ss.drop b.next) (by omega) (by omega) hc2 hc1 hps h52 (by rw [List.length_drop, List.length_drop, hlen]) (fun s hs => (hall s (List.mem_of_mem_drop hs)).2) h.rest (fun p => by
    rw [List.getElem?_drop, List.getElem?_drop]
    rcases hm2 (b.next + p) with h1 | ⟨j, hj, hp, h1⟩
    · exact .inl h1
    · right
      obtain rfl : p = j := by omega
      exact ⟨hj, h1⟩)
  have mk : ∀ (want' : List (List UInt8)) (next' L' : Nat), Reach ss next' want' L' → Stop ss next' (want'.length + 1) L' → CrashS (k + 1) want' false cut (openS ss) (D.crash pick) := fun want' next' L' hr hs => by
    rw [open_reach hr hs]
    refine ⟨rfl, rfl, rfl, by show 1 ≤ mostOf ss + 1; omega, by show mostOf ss + 1 ≤ k + 1 + 1; omega, by rw [hfl, hlen, h.len], by rw [hnow, hlen, h.len], fun s hs => (hall s (by rw [← hfl]; exact hs)).2, fun s hs => ?_, fun s hs => ?_, ?_, Nat.zero_le _, fun _ => ⟨rfl, by rw [hnow, hfl]⟩, fun h => by cases h⟩
    · rw [hfl] at hs
      have := hmost2 s hs
      show genOf s ≤ mostOf ss + 1
      omega
    · rw [hfl] at hs
      have := hmost2 s (List.mem_of_mem_drop hs)
      show genOf s < mostOf ss + 1
      omega
    · rw [hfl]
      exact ⟨L', hr.gen (fun s hs => (hall s hs).2) hmost2, hr, hs⟩
  rcases hmixst with h1 | h1 | h1
  · exact ⟨want, .inl rfl, by omega, mk want b.next L hreach2 (.inl (by rw [h1]))⟩
  · exact ⟨want, .inl rfl, by omega, mk want b.next L hreach2 (by unfold Stop; rw [h1]; exact hstop)⟩
  · cases owed with
    | false =>
      have he : ss = D.flushed := by rw [← hss, (h.idle rfl).1]; rfl
      exact ⟨want, .inl rfl, by omega, mk want b.next L hreach2 (by rw [he]; exact hstop)⟩
    | true =>
      have hc := hcn rfl
      rw [hpl, if_pos rfl] at h1
      refine ⟨want ++ [cut], .inr ⟨rfl, rfl⟩, by omega, mk (want ++ [cut]) (b.next + cnt) b.gen (.step hreach2 h1 (by omega) hc.1) ?_⟩
      refine stop_older (fun s hs => (hall s hs).2) fun s hs => ?_
      obtain ⟨p, hp, rfl⟩ := List.mem_iff_getElem.1 hs
      have hp2 : b.next + cnt + p < ss.length := by simp at hp; omega
      have e : (ss.drop (b.next + cnt))[p] = ss[b.next + cnt + p] := List.getElem_drop ..
      rw [e]
      rcases hm2 (b.next + cnt + p) with h2 | ⟨j, hj, hj2, _⟩
      · rw [List.getElem?_eq_getElem hp2] at h2
        refine h.rest _ ?_
        have h3 : (D.flushed.drop b.next)[cnt + p]? = some ss[b.next + cnt + p] := by
          rw [List.getElem?_drop, ← Nat.add_assoc]; exact h2.symm
        exact List.mem_of_getElem? h3
      · omega
end Go.Proofs.YtnfnaedoejgpiaaDoor
