/- Slices of bytes of the call's own that begin amid their block; appends to them. -/
import Derived.Test.YtnfnaedoejgpiaaDoorCodec
namespace Go.Proofs.YtnfnaedoejgpiaaDoor
open Go.RowKit

/-- A slice of bytes of the call's own, wherever in its block it begins. -/
def MidB (w : World) (base : Nat) (v : Value) (l : List UInt8) : Prop :=
  (v = .slice none 0 0 ∧ l = []) ∨ ∃ g o cap cur, v = .slice (some ⟨g, o, none⟩) l.length cap ∧ base ≤ g ∧ Blk w g cur 5 ∧ l.length ≤ cap ∧ cap ≤ maxLen ∧ o + cap ≤ cur.size ∧ (cur.toList.drop o).take l.length = l.map bv
theorem MidB.upd {S : List Nat} {w w' : World} {base : Nat} {v : Value} {l : List UInt8} (h : MidB w base v l) (hu : Upd S w w') (hS : ∀ k ∈ S, blkOf v ≠ k + 1) : MidB w' base v l := by
  rcases h with h | ⟨g, o, cap, cur, rfl, h1, h2, h3⟩
  · exact .inl h
  · exact .inr ⟨g, o, cap, cur, rfl, h1, h2.upd hu (fun hg => hS g hg rfl), h3⟩
theorem MidB.sl {w : World} {base : Nat} {v : Value} {l : List UInt8} (h : MidB w base v l) : Bytes w v l := by
  rcases h with ⟨rfl, rfl⟩ | ⟨g, o, cap, cur, rfl, h1, h2, h3, h4, h5, h6⟩
  · exact Sl.nil w 1
  · refine ⟨some ⟨g, o, none⟩, cap, rfl, h3, h4, by simp, (fun h => by cases h), fun h0 => ⟨g, o, rfl, h2.lt, fun j u hj => ?_⟩⟩
    rw [← h6] at hj
    have hj' := (List.getElem?_eq_some_iff.1 hj).1
    rw [List.getElem?_take_of_lt (by simp at hj'; omega), List.getElem?_drop] at hj
    exact h2.cell (by simpa using hj)
theorem MidB.lt {w : World} {base : Nat} {v : Value} {l : List UInt8} (h : MidB w base v l) : blkOf v ≤ w.heap.size ∧ (blkOf v = 0 ∨ base < blkOf v) := by
  rcases h with ⟨rfl, rfl⟩ | ⟨g, o, cap, cur, rfl, h1, h2, h3⟩
  · simp [blkOf]
  · have := h2.lt; simp [blkOf]; omega
theorem MidB.ofOwn {w : World} {base : Nat} {v : Value} {l : List UInt8} (h : w.ownsRow base 5 1 v l.length (l.map bv)) : MidB w base v l := by
  rcases h.2 with ⟨rfl, h0⟩ | ⟨g, cap, cur, rfl, hb, hg, hn, hc, hs, ht⟩
  · exact .inl ⟨rfl, List.eq_nil_of_length_eq_zero h0⟩
  · exact .inr ⟨g, 0, cap, cur, rfl, hb, hg, hn, hc, by omega, by simpa using ht⟩
/-- What is behind the first m. -/
theorem MidB.drop {w : World} {base : Nat} {ao A : Option Addr} {n c m : Nat} {l : List UInt8} (h : MidB w base (.slice ao n c) l) (hm : m ≤ n) (hA : A = if c = m then ao else ao.map (fun x => x.add m)) : MidB w base (.slice A (n - m) (c - m)) (l.drop m) := by
  rcases h with ⟨h, rfl⟩ | ⟨g, o, cap, cur, h, h1, h2, h3, h4, h5, h6⟩
  · simp only [Value.slice.injEq] at h
    obtain ⟨rfl, rfl, rfl⟩ := h
    left; simp [hA]
  · simp only [Value.slice.injEq] at h
    obtain ⟨rfl, rfl, rfl⟩ := h
    right
    by_cases hc : c = m
    · rw [if_pos hc] at hA; subst hA
      have : l.length = m := by omega
      refine ⟨g, o, 0, cur, by simp; omega, h1, h2, by simp; omega, by omega, by omega, by simp [this]⟩
    · rw [if_neg hc] at hA; subst hA
      refine ⟨g, o + m, c - m, cur, by simp [Addr.add_lit], h1, h2, by simp; omega, by omega, by omega, ?_⟩
      rw [List.map_drop, ← h6, List.drop_take, List.drop_drop]
      simp

theorem run_app_room {P : Program} (w : World) (t ty e : TypeId) (i : TypeInfo) (ht : P.underlying t = some (.slice e)) (hi : P.info? e = some i) (hs : i.size = 1)
    (g o sLen sCap : Nat) (cur : Array Value) (hg : Blk w g cur e) (a : Addr) (m c : Nat) (news : List Value) (hl : news.length = m) (hnews : ∀ j u, news[j]? = some u → w.cell? (a.add j) = some u) (h1 : ∀ u ∈ news, u.oneCell' = true)
    (hroom : sLen + m ≤ sCap) (hfit : o + sLen + m ≤ cur.size) :
    (Builtin.append_ #[t, t] ty #[.slice (some ⟨g, o, none⟩) sLen sCap, .slice (some a) m c]).run P w =
      .ok (.slice (some ⟨g, o, none⟩) (sLen + m) sCap) (w.setRow g (cur.toList.take (o + sLen) ++ news ++ cur.toList.drop (o + sLen + m)).toArray) := by
  have hf := run_firstCells_some (P := P) w i.size m a m c news (by rw [hl, hs]; simp) hnews
  have hst := run_storeCells_at P g (o + sLen) e news 0 cur w hg (by rw [hl]; simpa using hfit) h1
  simp only [Nat.add_zero, hl] at hst
  rw [hs] at hf
  simp [Builtin.append_, run_underlying ht, sizeOf, typeInfo, hi, Builtin.lenOf, hroom, hf, hs, Addr.add_lit, hst]

theorem mid_room {cur a b rest : List Value} {o : Nat} (h : (cur.drop o).take a.length = a) (hl : o + a.length ≤ cur.length) : ((cur.take (o + a.length) ++ b ++ rest).drop o).take (a.length + b.length) = a ++ b := by
  have e : (cur.take (o + a.length)).drop o = a := by rw [List.drop_take]; simpa using h
  rw [List.append_assoc, List.drop_append_of_le_length (by simp; omega), e, ← List.append_assoc, ← List.length_append, List.take_left]
structure AppedB (base : Nat) (v : Value) (l m : List UInt8) (w : World) (v' : Value) (w' : World) : Prop where
  own : MidB w' base v' (l ++ m)
  upd : Upd v.ownBlock.toList w w'
  blk : blkOf v' = blkOf v ∨ blkOf v' = w.heap.size + 1
theorem run_appB (w : World) (base : Nat) (ty : TypeId) (v : Value) (l : List UInt8) (h : MidB w base v l) (x : Value) (m : List UInt8) (hx : Bytes w x m) (hs : l.length + m.length ≤ 1000000000) (hbase : base ≤ w.heap.size) :
    ∃ v' w', (Builtin.append_ #[26, 26] ty #[v, x]).run Tryd.prog w = .ok v' w' ∧ AppedB base v l m w v' w' := by
  obtain ⟨i, hi1, hi2, hi3, hi4⟩ := info_parts info_byte
  have hml : m.length ≤ maxLen := by unfold maxLen; omega
  rcases h with ⟨rfl, rfl⟩ | ⟨g, o, cap, cur, rfl, h1, h2, h3, h4, h5, h6⟩
  · obtain ⟨v', w', hr, r1, r2, r3, r4⟩ := run_app (P := Tryd.prog) w base 26 ty 5 i _ 1 1 Tryd.underlying26 hi1 hi2 hi3 hi4 rfl (by decide) (.slice none 0 0) 0 [] (World.ownsRow_nil _ _ _ _) x m.length (m.map bv) hx (bv_one m) (by simp at hs; omega) (by decide) hbase
    exact ⟨v', w', hr, ⟨MidB.ofOwn (by simpa using r1), Upd.ofGrown r2, r4⟩⟩
  · have hB := (MidB.sl (w := w) (base := base) (v := .slice (some ⟨g, o, none⟩) l.length cap) (l := l) (.inr ⟨g, o, cap, cur, rfl, h1, h2, h3, h4, h5, h6⟩))
    obtain ⟨ao, c, rfl, hmc, hcm, hl, hn0, hA⟩ := hx
    cases ao with
    | none =>
      have hm0 := hn0 rfl
      obtain rfl : m = [] := by
        have h0 : c = 0 := by simpa using hm0
        exact List.eq_nil_of_length_eq_zero (by omega)
      obtain rfl : c = 0 := hn0 rfl
      have hr : (Builtin.append_ #[26, 26] ty #[.slice (some ⟨g, o, none⟩) l.length cap, .slice none 0 0]).run Tryd.prog w = .ok (.slice (some ⟨g, o, none⟩) l.length cap) w := by
        simp [Builtin.append_, run_underlying Tryd.underlying26, sizeOf, typeInfo, hi1, Builtin.lenOf, Builtin.firstCells, storeCells, h3]
      exact ⟨_, w, hr, ⟨by simpa using .inr ⟨g, o, cap, cur, rfl, h1, h2, h3, h4, h5, h6⟩, Upd.refl _ _, .inl rfl⟩⟩
    | some ad =>
      have hnews : ∀ j u, (m.map bv)[j]? = some u → w.cell? (ad.add j) = some u := by
        intro j u hu
        have hj := (List.getElem?_eq_some_iff.1 hu).1
        simp at hj
        obtain ⟨b, o', he, -, hc⟩ := hA (by omega)
        simp only [Option.some.injEq] at he; subst he
        rw [Addr.add_lit]; exact hc j u hu
      by_cases hroom : l.length + m.length ≤ cap
      · have hr := run_app_room (P := Tryd.prog) w 26 ty 5 i Tryd.underlying26 hi1 hi3 g o l.length cap cur h2 ad m.length c (m.map bv) (by simp) hnews (bv_one m) hroom (by omega)
        refine ⟨_, _, hr, ⟨.inr ⟨g, o, cap, _, by simp, h1, setRow_heap w g cur _ 5 _ h2, by simpa using hroom, h4, by simp; omega, ?_⟩, ⟨rfl, rfl, rfl, by simp, fun k _ hk => setRow_other w g k _ (by simpa [Value.ownBlock] using hk)⟩, .inl rfl⟩⟩
        have := mid_room (b := m.map bv) (rest := cur.toList.drop (o + l.length + m.length)) (a := l.map bv) (cur := cur.toList) (o := o) (by simpa using h6) (by simp; omega)
        simpa using this
      · have hold : ∀ j u, (l.map bv)[j]? = some u → w.cell? ((⟨g, o, none⟩ : Addr).add j) = some u := by
          intro j u hj
          rw [← h6] at hj
          have hj' := (List.getElem?_eq_some_iff.1 hj).1
          rw [List.getElem?_take_of_lt (by simp at hj'; omega), List.getElem?_drop] at hj
          rw [Addr.add_lit]
          exact h2.cell (by simpa using hj)
        have hr := run_append_grow (P := Tryd.prog) w 26 ty 5 i _ Tryd.underlying26 hi1 hi2 ⟨g, o, none⟩ l.length cap (l.map bv) (by simp [hi3]) hold ad m.length c (m.map bv) (by simp [hi3]) hnews (by omega) (by omega) (growslice_fits (by omega) (by rw [hi4]; omega))
        refine ⟨_, _, hr, ⟨.inr ⟨w.heap.size, 0, grownCap w (l.length + m.length) cap 5, _, by simp, hbase, Blk.newAt (by simp) _ _, ?_, ?_, ?_, ?_⟩, ((Upd.refl _ w).drew.alloc _), .inr rfl⟩⟩
        · have := grownCap_ge w (l.length + m.length) cap 5; simpa using this
        · exact grownCap_le_maxLen w (l.length + m.length) cap 5 (by unfold maxLen; omega)
        · have := grownCap_ge w (l.length + m.length) cap 5
          simp [size_zeroCells, Value.cells]; omega
        · simp only [List.drop_zero, Array.toList_append, List.length_append, List.map_append]
          rw [List.take_append_of_le_length (by simp)]
          exact List.take_of_length_le (by simp)

theorem wpList_appB (w : World) {ops : Array Oper} {rest : List Oper} {o : Oper} {a : Act} {Q : Exit → Act → World → Prop} (hgd : o.guard = none) (s x : Operand)
    (ho : o.op = .call { callee := .builtin .append, args := #[s, x], argTypes := #[26, 26] }) (base : Nat)
    (v : Value) (l : List UInt8) (hs : a.eval s = v) (h : MidB w base v l) (xv : Value) (m : List UInt8) (hxv : a.eval x = xv) (hx : Bytes w xv m) (hl : l.length + m.length ≤ 1000000000) (hbase : base ≤ w.heap.size)
    (hK : ∀ ao c w', AppedB base v l m w (.slice ao (l ++ m).length c) w' → wpList Tryd.prog ops Q rest (a.put o.dst (.slice ao (l ++ m).length c)) w') : wpList Tryd.prog ops Q (o :: rest) a w := by
  refine wpList_plain hgd fun K hK' => ?_
  obtain ⟨v', w', hr, h2⟩ := run_appB w base o.type v l h xv m hx hl hbase
  unfold Oper.wp execOp
  simp only [ho, resolve, invoke, builtin, Sem.run_bind, Sem.run_pure, Result.andThen_ok, List.map_toArray, List.map_cons, List.map_nil, hs, hxv, hr]
  obtain ⟨ao, c, rfl, -⟩ := h2.own.sl
  exact hK' _ _ (hK ao c w' h2)
end Go.Proofs.YtnfnaedoejgpiaaDoor
