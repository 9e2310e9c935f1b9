/- A slice of calls that comes in, as a list of calls. -/
import Derived.Test.YtnfnaedoejgpiaaDoorOpenB
import Derived.Test.YtnfnaedoejgpiaaDoorLawAll
namespace Go.Proofs.YtnfnaedoejgpiaaDoor
open Go.ChangeShapes Go.WideShapes Go.ChangeAt Go.RowKit

theorem Sl.blkE {w : World} {v : Value} {m size : Nat} {news : List Value} (h : Sl w v m size news) : blkE v ≤ w.heap.size := by
  obtain ⟨ao, c, rfl, h1, h2, h3, h4, h5⟩ := h
  rcases Nat.eq_zero_or_pos c with h0 | h0
  · subst h0; cases ao <;> simp [Proofs.YtnfnaedoejgpiaaDoor.blkE]
  · obtain ⟨b, o, rfl, hb, -⟩ := h5 h0
    simp only [Proofs.YtnfnaedoejgpiaaDoor.blkE]
    split <;> omega
theorem list_of {α : Type} {Q : Nat → α → Prop} : ∀ (n : Nat), (∀ i, i < n → ∃ y, Q i y) → ∃ l : List α, l.length = n ∧ ∀ i (h : i < l.length), Q i l[i]
  | 0, _ => ⟨[], rfl, fun i h => by simp at h⟩
  | n + 1, h => by
    obtain ⟨l, hl, hq⟩ := list_of n (fun i hi => h i (by omega))
    obtain ⟨y, hy⟩ := h n (by omega)
    refine ⟨l ++ [y], by simp [hl], fun i hi => ?_⟩
    rcases Nat.lt_or_ge i l.length with h1 | h1
    · rw [List.getElem_append_left h1]; exact hq i h1
    · have : i = l.length := by simp at hi; omega
      subst this
      rw [List.getElem_append_right (Nat.le_refl _)]
      simp only [Nat.sub_self, List.getElem_cons_zero]
      rw [hl]; exact hy
theorem list4 {α : Type} {l : List α} (h : l.length = 4) : ∃ a b c d, l = [a, b, c, d] := by
  match l, h with
  | [a, b, c, d], _ => exact ⟨a, b, c, d, rfl⟩
theorem cellsBool : Tryd.prog.cellsOf 4 = 1 := by kernel_rfl
theorem cellsInt : Tryd.prog.cellsOf 3 = 1 := by kernel_rfl
theorem cellsBytes : Tryd.prog.cellsOf 26 = 1 := by kernel_rfl
theorem cellsBools : Tryd.prog.cellsOf 44 = 1 := by kernel_rfl
theorem cellsOp : Tryd.prog.cellsOf 46 = 4 := by kernel_rfl
section
variable {H : Type} {enc : TypeId × Value → H} {W : World}
/-- What a slice that comes in holds, its spare places too. -/
theorem open_each {t e : TypeId} {k fuel : Nat} {cs : List Value} {x : DataW H × List MemPlace} (ht : Tryd.prog.underlying t = some (.slice e)) (hc : Tryd.prog.cellsOf e = k) (hk : 0 < k) (h : DataW.trod enc Tryd.prog W 0 (fun _ => true) true fuel t cs = some x) :
    ∃ ao n c, cs = [.slice ao n c] ∧ n ≤ c ∧ c ≤ maxLen ∧ (ao = none → c = 0) ∧ (0 < c → ∃ b o, ao = some ⟨b, o, none⟩ ∧ b < W.heap.size ∧ ∀ i, i < n → ∃ cs' m y, cs'.length = k ∧ (∀ j u, cs'[j]? = some u → W.cell? ⟨b, o + i * k + j, none⟩ = some u) ∧ DataW.trod enc Tryd.prog W 0 (fun _ => true) true m e cs' = some y) := by
  subst hc
  rcases DataW.trod_slice ht h with ⟨rfl, rfl⟩ | ⟨a, len, cap, elems, rest, n, rfl, rfl, rfl, hb, hl, hm, hlen, hel, hsp, hns⟩
  · exact ⟨none, 0, 0, rfl, Nat.le_refl _, by simp, fun _ => rfl, fun h => absurd h (by simp)⟩
  · refine ⟨some a, len, cap, rfl, hl, hm, by simp, fun h0 => ?_⟩
    obtain ⟨hrl, hr⟩ := hsp rfl
    have hfirst : ∃ cs', W.cells? 0 (a.add 0) (Tryd.prog.cellsOf e) = some cs' := by
      rcases Nat.eq_zero_or_pos len with h1 | h1
      · have := hr 0 (by omega)
        rw [List.getElem?_eq_getElem (by omega), Option.bind_eq_some_iff] at this
        obtain ⟨cs', h2, _⟩ := this
        rw [h1, Nat.zero_add, Nat.zero_mul] at h2
        exact ⟨cs', h2⟩
      · have := hel 0 h1
        rw [List.getElem?_eq_getElem (by omega), Option.bind_eq_some_iff] at this
        obtain ⟨cs', h2, _⟩ := this
        rw [Nat.zero_mul] at h2
        exact ⟨cs', h2⟩
    obtain ⟨cs0, hcs0⟩ := hfirst
    have h3 := (World.cells?_some hcs0).2.2 0 hk
    have h4 : ∃ v, W.cell? ((a.add 0).add 0) = some v := by
      rw [h3]
      have := (World.cells?_some hcs0).2.1
      exact ⟨_, List.getElem?_eq_getElem (by omega)⟩
    obtain ⟨v, hv⟩ := h4
    obtain ⟨hlt, hspot⟩ := cell_lt hv
    obtain ⟨ab, aoff, asp⟩ := a
    have hs : asp = none := by simpa [Addr.add] using hspot
    subst hs
    have hbl : ab < W.heap.size := by simpa [Addr.add] using hlt
    refine ⟨ab, aoff, rfl, hbl, fun i hi => ?_⟩
    have := hel i hi
    rw [List.getElem?_eq_getElem (by omega), Option.bind_eq_some_iff] at this
    obtain ⟨cs', h5, h6⟩ := this
    refine ⟨cs', _, _, (World.cells?_some h5).2.1, fun j u hj => ?_, h6⟩
    have hj2 := (List.getElem?_eq_some_iff.1 hj).1
    have := (World.cells?_some h5).2.2 j (by have := (World.cells?_some h5).2.1; omega)
    rw [hj] at this
    rw [← this]
    simp [Addr.add_lit, Nat.add_assoc]
theorem open_bools {fuel : Nat} {cs : List Value} {x : DataW H × List MemPlace} (h : DataW.trod enc Tryd.prog W 0 (fun _ => true) true fuel 44 cs = some x) :
    ∃ (v : Value) (pick : List Bool), cs = [v] ∧ Sl W v pick.length 1 (pick.map Value.bool) := by
  obtain ⟨ao, n, c, rfl, h1, h2, h3, h4⟩ := open_each (k := 1) Tryd.underlying44 cellsBool (by decide) h
  rcases Nat.eq_zero_or_pos c with h0 | h0
  · have : n = 0 := by omega
    subst this
    exact ⟨_, [], rfl, ao, c, rfl, Nat.zero_le _, h2, rfl, fun _ => h0, fun h => by omega⟩
  · obtain ⟨b, o, rfl, hb, hc⟩ := h4 h0
    obtain ⟨l, hl, hq⟩ := list_of (Q := fun i (y : Bool) => W.cell? ⟨b, o + i, none⟩ = some (.bool y)) n (fun i hi => by
      obtain ⟨cs', m, y, h5, h6, h7⟩ := hc i hi
      obtain ⟨z, rfl, _⟩ := DataW.trod_bool Tryd.underlying4 h7
      refine ⟨z, ?_⟩
      have := h6 0 _ rfl
      rw [Nat.mul_one, Nat.add_zero] at this
      exact this)
    refine ⟨_, l, rfl, some ⟨b, o, none⟩, c, by rw [hl], by omega, h2, by simp, by simp, fun _ => ⟨b, o, rfl, hb, fun j u hj => ?_⟩⟩
    rw [List.getElem?_map] at hj
    rcases Nat.lt_or_ge j l.length with h | h
    · rw [List.getElem?_eq_getElem h, Option.map_some, Option.some.injEq] at hj
      rw [← hj]; exact hq j h
    · rw [List.getElem?_eq_none h] at hj; cases hj
theorem open_ops {fuel : Nat} {cs : List Value} {x : DataW H × List MemPlace} (h : DataW.trod enc Tryd.prog W 0 (fun _ => true) true fuel 42 cs = some x) :
    ∃ ao m c os, cs = [.slice ao m c] ∧ os.length = m ∧ OpsAt W W.heap.size (.slice ao m c) os := by
  obtain ⟨ao, n, c, rfl, h1, h2, h3, h4⟩ := open_each (k := 4) Tryd.underlying42 cellsOp (by decide) h
  rcases Nat.eq_zero_or_pos c with h0 | h0
  · have : n = 0 := by omega
    subst this
    have hs : Sl W (.slice ao 0 c) 0 4 [] := ⟨ao, c, rfl, Nat.zero_le _, h2, rfl, fun _ => h0, fun h => by omega⟩
    exact ⟨ao, 0, c, [], rfl, rfl, hs, hs.blkE, by simp, by simp⟩
  · obtain ⟨b, o, rfl, hb, hc⟩ := h4 h0
    obtain ⟨l, hl, hq⟩ := list_of (Q := fun i (y : OpS) => (∀ j u, y.cells[j]? = some u → W.cell? ⟨b, o + i * 4 + j, none⟩ = some u) ∧ Bytes W y.v y.b ∧ (-9223372036854775808 ≤ y.n ∧ y.n ≤ 9223372036854775807) ∧ Sl W y.p y.pick.length 1 (y.pick.map Value.bool)) n (fun i hi => by
      obtain ⟨cs', m, y, h5, h6, h7⟩ := hc i hi
      obtain ⟨xs, m', _, _, _, hxl, hf⟩ := DataW.trod_struct Tryd.underlying46 h7
      obtain ⟨u0, u1, u2, u3, rfl⟩ := list4 h5
      have hxl4 : xs.length = 4 := hxl
      obtain ⟨x0, x1, x2, x3, rfl⟩ := list4 hxl4
      have f0 : DataW.trod enc Tryd.prog W 0 (fun _ => true) true m' 5 (([u0, u1, u2, u3].drop 0).take (Tryd.prog.cellsOf 5)) = some x0 := hf 0 _ rfl
      have f1 : DataW.trod enc Tryd.prog W 0 (fun _ => true) true m' 3 (([u0, u1, u2, u3].drop 1).take (Tryd.prog.cellsOf 3)) = some x1 := hf 1 _ rfl
      have f2 : DataW.trod enc Tryd.prog W 0 (fun _ => true) true m' 26 (([u0, u1, u2, u3].drop 2).take (Tryd.prog.cellsOf 26)) = some x2 := hf 2 _ rfl
      have f3 : DataW.trod enc Tryd.prog W 0 (fun _ => true) true m' 44 (([u0, u1, u2, u3].drop 3).take (Tryd.prog.cellsOf 44)) = some x3 := hf 3 _ rfl
      rw [cellsByte] at f0
      rw [cellsInt] at f1
      rw [cellsBytes] at f2
      rw [cellsBools] at f3
      simp only [List.drop_zero, List.drop_succ_cons, List.take_succ_cons, List.take_zero] at f0 f1 f2 f3
      obtain ⟨z0, e0, _, w0⟩ := DataW.trod_int Tryd.underlying5 f0
      obtain ⟨z1, e1, _, w1⟩ := DataW.trod_int Tryd.underlying3 f1
      obtain ⟨bo, bn, bc, r, e2, hbn, hB⟩ := open_bytesT f2
      obtain ⟨pv, pick, e3, hP⟩ := open_bools f3
      simp only [List.cons.injEq, and_true] at e0 e1 e2 e3
      subst e0; subst e1; subst e2; subst e3
      have h256 : 0 ≤ z0 ∧ z0 < 256 := by
        have h1 : IntKind.u8.min = 0 := by decide
        have h2 : IntKind.u8.max = 255 := by decide
        simp [Lit.wf, h1, h2] at w0
        omega
      have h64 : -9223372036854775808 ≤ z1 ∧ z1 ≤ 9223372036854775807 := by
        have h1 : IntKind.i64.min = -9223372036854775808 := by decide
        have h2 : IntKind.i64.max = 9223372036854775807 := by decide
        simp [Lit.wf, h1, h2] at w1
        omega
      have hz : ((UInt8.ofNat z0.toNat).toNat : Int) = z0 := by rw [UInt8.toNat_ofNat']; omega
      subst hbn
      refine ⟨⟨UInt8.ofNat z0.toNat, z1, .slice bo r.length bc, r, u3, pick⟩, fun j u hj => h6 j u ?_, hB, h64, hP⟩
      rw [← hj]
      simp only [OpS.cells, hz])
    have hflat : ∀ (j : Nat) (u : Value), (l.flatMap OpS.cells)[j]? = some u → W.cell? ⟨b, o + j, none⟩ = some u := fun j u hj => by
      have hjl := (List.getElem?_eq_some_iff.1 hj).1
      have hfl : (l.flatMap OpS.cells).length = l.length * 4 := by
        clear hq hl hj hjl
        induction l with
        | nil => rfl
        | cons a l ih => rw [List.flatMap_cons, List.length_append, ih]; simp [OpS.cells]; omega
      have hi : j / 4 < l.length := by omega
      have := flatMap_at (f := OpS.cells) (n := 4) (fun a => rfl) l (j / 4) (j % 4) hi (Nat.mod_lt _ (by decide))
      rw [show j / 4 * 4 + j % 4 = j by omega] at this
      rw [this] at hj
      have hc := (hq (j / 4) hi).1 (j % 4) u hj
      rw [show o + j / 4 * 4 + j % 4 = o + j by omega] at hc
      exact hc
    have hrow : Sl W (.slice (some ⟨b, o, none⟩) n c) l.length 4 (l.flatMap OpS.cells) := by
      refine ⟨some ⟨b, o, none⟩, c, by rw [hl], by omega, h2, ?_, by simp, fun _ => ⟨b, o, rfl, hb, hflat⟩⟩
      clear hq hl hflat
      induction l with
      | nil => rfl
      | cons a l ih => rw [List.flatMap_cons, List.length_append, ih]; simp [OpS.cells]; omega
    refine ⟨some ⟨b, o, none⟩, n, c, l, rfl, hl, hrow, hrow.blkE, fun op hop => ?_, fun op hop => ?_⟩
    · obtain ⟨i, hi, rfl⟩ := List.mem_iff_getElem.1 hop
      have := hq i hi
      exact ⟨this.2.1, this.2.1.blkE, this.2.2.1⟩
    · obtain ⟨i, hi, rfl⟩ := List.mem_iff_getElem.1 hop
      have := hq i hi
      exact ⟨this.2.2.2, this.2.2.2.blkE⟩
end
end Go.Proofs.YtnfnaedoejgpiaaDoor
