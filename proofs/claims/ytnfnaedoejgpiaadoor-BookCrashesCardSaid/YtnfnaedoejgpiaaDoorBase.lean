/- Small laws on memory that the texts of this seat use: blocks known whole, frames by a short list of blocks, slices that read as lists, an append to a slice of the call's own. They speak of no program. -/
import Derived.WalkKit
import Derived.WalkSpells
import Derived.WalkLawsBesides
import Derived.Lib.Hide
import Derived.Laws.BytesArg
import Derived.Lib.AppendZerosOnto
import Derived.Deep.QuietTactic
import Derived.BigQuiet
namespace Go.Proofs.YtnfnaedoejgpiaaDoor
open Go.RowKit

/-- Block b holds the cells c of type t, none frozen. -/
def Blk (w : World) (b : Nat) (c : Array Value) (t : TypeId) : Prop := w.heap[b]? = some (.cells c t (0, 0))

/-- From w to w': new blocks, and writes to the blocks in S alone. -/
structure Upd (S : List Nat) (w w' : World) : Prop where
  os : w'.os = w.os
  tape : w'.tape = w.tape
  output : w'.output = w.output
  size : w.heap.size ≤ w'.heap.size
  block : ∀ k, k < w.heap.size → k ∉ S → w'.heap[k]? = w.heap[k]?

theorem Upd.refl (S : List Nat) (w : World) : Upd S w w := ⟨rfl, rfl, rfl, Nat.le_refl _, fun _ _ _ => rfl⟩
theorem Upd.trans {S T : List Nat} {a b c : World} (h : Upd S a b) (k : Upd T b c) (hT : ∀ x ∈ T, x ∈ S ∨ a.heap.size ≤ x) : Upd S a c :=
  ⟨k.os.trans h.os, k.tape.trans h.tape, k.output.trans h.output, Nat.le_trans h.size k.size, fun i hi hS =>
    (k.block i (Nat.lt_of_lt_of_le hi h.size) (fun hx => by rcases hT i hx with h1 | h1; exact hS h1; omega)).trans (h.block i hi hS)⟩
theorem Upd.nil_trans {S : List Nat} {a b c : World} (h : Upd S a b) (k : Upd [] b c) : Upd S a c := h.trans k (by simp)
theorem Upd.more {S T : List Nat} {a b : World} (h : Upd S a b) (hT : ∀ x ∈ S, x ∈ T ∨ a.heap.size ≤ x) : Upd T a b :=
  ⟨h.os, h.tape, h.output, h.size, fun i hi hS => h.block i hi (fun hx => by rcases hT i hx with h1 | h1; exact hS h1; omega)⟩
theorem Upd.drew {S : List Nat} {a w : World} (h : Upd S a w) : Upd S a w.drew := ⟨h.os, h.tape, h.output, h.size, h.block⟩
theorem Upd.alloc {S : List Nat} {a w : World} (h : Upd S a w) (o : Obj) : Upd S a (w.alloc o) :=
  h.trans (T := []) ⟨rfl, rfl, rfl, by simp, fun k hk _ => Below.heap_alloc _ _ _ hk⟩ (by simp)
theorem Upd.setCell {S : List Nat} {a w : World} (h : Upd S a w) {p : Addr} (hp : p.block ∈ S ∨ a.heap.size ≤ p.block) (u : Value) : Upd S a (w.setCell p u) :=
  h.trans (T := [p.block]) ⟨rfl, rfl, rfl, by simp [World.setCell], fun k _ hk => Below.heap_setCell _ _ _ _ (by simpa using hk)⟩ (by simpa using hp)
theorem Upd.below {w w' : World} (h : Upd [] w w') : Below w.heap.size w w' := ⟨h.os, h.tape, h.output, h.size, fun k hk => h.block k hk (by simp)⟩
theorem Upd.ofGrown {w w' : World} {row : Option Nat} (h : w.grownBy w' row) : Upd row.toList w w' :=
  ⟨h.os, h.tape, h.output, h.size, fun k hk hr => h.block k hk (fun e => hr (by rw [← e]; simp))⟩

theorem Blk.lt {w : World} {b : Nat} {c : Array Value} {t : TypeId} (h : Blk w b c t) : b < w.heap.size := lt_of_block h
theorem Blk.cells {w : World} {b : Nat} {c : Array Value} {t : TypeId} (h : Blk w b c t) (i : Nat) : w.cell? ⟨b, i, none⟩ = c[i]? := cell_of_row w b i c t (0, 0) h
theorem Blk.cell {w : World} {b : Nat} {c : Array Value} {t : TypeId} (h : Blk w b c t) {i : Nat} {v : Value} (hv : c[i]? = some v) : w.cell? ⟨b, i, none⟩ = some v := (h.cells i).trans hv
theorem Blk.frozen {w : World} {b : Nat} {c : Array Value} {t : TypeId} (h : Blk w b c t) (i : Nat) : w.frozen? ⟨b, i, none⟩ = false := frozen_of_row w b i c t h
theorem Blk.upd {S : List Nat} {w w' : World} {b : Nat} {c : Array Value} {t : TypeId} (h : Blk w b c t) (hu : Upd S w w') (hS : b ∉ S) : Blk w' b c t := (hu.block b h.lt hS).trans h
theorem Blk.same {w : World} {b : Nat} {c c' : Array Value} {t t' : TypeId} (h : Blk w b c t) (h' : Blk w b c' t') : c = c' ∧ t = t' := by
  have := h.symm.trans h'; simp at this; exact this
theorem Blk.ne {w : World} {b b' : Nat} {c c' : Array Value} {t t' : TypeId} (h : Blk w b c t) (h' : Blk w b' c' t') (ht : t ≠ t') : b ≠ b' := by
  rintro rfl; exact ht (h.same h').2
theorem Blk.new (w : World) (c : Array Value) (t : TypeId) : Blk (w.alloc (.cells c t)) w.heap.size c t := heap_alloc_new w _
theorem Blk.alloc {w : World} {b : Nat} {c : Array Value} {t : TypeId} (h : Blk w b c t) (o : Obj) : Blk (w.alloc o) b c t := h.upd ((Upd.refl [] w).alloc o) (by simp)
theorem Blk.drew {w : World} {b : Nat} {c : Array Value} {t : TypeId} (h : Blk w b c t) : Blk w.drew b c t := h
theorem Blk.set {w : World} {b : Nat} {c : Array Value} {t : TypeId} (h : Blk w b c t) (i : Nat) (v : Value) : Blk (w.setCell ⟨b, i, none⟩ v) b (c.setIfInBounds i v) t := heap_setCell_same w b i c t v h
theorem Blk.set_ne {w : World} {b b' : Nat} {c : Array Value} {t : TypeId} (h : Blk w b c t) (hne : b ≠ b') (i : Nat) (s : Option Nat) (v : Value) : Blk (w.setCell ⟨b', i, s⟩ v) b c t :=
  (heap_setCell_other w ⟨b', i, s⟩ b v hne).trans h

/-- The number of a slice's block, and one more; 0: nil. -/
def blkOf : Value → Nat | .slice (some a) _ _ => a.block + 1 | _ => 0

/-- The slice value v, of m elements of 'size' cells each, reads as the cells 'news'. -/
def Sl (w : World) (v : Value) (m size : Nat) (news : List Value) : Prop :=
  ∃ ao c, v = .slice ao m c ∧ m ≤ c ∧ c ≤ maxLen ∧ news.length = m * size ∧ (ao = none → c = 0) ∧
    (0 < c → ∃ b o, ao = some ⟨b, o, none⟩ ∧ b < w.heap.size ∧ ∀ j u, news[j]? = some u → w.cell? ⟨b, o + j, none⟩ = some u)

theorem Sl.upd {S : List Nat} {w w' : World} {v : Value} {m size : Nat} {news : List Value} (h : Sl w v m size news) (hu : Upd S w w') (hS : ∀ k ∈ S, blkOf v ≠ k + 1) : Sl w' v m size news := by
  obtain ⟨ao, c, rfl, h1, h2, h3, h4, h5⟩ := h
  refine ⟨ao, c, rfl, h1, h2, h3, h4, fun h0 => ?_⟩
  obtain ⟨b, o, rfl, hb, hc⟩ := h5 h0
  refine ⟨b, o, rfl, Nat.lt_of_lt_of_le hb hu.size, fun j u hj => ?_⟩
  rw [← hc j u hj]
  exact World.cell?_of_block (hu.block b hb (fun hx => hS b hx rfl))
/-- The number of an input slice's block, and one more; 0: nil, or without room (whose address may be any). -/
def blkE : Value → Nat | .slice (some a) _ c => if c = 0 then 0 else a.block + 1 | _ => 0
theorem blkE_or (v : Value) : blkE v = 0 ∨ blkE v = blkOf v := by
  unfold blkE blkOf; split
  · split
    · exact .inl rfl
    · exact .inr rfl
  · exact .inl rfl
theorem blkE_le {v : Value} {n : Nat} (h : blkOf v ≤ n) : blkE v ≤ n := by have := blkE_or v; omega
theorem blkE_ne {v : Value} {k : Nat} (h : blkOf v ≠ k + 1) : blkE v ≠ k + 1 := by have := blkE_or v; omega
theorem blkE_cap {ao : Option Addr} {n c n' : Nat} : blkE (.slice ao n c) = blkE (.slice ao n' c) := by cases ao <;> rfl
theorem Sl.updE {S : List Nat} {w w' : World} {v : Value} {m size : Nat} {news : List Value} (h : Sl w v m size news) (hu : Upd S w w') (hS : ∀ k ∈ S, blkE v ≠ k + 1) : Sl w' v m size news := by
  obtain ⟨ao, c, rfl, h1, h2, h3, h4, h5⟩ := h
  refine ⟨ao, c, rfl, h1, h2, h3, h4, fun h0 => ?_⟩
  obtain ⟨b, o, rfl, hb, hc⟩ := h5 h0
  refine ⟨b, o, rfl, Nat.lt_of_lt_of_le hb hu.size, fun j u hj => ?_⟩
  rw [← hc j u hj]
  exact World.cell?_of_block (hu.block b hb (fun hx => hS b hx (by simp only [blkE]; rw [if_neg (by omega)])))
theorem Sl.drew {w : World} {v : Value} {m size : Nat} {news : List Value} (h : Sl w v m size news) : Sl w.drew v m size news := h
theorem Sl.nil (w : World) (size : Nat) : Sl w (.slice none 0 0) 0 size [] := ⟨none, 0, rfl, Nat.le_refl _, by simp, by simp, fun _ => rfl, fun h => absurd h (by simp)⟩
/-- The address of an element that is there. -/
theorem Sl.addr {w : World} {ao : Option Addr} {m c size : Nat} {news : List Value} (h : Sl w (.slice ao m c) m size news) (h0 : 0 < m) :
    ∃ b o, ao = some ⟨b, o, none⟩ ∧ b < w.heap.size ∧ ∀ j u, news[j]? = some u → w.cell? ⟨b, o + j, none⟩ = some u := by
  obtain ⟨ao', c', hv, h1, -, -, -, h5⟩ := h
  simp only [Value.slice.injEq] at hv; obtain ⟨rfl, -, rfl⟩ := hv
  exact h5 (by omega)

/-- What the call's own slice v is good for, and where it lies: 'World.ownsRow' from block 'base' on. -/
theorem own_sl {w : World} {base e size n : Nat} {v : Value} {xs : List Value} (h : w.ownsRow base e size v n xs) : Sl w v n size xs := by
  obtain ⟨h1, h2⟩ := h
  rcases h2 with ⟨rfl, rfl⟩ | ⟨g, cap, cur, rfl, hb, hh, hn, hm, hs, ht⟩
  · have : xs = [] := List.eq_nil_of_length_eq_zero (by simpa using h1)
    subst this; exact Sl.nil w size
  · refine ⟨_, cap, rfl, hn, hm, h1, (by simp), fun _ => ⟨g, 0, rfl, lt_of_block hh, fun j u hu => ?_⟩⟩
    rw [Nat.zero_add, cell_of_row w g j cur e (0, 0) hh]
    rw [← ht, List.getElem?_take] at hu
    split at hu
    · simpa using hu
    · cases hu
theorem own_upd {S : List Nat} {w w' : World} {base e size n : Nat} {v : Value} {xs : List Value} (h : w.ownsRow base e size v n xs) (hu : Upd S w w') (hS : ∀ k ∈ S, blkOf v ≠ k + 1) : w'.ownsRow base e size v n xs := by
  obtain ⟨h1, h2⟩ := h
  refine ⟨h1, ?_⟩
  rcases h2 with h2 | ⟨g, cap, cur, rfl, hb, hh, r⟩
  · exact .inl h2
  · exact .inr ⟨g, cap, cur, rfl, hb, (hu.block g (lt_of_block hh) (fun hx => hS g hx rfl)).trans hh, r⟩
theorem own_block {v : Value} : v.ownBlock = (if blkOf v = 0 then none else some (blkOf v - 1)) := by
  unfold Value.ownBlock blkOf; split <;> simp_all
theorem own_lt {w : World} {base e size n : Nat} {v : Value} {xs : List Value} (h : w.ownsRow base e size v n xs) : blkOf v ≤ w.heap.size ∧ (blkOf v = 0 ∨ base < blkOf v) := by
  obtain ⟨h1, h2⟩ := h
  rcases h2 with ⟨rfl, rfl⟩ | ⟨g, cap, cur, rfl, hb, hh, r⟩
  · simp [blkOf]
  · have := lt_of_block hh; simp [blkOf]; omega
theorem own_base {w : World} {base base' e size n : Nat} {v : Value} {xs : List Value} (h : w.ownsRow base e size v n xs) (hb : blkOf v = 0 ∨ base' < blkOf v) : w.ownsRow base' e size v n xs := by
  obtain ⟨h1, h2⟩ := h
  refine ⟨h1, ?_⟩
  rcases h2 with h2 | ⟨g, cap, cur, rfl, hb', r⟩
  · exact .inl h2
  · exact .inr ⟨g, cap, cur, rfl, by simp [blkOf] at hb; omega, r⟩
/-- The slice's block, whole: it is of the elements' type. -/
theorem own_ne {w : World} {base e size n b : Nat} {v : Value} {xs : List Value} {c : Array Value} {t : TypeId} (h : w.ownsRow base e size v n xs) (hb : Blk w b c t) (ht : e ≠ t) : blkOf v ≠ b + 1 := by
  rcases h.2 with ⟨rfl, rfl⟩ | ⟨g, cap, cur, rfl, hg, hh, r⟩
  · simp [blkOf]
  · intro he; simp [blkOf] at he; subst he
    exact ht (Blk.same (w := w) hh hb).2

/-- append to a slice of the call's own, from whatever source: where the new value lies. -/
theorem run_app {P : Program} (w : World) (base : Nat) (t ty e : TypeId) (i : TypeInfo) (z : Value) (size bytes : Nat) (ht : P.underlying t = some (.slice e)) (hi : P.info? e = some i) (hz : i.zero = some z)
    (hsize : i.size = size) (hby : i.bytes = bytes) (hzs : z.cells.size = size) (hsz : 0 < size)
    (v : Value) (n : Nat) (xs : List Value) (hown : w.ownsRow base e size v n xs) (x : Value) (m : Nat) (news : List Value) (hx : Sl w x m size news) (h1 : ∀ u ∈ news, u.oneCell' = true)
    (hbytes : (n + m) * bytes ≤ 140737488355328) (hb1 : 1 ≤ bytes) (hbase : base ≤ w.heap.size) :
    ∃ v' w', (Builtin.append_ #[t, t] ty #[v, x]).run P w = .ok v' w' ∧ w'.ownsRow base e size v' (n + m) (xs ++ news) ∧ w.grownBy w' v.ownBlock ∧
      (v' = .slice none 0 0 ↔ v = .slice none 0 0 ∧ m = 0) ∧ (blkOf v' = blkOf v ∨ blkOf v' = w.heap.size + 1) := by
  obtain ⟨ao, c, rfl, hmc, hcm, hl, hn0, hA⟩ := hx
  have hnm : n + m ≤ 140737488355328 := Nat.le_trans (Nat.le_mul_of_pos_right _ hb1) hbytes
  have h63 : n + m ≤ maxLen := by unfold maxLen; omega
  cases ao with
  | none =>
    obtain rfl := hn0 rfl
    obtain rfl : m = 0 := by omega
    have hnews : news = [] := List.eq_nil_of_length_eq_zero (by simpa using hl)
    subst hnews
    have hr := run_append_owned_none (P := P) w base t ty e i size ht hi v n xs hown
    exact ⟨v, w, hr, by simpa using hown, ⟨rfl, rfl, rfl, Nat.le_refl _, fun _ _ _ => rfl⟩, by simp, .inl rfl⟩
  | some ad =>
    have hnews : ∀ j u, news[j]? = some u → w.cell? (ad.add j) = some u := by
      intro j u hu
      have hj := (List.getElem?_eq_some_iff.1 hu).1
      have hm : 0 < m := by rcases Nat.eq_zero_or_pos m with rfl | h; · simp at hl; subst hl; simp at hj
                            · exact h
      obtain ⟨b, o, he, -, hc⟩ := hA (by omega)
      simp only [Option.some.injEq] at he; subst he
      rw [Addr.add_lit]; exact hc j u hu
    obtain ⟨v', w', hr, r1, r2, r3⟩ := run_append_own (P := P) w base t ty e i z size bytes ht hi hz hsize hby hzs hsz v n xs hown ad m c news hl hnews h1 h63 hbytes hbase
    refine ⟨v', w', hr, r1, r2, r3, ?_⟩
    subst hsize; subst hby
    rcases hown.2 with ⟨rfl, rfl⟩ | ⟨g, cap, cur, rfl, hbg, hg, hnc, hcm', hcs, htake⟩
    · by_cases hm : m = 0
      · rw [r3.2 ⟨rfl, hm⟩]; exact .inl rfl
      · have hr2 := run_append_nil (P := P) w t ty e i z ht hi hz ad m c news hl hnews (by omega) (by omega) (by simp only [Nat.zero_add] at hbytes; omega)
        have := hr.symm.trans hr2
        simp only [Result.ok.injEq] at this
        rw [this.1]; exact .inr rfl
    · by_cases hroom : n + m ≤ cap
      · have hr2 := run_append_room (P := P) w t ty e i ht hi g n cap cur hg ad m c news hl hnews h1 hroom (by rw [hl, hcs, ← Nat.add_mul]; exact Nat.mul_le_mul_right _ hroom)
        have := hr.symm.trans hr2
        simp only [Result.ok.injEq] at this
        rw [this.1]; exact .inl rfl
      · have hr2 := run_append_grow (P := P) w t ty e i z ht hi hz ⟨g, 0, none⟩ n cap xs hown.1 (hown.cells (g := g) rfl) ad m c news hl hnews (by omega) (by omega) (growslice_fits (by omega) hbytes)
        have := hr.symm.trans hr2
        simp only [Result.ok.injEq] at this
        rw [this.1]; exact .inr rfl

/-- What an append to a slice v of the call's own leaves: the new value v' and the world w'. -/
structure Apped (base e size : Nat) (v : Value) (n m : Nat) (xs news : List Value) (w : World) (v' : Value) (w' : World) : Prop where
  own : w'.ownsRow base e size v' (n + m) (xs ++ news)
  upd : Upd v.ownBlock.toList w w'
  nil : v' = .slice none 0 0 ↔ v = .slice none 0 0 ∧ m = 0
  blk : blkOf v' = blkOf v ∨ blkOf v' = w.heap.size + 1

theorem wpList_app {P : Program} (w : World) {ops : Array Oper} {rest : List Oper} {o : Oper} {a : Act} {Q : Exit → Act → World → Prop} (hgd : o.guard = none) (s x : Operand) (t : TypeId)
    (ho : o.op = .call { callee := .builtin .append, args := #[s, x], argTypes := #[t, t] })
    (base : Nat) (e : TypeId) (z : Value) (size bytes : Nat) (ht : P.underlying t = some (.slice e)) (hi : (P.info? e).map (fun i => (i.zero, i.size, i.bytes)) = some (some z, size, bytes)) (hzs : z.cells.size = size) (hsz : 0 < size)
    (v : Value) (n : Nat) (xs : List Value) (hs : a.eval s = v) (hown : w.ownsRow base e size v n xs) (xv : Value) (m : Nat) (news : List Value) (hxv : a.eval x = xv) (hx : Sl w xv m size news) (h1 : ∀ u ∈ news, u.oneCell' = true)
    (hbytes : (n + m) * bytes ≤ 140737488355328) (hb1 : 1 ≤ bytes) (hbase : base ≤ w.heap.size)
    (h : ∀ ao c w', Apped base e size v n m xs news w (.slice ao (n + m) c) w' → wpList P ops Q rest (a.put o.dst (.slice ao (n + m) c)) w') : wpList P ops Q (o :: rest) a w := by
  obtain ⟨i, hi1, hi2, hi3, hi4⟩ := info_parts hi
  refine wpList_plain hgd fun K hK => ?_
  obtain ⟨v', w', hr, h2, h3, h4, h5⟩ := run_app (P := P) w base t o.type e i z size bytes ht hi1 hi2 hi3 hi4 hzs hsz v n xs hown xv m news hx h1 hbytes hb1 hbase
  unfold Oper.wp execOp
  simp only [ho, resolve, invoke, builtin, Sem.run_bind, Sem.run_pure, Result.andThen_ok, List.map_toArray, List.map_cons, List.map_nil, hs, hxv, hr]
  obtain ⟨ao, c, rfl, -⟩ := own_sl h2
  exact hK _ _ (h ao c w' ⟨h2, Upd.ofGrown h3, h4, h5⟩)

/-- Blocks known whole are kept by an append to another slice. -/
theorem Apped.keeps {base e size : Nat} {v : Value} {n m : Nat} {xs news : List Value} {w w' : World} {v' : Value} (h : Apped base e size v n m xs news w v' w') {b : Nat} {c : Array Value} {t : TypeId} (hb : Blk w b c t) (hne : blkOf v ≠ b + 1) : Blk w' b c t :=
  hb.upd h.upd (by rw [own_block]; split <;> simp; omega)
theorem Apped.below {base e size : Nat} {v : Value} {n m : Nat} {xs news : List Value} {w w' : World} {v' : Value} (h : Apped base e size v n m xs news w v' w') {B : Nat} (hB : B ≤ w.heap.size) (hne : blkOf v = 0 ∨ B < blkOf v) : Below B w w' :=
  ⟨h.upd.os, h.upd.tape, h.upd.output, h.upd.size, fun k hk => h.upd.block k (by omega) (by rw [own_block]; split <;> simp; omega)⟩
theorem below_set {B : Nat} {a w : World} (h : Below B a w) {b i : Nat} (hp : B ≤ b) (u : Value) : Below B a (w.setCell ⟨b, i, none⟩ u) := h.setCell (p := ⟨b, i, none⟩) hp u
theorem upd_set {S : List Nat} {a w : World} (h : Upd S a w) {b i : Nat} (hp : b ∈ S ∨ a.heap.size ≤ b) (u : Value) : Upd S a (w.setCell ⟨b, i, none⟩ u) := h.setCell (p := ⟨b, i, none⟩) hp u

/-- A byte as a value; a list of bytes. -/
def bv (x : UInt8) : Value := .int .u8 x.toNat
abbrev Bytes (w : World) (v : Value) (l : List UInt8) : Prop := Sl w v l.length 1 (l.map bv)
theorem bv_one (l : List UInt8) : ∀ u ∈ l.map bv, u.oneCell' = true := by
  intro u hu; obtain ⟨_, _, rfl⟩ := List.mem_map.1 hu; rfl

theorem Sl.ofBlk {w : World} {b m size : Nat} {c : Array Value} {t : TypeId} (h : Blk w b c t) (hc : c.size = m * size) (hm : m ≤ maxLen) : Sl w (.slice (some ⟨b, 0, none⟩) m m) m size c.toList := by
  refine ⟨_, m, rfl, Nat.le_refl _, hm, by simpa using hc, by simp, fun _ => ⟨b, 0, rfl, h.lt, fun j u hj => ?_⟩⟩
  rw [Nat.zero_add]; exact h.cell (by simpa using hj)

theorem Blk.sl1 {w : World} {b : Nat} {v : Value} {t : TypeId} (h : Blk w b #[v] t) : Sl w (.slice (some ⟨b, 0, none⟩) 1 1) 1 1 [v] := Sl.ofBlk h rfl (by unfold maxLen; omega)
theorem bv_of {x : UInt8} {n : Int} (h : n = x.toNat) : Value.int .u8 n = bv x := by rw [h]; rfl

theorem Addr.add_block (a : Addr) (n : Nat) : (a.add n).block = a.block := by unfold Addr.add; split <;> rfl
theorem blkOf_add (ao : Option Addr) (k n c n' c' : Nat) : blkOf (.slice (ao.map (fun x => x.add k)) n c) = blkOf (.slice ao n' c') := by
  cases ao <;> simp [blkOf, Addr.add_block]
theorem blkOf_len (ao : Option Addr) (n c n' c' : Nat) : blkOf (.slice ao n c) = blkOf (.slice ao n' c') := by cases ao <;> rfl

theorem Sl.take {w : World} {ao : Option Addr} {n c size m : Nat} {xs : List Value} (h : Sl w (.slice ao n c) n size xs) (hm : m ≤ n) : Sl w (.slice ao m c) m size (xs.take (m * size)) := by
  obtain ⟨ao', c', hv, h1, h2, h3, h4, h5⟩ := h
  simp only [Value.slice.injEq, true_and] at hv; obtain ⟨rfl, rfl⟩ := hv
  refine ⟨ao, c, rfl, by omega, h2, by rw [List.length_take, h3]; exact Nat.min_eq_left (Nat.mul_le_mul_right _ hm), h4, fun h0 => ?_⟩
  obtain ⟨b, o, e, hb, hc⟩ := h5 h0
  refine ⟨b, o, e, hb, fun j u hj => hc j u ?_⟩
  rw [List.getElem?_take] at hj; split at hj
  · exact hj
  · cases hj
theorem Sl.drop {w : World} {ao A : Option Addr} {n c size m : Nat} {xs : List Value} (h : Sl w (.slice ao n c) n size xs) (hm : m ≤ n) (hA : c ≠ m → A = ao.map (fun x => x.add (m * size))) : Sl w (.slice A (n - m) (c - m)) (n - m) size (xs.drop (m * size)) := by
  obtain ⟨ao', c', hv, h1, h2, h3, h4, h5⟩ := h
  simp only [Value.slice.injEq, true_and] at hv; obtain ⟨rfl, rfl⟩ := hv
  refine ⟨A, c - m, rfl, by omega, by omega, by rw [List.length_drop, h3, Nat.sub_mul], fun e => ?_, fun h0 => ?_⟩
  · by_cases hcm : c = m
    · omega
    · rw [hA hcm] at e; have := h4 (by simpa using e); omega
  · obtain ⟨b, o, e, hb, hc⟩ := h5 (by omega)
    refine ⟨b, o + m * size, by rw [hA (by omega), e]; simp [Addr.add_lit], hb, fun j u hj => ?_⟩
    rw [List.getElem?_drop] at hj
    rw [Nat.add_assoc]; exact hc _ u hj
theorem bytes_take {w : World} {ao : Option Addr} {c m : Nat} {l : List UInt8} (h : Bytes w (.slice ao l.length c) l) (hm : m ≤ l.length) : Bytes w (.slice ao m c) (l.take m) := by
  have := Sl.take h hm
  unfold Bytes; rw [List.length_take, Nat.min_eq_left hm, List.map_take]; simpa using this
theorem bytes_drop {w : World} {ao A : Option Addr} {c m : Nat} {l : List UInt8} (h : Bytes w (.slice ao l.length c) l) (hm : m ≤ l.length) (hA : c ≠ m → A = ao.map (fun x => x.add m)) : Bytes w (.slice A (l.length - m) (c - m)) (l.drop m) := by
  have := Sl.drop h hm (A := A) (by simpa using hA)
  unfold Bytes; rw [List.length_drop, List.map_drop]; simpa using this
theorem onlyE {p : Nat} {v : Value} (h : blkE v ≠ p + 1) : ∀ k ∈ [p], blkE v ≠ k + 1 := by intro k hk; rw [List.mem_singleton.1 hk]; exact h
theorem only {p : Nat} {v : Value} (h : blkOf v ≠ p + 1) : ∀ k ∈ [p], blkOf v ≠ k + 1 := by intro k hk; rw [List.mem_singleton.1 hk]; exact h

theorem Sl.at {w : World} {a : Addr} {m c size : Nat} {news : List Value} (h : Sl w (.slice (some a) m c) m size news) : ∀ j u, news[j]? = some u → w.cell? (a.add j) = some u := by
  intro j u hj
  have hl := (List.getElem?_eq_some_iff.1 hj).1
  obtain ⟨ao', c', hv, h1, -, h3, -, h5⟩ := h
  simp only [Value.slice.injEq, true_and] at hv; obtain ⟨rfl, rfl⟩ := hv
  have h0 : 0 < m := by rcases Nat.eq_zero_or_pos m with rfl | h; · simp at h3; subst h3; simp at hl
                        · exact h
  obtain ⟨b, o, e, -, hc⟩ := h5 (by omega)
  simp only [Option.some.injEq] at e; subst e
  rw [Addr.add_lit]; exact hc j u hj

/-- A string of bytes. -/
def bs (l : List UInt8) : ByteArray := ⟨l.toArray⟩
theorem run_str {P : Program} {w : World} {v : Value} {l : List UInt8} (h : Bytes w v l) (src e : TypeId) (hs : P.underlying src = some (.slice e)) (he : P.underlying e = some (.int .u8)) :
    ∀ dst, P.underlying dst = some .string → (convert src dst v).run P w = .ok (.string (bs l)) w := by
  intro dst hd
  obtain ⟨ao, c, rfl, h1, h2, h3, h4, h5⟩ := id h
  cases ao with
  | none =>
    obtain rfl := h4 rfl
    have : l = [] := List.eq_nil_of_length_eq_zero (by omega)
    subst this
    exact run_convert_bytes_nil w src e hs he _ _ dst hd
  | some a =>
    have hl : (loadCells a l.length).run P w = .ok ((l.map fun c => (c.toNat : Int)).map (Value.int .u8)).toArray w := by
      have := run_loadCells_list (P := P) w a (l.map bv) h.at
      have e : (l.map fun c => (c.toNat : Int)).map (Value.int .u8) = l.map bv := by rw [List.map_map]; rfl
      rw [e]; simpa using this
    rw [run_convert_bytes_string w src dst e _ l.length c hs he hd, run_bytesToString w _ l.length c _ hl, foldl_push_bytes]
    simp [bs, ByteArray.empty, ByteArray.emptyWithCapacity, List.map_map, Function.comp_def]
    rfl
theorem bs_list (l : List UInt8) : (bs l).toList = l := ByteArray.toList_mk l
theorem bs_inj {a b : List UInt8} (h : bs a = bs b) : a = b := by simpa [bs] using h

theorem zeroCells_one (z : Value) (k : Nat) : (Builtin.zeroCells #[z] k).toList = List.replicate k z := by
  apply List.ext_getElem?
  intro i
  simp only [Builtin.zeroCells, List.getElem?_replicate]
  by_cases h : i < k <;> simp [h, Nat.mod_one]

/-- append(v, make([]T, k)...), v the call's own and not empty, one cell an element. -/
theorem run_app_zeros {P : Program} (w : World) (base : Nat) (t tn ty e : TypeId) (kn kq : IntKind) (i : TypeInfo) (z : Value) (bytes : Nat) (ht : P.underlying t = some (.slice e)) (htn : P.underlying tn = some (.int kn)) (hi : P.info? e = some i) (hz : i.zero = some z)
    (hsize : i.size = 1) (hby : i.bytes = bytes) (hzs : z.cells = #[z]) (hz1 : z.oneCell' = true)
    (v : Value) (n : Nat) (xs : List Value) (h0 : 0 < n) (hown : w.ownsRow base e 1 v n xs) (k : Nat)
    (hbytes : (n + k) * bytes ≤ 140737488355328) (hb1 : 1 ≤ bytes) (hbase : base ≤ w.heap.size) :
    ∃ v' w', (Builtin.append_ #[t, tn] ty #[v, .int kq k]).run P w = .ok v' w' ∧ Apped base e 1 v n k xs (List.replicate k z) w v' w' := by
  have hnm : n + k ≤ 140737488355328 := Nat.le_trans (Nat.le_mul_of_pos_right _ hb1) hbytes
  have hkb : k * bytes ≤ 140737488355328 := Nat.le_trans (Nat.mul_le_mul_right _ (by omega)) hbytes
  have hx := hown.1
  have hl : (xs ++ List.replicate k z).length = (n + k) * 1 := by simp [hx]
  rcases hown.2 with ⟨rfl, rfl⟩ | ⟨g, cap, cur, rfl, hbg, hg, hnc, hcm, hcs, htake⟩
  · omega
  · subst hby
    have hzl := zeroCells_one z k
    rw [Nat.mul_one] at hx hcs htake
    by_cases hroom : n + k ≤ cap
    · have hr : (Builtin.append_ #[t, tn] ty #[.slice (some ⟨g, 0, none⟩) n cap, .int kq k]).run P w = .ok (.slice (some ⟨g, 0, none⟩) (n + k) cap) (w.setRow g (cur.toList.take n ++ List.replicate k z ++ cur.toList.drop (n + k)).toArray) := by
        have hst := run_storeCells_at P g n e (List.replicate k z) 0 cur w hg (by simp; omega) (by intro u hu; rw [(List.mem_replicate.1 hu).2]; exact hz1)
        have hw : IntKind.i64.wrap (k : Int) = k := by rw [IntKind.wrap_i64]; omega
        have hw0 : IntKind.i64.wrap 0 = 0 := by rw [IntKind.wrap_i64]; omega
        have hneg : ¬ ((k : Int) < 0) := by omega
        have h48i : ¬ (281474976710656 < (k : Int) * (i.bytes : Int)) := by rw [← Int.natCast_mul]; omega
        simp only [Nat.add_zero, List.length_replicate] at hst
        by_cases hk : k = 0
        · subst hk
          simp at hst
          simp [Builtin.append_, run_underlying ht, run_underlying htn, sizeOf, typeInfo, hi, asInt, asIntOf, hw0, hnc, hsize, Addr.add_lit, hst]
        · simp [Builtin.append_, run_underlying ht, run_underlying htn, sizeOf, typeInfo, zeroValue, hi, hz, asInt, asIntOf, hw, hneg, h48i, hroom, hsize, Addr.add_lit, hzs, hzl, hk, hst]
      refine ⟨_, _, hr, ⟨⟨hl, .inr ⟨g, cap, _, rfl, hbg, setRow_heap w g cur _ e _ hg, hroom, hcm, ?_, ?_⟩⟩, ⟨rfl, rfl, rfl, by simp, fun q _ hq => setRow_other w g q _ (fun e => hq (by simp [Value.ownBlock, e]))⟩, by simp, .inl rfl⟩⟩
      · simp; omega
      · rw [htake, ← hl]; exact List.take_left
    · have hfc : (Builtin.firstCells i.size n (.slice (some ⟨g, 0, none⟩) n cap)).run P w.drew = .ok xs.toArray w.drew :=
        run_firstCells_some (P := P) w.drew i.size n ⟨g, 0, none⟩ n cap xs (by rw [hsize]; exact hown.1) (World.ownsRow.cells (w := w.drew) hown (g := g) rfl)
      have hr := Lib.run_append_grow_zeros (P := P) w t tn ty e i z kq kn ht htn hi hz (some ⟨g, 0, none⟩) n cap xs hfc k (by omega) (by omega) (by omega) (by omega) (by omega) (growslice_fits (by omega) hbytes)
      have hge := grownCap_ge w (n + k) cap e
      have hcm' : grownCap w (n + k) cap e ≤ maxLen := grownCap_le_maxLen w (n + k) cap e (by unfold maxLen; omega)
      refine ⟨_, _, hr, ⟨⟨hl, .inr ⟨w.heap.size, _, _, rfl, hbase, heap_alloc_new w.drew _, hge, hcm', ?_, ?_⟩⟩, ⟨rfl, rfl, rfl, by simp, fun q hq _ => Below.heap_alloc w.drew _ q hq⟩, by simp, .inr rfl⟩⟩
      · simp [hzs, size_zeroCells, hx]; omega
      · rw [hzs]; simp only [Array.toList_append, hzl]
        rw [← hl]; exact List.take_left

theorem wpList_app_zeros {P : Program} (w : World) {ops : Array Oper} {rest : List Oper} {o : Oper} {a : Act} {Q : Exit → Act → World → Prop} (hgd : o.guard = none) (s x : Operand) (t tn : TypeId)
    (ho : o.op = .call { callee := .builtin .append, args := #[s, x], argTypes := #[t, tn] })
    (base : Nat) (e : TypeId) (kn kq : IntKind) (z : Value) (bytes : Nat) (ht : P.underlying t = some (.slice e)) (htn : P.underlying tn = some (.int kn)) (hi : (P.info? e).map (fun i => (i.zero, i.size, i.bytes)) = some (some z, 1, bytes)) (hzs : z.cells = #[z]) (hz1 : z.oneCell' = true)
    (v : Value) (n : Nat) (xs : List Value) (hs : a.eval s = v) (h0 : 0 < n) (hown : w.ownsRow base e 1 v n xs) (k : Nat) (q : Int) (hq : q = k) (hxv : a.eval x = .int kq q)
    (hbytes : (n + k) * bytes ≤ 140737488355328) (hb1 : 1 ≤ bytes) (hbase : base ≤ w.heap.size)
    (h : ∀ ao c w', Apped base e 1 v n k xs (List.replicate k z) w (.slice ao (n + k) c) w' → wpList P ops Q rest (a.put o.dst (.slice ao (n + k) c)) w') : wpList P ops Q (o :: rest) a w := by
  obtain ⟨i, hi1, hi2, hi3, hi4⟩ := info_parts hi
  refine wpList_plain hgd fun K hK => ?_
  subst hq
  obtain ⟨v', w', hr, h2⟩ := run_app_zeros (P := P) w base t tn o.type e kn kq i z bytes ht htn hi1 hi2 hi3 hi4 hzs hz1 v n xs h0 hown k hbytes hb1 hbase
  unfold Oper.wp execOp
  simp only [ho, resolve, invoke, builtin, Sem.run_bind, Sem.run_pure, Result.andThen_ok, List.map_toArray, List.map_cons, List.map_nil, hs, hxv, hr]
  obtain ⟨ao, c, rfl, -⟩ := own_sl h2.own
  exact hK _ _ (h ao c w' h2)

theorem Sl.below {w w' : World} {v : Value} {m size : Nat} {news : List Value} (h : Sl w v m size news) (hu : Below w.heap.size w w') : Sl w' v m size news :=
  h.upd (S := []) ⟨hu.os, hu.tape, hu.output, hu.size, fun k hk _ => hu.block k hk⟩ (by simp)
theorem Blk.below {B : Nat} {w w' : World} {b : Nat} {c : Array Value} {t : TypeId} (h : Blk w b c t) (hu : Below B w w') (hb : b < B) : Blk w' b c t := (hu.block b hb).trans h
theorem Blk.newAt {w : World} {b : Nat} (hb : b = w.heap.size) (c : Array Value) (t : TypeId) : Blk (w.alloc (.cells c t)) b c t := by subst hb; exact Blk.new w c t
theorem Upd.ofBelow {w w' : World} (h : Below w.heap.size w w') : Upd [] w w' := ⟨h.os, h.tape, h.output, h.size, fun k hk _ => h.block k hk⟩
theorem Upd.undrew {S : List Nat} {w w' : World} (h : Upd S w.drew w') : Upd S w w' := ⟨h.os, h.tape, h.output, h.size, h.block⟩
/-- Cells of a block as a slice of bytes. -/
theorem Blk.bytes {w : World} {b o n : Nat} {cur : Array Value} {t : TypeId} (h : Blk w b cur t) (l : List UInt8) (hl : l.length = n) (hn : n ≤ maxLen) (hc : ∀ j u, (l.map bv)[j]? = some u → cur[o + j]? = some u) : Bytes w (.slice (some ⟨b, o, none⟩) n n) l := by
  subst hl
  exact ⟨_, _, rfl, Nat.le_refl _, hn, by simp, by simp, fun _ => ⟨b, o, rfl, h.lt, fun j u hj => h.cell (hc j u hj)⟩⟩
/-- A block that was made and then written is new all the same. -/
theorem Upd.fresh {w w' : World} {o : Obj} (h : Upd [w.heap.size] (w.alloc o) w') : Upd [] w w' :=
  (((Upd.refl [] w).alloc o).trans h (by simp))
end Go.Proofs.YtnfnaedoejgpiaaDoor
