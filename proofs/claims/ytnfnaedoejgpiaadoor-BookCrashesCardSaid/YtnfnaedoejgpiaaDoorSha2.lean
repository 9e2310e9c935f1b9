/- What a block does to an engine. -/
import Derived.Test.YtnfnaedoejgpiaaDoorSha
namespace Go.Proofs.YtnfnaedoejgpiaaDoor
open Go.RowKit

/-- The words of a block's first n bytes. -/
def loaded (b : List UInt8) : Nat → List (BitVec 32)
  | 0 => List.replicate 16 0
  | n + 1 => (loaded b n).set (n / 4) (((loaded b n).getD (n / 4) 0) <<< 8 ||| BitVec.ofNat 32 (b.getD n 0).toNat)
theorem loaded_len (b : List UInt8) (n : Nat) : (loaded b n).length = 16 := by
  induction n with
  | zero => rfl
  | succ n ih => simp [loaded, ih]
/-- The table. -/
def K256 : List (BitVec 32) := [
  0x428a2f98, 0x71374491, 0xb5c0fbcf, 0xe9b5dba5, 0x3956c25b, 0x59f111f1, 0x923f82a4, 0xab1c5ed5,
  0xd807aa98, 0x12835b01, 0x243185be, 0x550c7dc3, 0x72be5d74, 0x80deb1fe, 0x9bdc06a7, 0xc19bf174,
  0xe49b69c1, 0xefbe4786, 0x0fc19dc6, 0x240ca1cc, 0x2de92c6f, 0x4a7484aa, 0x5cb0a9dc, 0x76f988da,
  0x983e5152, 0xa831c66d, 0xb00327c8, 0xbf597fc7, 0xc6e00bf3, 0xd5a79147, 0x06ca6351, 0x14292967,
  0x27b70a85, 0x2e1b2138, 0x4d2c6dfc, 0x53380d13, 0x650a7354, 0x766a0abb, 0x81c2c92e, 0x92722c85,
  0xa2bfe8a1, 0xa81a664b, 0xc24b8b70, 0xc76c51a3, 0xd192e819, 0xd6990624, 0xf40e3585, 0x106aa070,
  0x19a4c116, 0x1e376c08, 0x2748774c, 0x34b0bcb5, 0x391c0cb3, 0x4ed8aa4a, 0x5b9cca4f, 0x682e6ff3,
  0x748f82ee, 0x78a5636f, 0x84c87814, 0x8cc70208, 0x90befffa, 0xa4506ceb, 0xbef9a3f7, 0xc67178f2]
def Table (w : World) : Prop := 0 < w.heap.size ∧ ∀ i, i < 64 → w.cell? ⟨0, i, none⟩ = some (wv (K256.getD i 0))
theorem cell_upd {S : List Nat} {w w' : World} {b o : Nat} {v : Value} (h : w.cell? ⟨b, o, none⟩ = some v) (hb : b < w.heap.size) (hu : Upd S w w') (hS : b ∉ S) : w'.cell? ⟨b, o, none⟩ = some v := by
  have := hu.block b hb hS
  simp only [World.cell?] at h ⊢
  rw [this]; exact h
theorem Table.upd {S : List Nat} {w w' : World} (h : Table w) (hu : Upd S w w') (hS : 0 ∉ S) : Table w' :=
  ⟨Nat.lt_of_lt_of_le h.1 hu.size, fun i hi => cell_upd (h.2 i hi) h.1 hu hS⟩
/-- An engine's words and the round's. -/
def round (v s : List (BitVec 32)) (i : Nat) : List (BitVec 32) × List (BitVec 32) :=
  let k := (64 - i) % 8
  let a := v.getD k 0; let b := v.getD ((k + 1) % 8) 0; let c := v.getD ((k + 2) % 8) 0
  let x := v.getD ((k + 4) % 8) 0; let y := v.getD ((k + 5) % 8) 0; let z := v.getD ((k + 6) % 8) 0
  let s' := sched s i
  let t := v.getD ((k + 7) % 8) 0 + turned x 6 11 25 + (z ^^^ (x &&& (y ^^^ z))) + K256.getD i 0 + s'.getD (i % 16) 0
  ((v.set ((k + 3) % 8) (v.getD ((k + 3) % 8) 0 + t)).set ((k + 7) % 8) (t + turned a 2 13 22 + (a &&& b ||| c &&& (a ||| b))), s')
def rounds (v s : List (BitVec 32)) : Nat → List (BitVec 32) × List (BitVec 32)
  | 0 => (v, s)
  | n + 1 => round (rounds v s n).1 (rounds v s n).2 n
def addAll (h v : List (BitVec 32)) : Nat → List (BitVec 32)
  | 0 => h
  | n + 1 => (addAll h v n).set n ((addAll h v n).getD n 0 + v.getD n 0)
/-- A block, taken in. -/
def mixed (h : List (BitVec 32)) (b : List UInt8) : List (BitVec 32) := addAll h (rounds h (loaded b 64) 64).1 8
def eng (h : List (BitVec 32)) (rest : List Value) : Array Value := (h.map wv ++ rest).toArray

theorem sched_len {s : List (BitVec 32)} (i : Nat) : (sched s i).length = s.length := by unfold sched; split <;> simp
theorem rounds_len {v s : List (BitVec 32)} (n : Nat) : (rounds v s n).1.length = v.length ∧ (rounds v s n).2.length = s.length := by
  induction n with
  | zero => exact ⟨rfl, rfl⟩
  | succ n ih => exact ⟨by simp [rounds, round, ih.1], by simp [rounds, round, sched_len, ih.2]⟩
theorem w_sum (a b c d e : BitVec 32) : IntKind.u32.wrap (((a.toNat : Int) + (b.toNat : Int) + (c.toNat : Int) + (d.toNat : Int)) % 4294967296 + (e.toNat : Int)) = ((a + b + c + d + e).toNat : Int) := by
  simp only [BitVec.toNat_add, IntKind.wrap, IntKind.bits, IntKind.signed]; simp
theorem w_sum3 (a b c : BitVec 32) : ((a.toNat : Int) + (b.toNat : Int) + (c.toNat : Int)) % 4294967296 = ((a + b + c).toNat : Int) := by
  simp only [BitVec.toNat_add]; omega
theorem addAll_len (h v : List (BitVec 32)) (n : Nat) : (addAll h v n).length = h.length := by
  induction n with
  | zero => rfl
  | succ n ih => simp [addAll, ih]
def Rel3 (w : World) (p : Nat) (t : TypeId) (rest : List Value) (h v : List (BitVec 32)) (i : Value) (wr : World) : Prop := ∃ n : Nat, n ≤ 8 ∧ i = .int .i64 n ∧ Blk wr p (eng (addAll h v n) rest) t ∧ Upd [p] w wr
theorem ws_at {w : World} {r : Nat} {v : List (BitVec 32)} {t : TypeId} (h : Blk w r (ws v) t) : ∀ j u, (v.map wv)[j]? = some u → w.cell? (Addr.add ⟨r, 0, none⟩ j) = some u := by
  intro j u hj
  have := h.cell (i := j) (v := u) (by simpa [ws] using hj)
  rcases j with _ | j <;> simpa [Addr.add] using this
theorem eng_cell {w : World} {p : Nat} {t : TypeId} {h : List (BitVec 32)} {rest : List Value} (hb : Blk w p (eng h rest) t) {k : Nat} (hk : k < h.length) : w.cell? ⟨p, k, none⟩ = some (wv (h.getD k 0)) := by
  refine hb.cell ?_
  simp only [eng, List.getElem?_toArray]
  rw [List.getElem?_append_left (by simpa using hk)]
  simp [hk]
theorem eng_set {h : List (BitVec 32)} {rest : List Value} {k : Nat} {x : BitVec 32} (hk : k < h.length) : (eng h rest).setIfInBounds k (wv x) = eng (h.set k x) rest := by
  simp [eng, List.map_set, List.set_append, hk]
structure Mods (n k k1 k2 k3 k4 k5 k6 k7 : Nat) : Prop where
  w0 : IntKind.i64.wrap (64 - (n : Int)) = 64 - (n : Int)
  t0 : (64 - (n : Int)).tmod 8 = (k : Int)
  e0 : (64 - (n : Int)) % 8 = (k : Int)
  j0 : (k : Int) < 8
  w1 : IntKind.i64.wrap ((k : Int) + 1) = (k : Int) + 1
  t1 : ((k : Int) + 1).tmod 8 = (k1 : Int)
  e1 : ((k : Int) + 1) % 8 = (k1 : Int)
  j1 : (k1 : Int) < 8
  w2 : IntKind.i64.wrap ((k : Int) + 2) = (k : Int) + 2
  t2 : ((k : Int) + 2).tmod 8 = (k2 : Int)
  e2 : ((k : Int) + 2) % 8 = (k2 : Int)
  j2 : (k2 : Int) < 8
  w3 : IntKind.i64.wrap ((k : Int) + 3) = (k : Int) + 3
  t3 : ((k : Int) + 3).tmod 8 = (k3 : Int)
  e3 : ((k : Int) + 3) % 8 = (k3 : Int)
  j3 : (k3 : Int) < 8
  w4 : IntKind.i64.wrap ((k : Int) + 4) = (k : Int) + 4
  t4 : ((k : Int) + 4).tmod 8 = (k4 : Int)
  e4 : ((k : Int) + 4) % 8 = (k4 : Int)
  j4 : (k4 : Int) < 8
  w5 : IntKind.i64.wrap ((k : Int) + 5) = (k : Int) + 5
  t5 : ((k : Int) + 5).tmod 8 = (k5 : Int)
  e5 : ((k : Int) + 5) % 8 = (k5 : Int)
  j5 : (k5 : Int) < 8
  w6 : IntKind.i64.wrap ((k : Int) + 6) = (k : Int) + 6
  t6 : ((k : Int) + 6).tmod 8 = (k6 : Int)
  e6 : ((k : Int) + 6) % 8 = (k6 : Int)
  j6 : (k6 : Int) < 8
  w7 : IntKind.i64.wrap ((k : Int) + 7) = (k : Int) + 7
  t7 : ((k : Int) + 7).tmod 8 = (k7 : Int)
  e7 : ((k : Int) + 7) % 8 = (k7 : Int)
  j7 : (k7 : Int) < 8
  n37 : k3 ≠ k7
theorem tmod_nat {a : Int} {m : Nat} (h0 : 0 ≤ a) (h : a % 8 = (m : Int)) : a.tmod 8 = (m : Int) := by rw [Int.tmod_eq_emod_of_nonneg h0, h]
theorem wrap_small {a : Int} (h0 : 0 ≤ a) (h : a ≤ 1000) : IntKind.i64.wrap a = a := by rw [IntKind.wrap_i64]; omega
theorem mods (n : Nat) (h : n < 64) : Mods n ((64 - n) % 8) (((64 - n) % 8 + 1) % 8) (((64 - n) % 8 + 2) % 8) (((64 - n) % 8 + 3) % 8) (((64 - n) % 8 + 4) % 8) (((64 - n) % 8 + 5) % 8) (((64 - n) % 8 + 6) % 8) (((64 - n) % 8 + 7) % 8) where
  w0 := wrap_small (by omega) (by omega)
  t0 := tmod_nat (by omega) (by omega)
  e0 := by omega
  j0 := by omega
  w1 := wrap_small (by omega) (by omega)
  t1 := tmod_nat (by omega) (by omega)
  e1 := by omega
  j1 := by omega
  w2 := wrap_small (by omega) (by omega)
  t2 := tmod_nat (by omega) (by omega)
  e2 := by omega
  j2 := by omega
  w3 := wrap_small (by omega) (by omega)
  t3 := tmod_nat (by omega) (by omega)
  e3 := by omega
  j3 := by omega
  w4 := wrap_small (by omega) (by omega)
  t4 := tmod_nat (by omega) (by omega)
  e4 := by omega
  j4 := by omega
  w5 := wrap_small (by omega) (by omega)
  t5 := tmod_nat (by omega) (by omega)
  e5 := by omega
  j5 := by omega
  w6 := wrap_small (by omega) (by omega)
  t6 := tmod_nat (by omega) (by omega)
  e6 := by omega
  j6 := by omega
  w7 := wrap_small (by omega) (by omega)
  t7 := tmod_nat (by omega) (by omega)
  e7 := by omega
  j7 := by omega
  n37 := by omega
/-- A round, its places and words by name. -/
def roundTo (v s : List (BitVec 32)) (n k3 k7 : Nat) (a b c d x y z l t : BitVec 32) : List (BitVec 32) × List (BitVec 32) :=
  ((v.set k3 (d + t)).set k7 (t + turned a 2 13 22 + (a &&& b ||| c &&& (a ||| b))), sched s n)
theorem round_named (v s : List (BitVec 32)) (n : Nat) (h : n < 64) (hv : v.length = 8) : ∃ k k1 k2 k3 k4 k5 k6 k7 a b1 c2 d3 x4 y5 z6 l7, Mods n k k1 k2 k3 k4 k5 k6 k7 ∧
    (∀ w r ty, Blk w r (ws v) ty → w.cell? ⟨r, k, none⟩ = some (wv a) ∧ w.cell? ⟨r, k1, none⟩ = some (wv b1) ∧ w.cell? ⟨r, k2, none⟩ = some (wv c2) ∧ w.cell? ⟨r, k3, none⟩ = some (wv d3) ∧ w.cell? ⟨r, k4, none⟩ = some (wv x4) ∧ w.cell? ⟨r, k5, none⟩ = some (wv y5) ∧ w.cell? ⟨r, k6, none⟩ = some (wv z6) ∧ w.cell? ⟨r, k7, none⟩ = some (wv l7)) ∧
    round v s n = roundTo v s n k3 k7 a b1 c2 d3 x4 y5 z6 l7 (l7 + turned x4 6 11 25 + (z6 ^^^ (x4 &&& (y5 ^^^ z6))) + K256.getD n 0 + (sched s n).getD (n % 16) 0) := by
  have m := mods n h
  refine ⟨_, _, _, _, _, _, _, _, _, _, _, _, _, _, _, _, m, fun w r ty hb => ?_, rfl⟩
  have := m.j0; have := m.j1; have := m.j2; have := m.j3; have := m.j4; have := m.j5; have := m.j6; have := m.j7
  exact ⟨ws_cell hb (by omega), ws_cell hb (by omega), ws_cell hb (by omega), ws_cell hb (by omega), ws_cell hb (by omega), ws_cell hb (by omega), ws_cell hb (by omega), ws_cell hb (by omega)⟩
def Rel2 (w : World) (q r : Nat) (h l : List (BitVec 32)) (i : Value) (wr : World) : Prop := ∃ n : Nat, n ≤ 64 ∧ i = .int .i64 n ∧ Blk wr r (ws (rounds h l n).1) 131 ∧ Blk wr q (ws (rounds h l n).2) 140 ∧ Upd [] w wr
theorem w_load (x : BitVec 32) (y : UInt8) : bits .or .u32 ((x.toNat : Int) * 256 % 4294967296) ((y.toNat : Int) % 4294967296) = ((x <<< 8 ||| BitVec.ofNat 32 y.toNat).toNat : Int) := by
  have hy : y.toNat < 256 := y.toNat_lt
  have h1 : (y.toNat : Int) % 4294967296 = ((BitVec.ofNat 32 y.toNat).toNat : Int) := by simp only [BitVec.toNat_ofNat]; omega
  have h2 := n_shl x 8
  rw [show (2 : Int) ^ 8 = 256 from rfl] at h2
  rw [h1, h2, w_or]
theorem wv_one (l : List (BitVec 32)) : ∀ u ∈ l.map wv, u.oneCell' = true := by
  intro u hu; obtain ⟨_, _, rfl⟩ := List.mem_map.1 hu; rfl
theorem ws_eng {w : World} {p : Nat} {t : TypeId} {h : List (BitVec 32)} {rest : List Value} (hb : Blk w p (eng h rest) t) (h8 : (h.map wv).length = 8) : ∀ j u, (h.map wv)[j]? = some u → w.cell? (Addr.add ⟨p, 0, none⟩ j) = some u := by
  intro j u hj
  have hj8 : j < 8 := by rw [← h8]; exact (List.getElem?_eq_some_iff.1 hj).1
  have : (eng h rest)[j]? = some u := by simp only [eng, List.getElem?_toArray]; rw [List.getElem?_append_left (by omega)]; exact hj
  have := hb.cell this
  rcases j with _ | j <;> simpa [Addr.add] using this
def Rel1 (w : World) (q : Nat) (b : List UInt8) (i : Value) (wr : World) : Prop := ∃ n : Nat, n ≤ 64 ∧ i = .int .i64 n ∧ Blk wr q (ws (loaded b n)) 140 ∧ Upd [] w wr

end Go.Proofs.YtnfnaedoejgpiaaDoor
