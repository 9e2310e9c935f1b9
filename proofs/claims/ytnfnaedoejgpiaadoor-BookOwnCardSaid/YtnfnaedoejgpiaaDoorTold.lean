/- An engine's words as bytes. -/
import Derived.Test.YtnfnaedoejgpiaaDoorStream2
namespace Go.Proofs.YtnfnaedoejgpiaaDoor
open Go.RowKit

def byteOf (x : BitVec 32) (k : Nat) : UInt8 := UInt8.ofNat (x.toNat / 2 ^ (24 - 8 * k))
/-- The bytes, the first m of them told. -/
def toldN (h : List (BitVec 32)) : Nat → List UInt8
  | 0 => List.replicate 32 0
  | m + 1 => (toldN h m).set m (byteOf (h.getD (m / 4) 0) (m % 4))
theorem toldN_len (h : List (BitVec 32)) (m : Nat) : (toldN h m).length = 32 := by
  induction m with
  | zero => rfl
  | succ m ih => simp [toldN, ih]
theorem byte_val (x : BitVec 32) (k : Nat) : Value.int .u8 ((x.toNat : Int) / 2 ^ (24 - 8 * k) % 256) = bv (byteOf x k) := by
  unfold bv byteOf
  congr 1
def bsArr (l : List UInt8) : Array Value := (l.map bv).toArray
def RelO (w : World) (q2 q : Nat) (h : List (BitVec 32)) (i : Value) (wr : World) : Prop := ∃ n : Nat, n ≤ 8 ∧ i = .int .i64 n ∧ Blk wr q (bsArr (toldN h (4 * n))) 36 ∧ Blk wr q2 (bsArr (toldN h 0)) 36 ∧ Upd [] w wr
def RelI (w : World) (q2 q : Nat) (h : List (BitVec 32)) (n : Nat) (i : Value) (wr : World) : Prop := ∃ k : Nat, k ≤ 4 ∧ i = .int .i64 k ∧ Blk wr q (bsArr (toldN h (4 * n + k))) 36 ∧ Blk wr q2 (bsArr (toldN h 0)) 36 ∧ Upd [] w wr
set_option maxRecDepth 4000 in
theorem told_any (w : World) (p : Nat) (t : TypeId) (h : List (BitVec 32)) (rest : List Value) (hb : Blk w p (eng h rest) t) (hh : h.length = 8) :
    Calls Tryd.prog 81 #[.pointer (some ⟨p, 0, none⟩)] w fun e w' => e = .returned (.agg (bsArr (toldN h 32))) ∧ Upd [] w w' := by
  have h8 : (h.map wv).length = 8 := by simpa using hh
  have hsz : (Tryd.prog.info? 131).map (·.size) = some (h.map wv).length := by rw [h8]; kernel_rfl
  obtain ⟨q2, hq2⟩ : ∃ q, w.heap.size = q := ⟨_, rfl⟩
  have z0 : ∀ w : World, Blk (w.alloc (.cells (bsArr (toldN h 0)) 36)) w.heap.size (bsArr (toldN h 0)) 36 := fun w => Blk.new w _ _
  have HB := Lib.hid (And.intro hb (And.intro hh (And.intro h8 (And.intro hsz (And.intro hq2 z0)))))
  clear hb hh h8 hsz z0
  go_enter Tryd.func81, Tryd.ntmps81
  go_wp2_with (with_reducible refine wpList_load_cells (o := ⟨some 10, _, _, _, _, _⟩) rfl 131 (.tmp 9) rfl ⟨p, 0, none⟩ rfl _ (h.map wv) (ws_eng (((HB.out.1.alloc _).alloc _)) HB.out.2.2.1) Tryd.underlying131 rfl HB.out.2.2.2.1 ?_)
  go_loopw [11] (RelO w q2 (q2 + 1) h) (fun i _ => (8 - intOf i).toNat)
  case atStart => exact ⟨0, by omega, rfl, Blk.newAt (by simp; omega) _ _, (Blk.newAt hq2.symm _ _).alloc _, ((Upd.refl [] w).alloc _).alloc _⟩
  case round =>
    obtain ⟨n, hn, rfl, o1, o2, o3⟩ := hrel
    have HO := Lib.hid (And.intro o1 (And.intro o2 o3))
    clear o1 o2 o3
    rcases Nat.lt_or_ge n 8 with h8 | h8
    · have hg := run_idx h n HB.out.2.1 h8
      obtain ⟨x, hx⟩ : ∃ x, h.getD n 0 = x := ⟨_, rfl⟩
      rw [hx] at hg
      have HX := Lib.hid hx
      clear hx
      go_wp2_with fail
      go_loopw [15] (RelI w q2 (q2 + 1) h n) (fun i _ => (4 - intOf i).toNat)
      case atStart => exact ⟨0, by omega, rfl, HO.out.1, HO.out.2.1, HO.out.2.2⟩
      case round =>
        obtain ⟨k, hk, rfl, i1, i2, i3⟩ := hrel
        rcases Nat.lt_or_ge k 4 with h4 | h4
        · have z := i1.frozen (4 * n + k)
          obtain ⟨c, hc⟩ : ∃ c, (bsArr (toldN h (4 * n + k)))[4 * n + k]? = some c := ⟨_, (Array.getElem?_eq_getElem (by simp [bsArr, toldN_len]; omega))⟩
          have cc := i1.cell hc
          have HI := Lib.hid (And.intro i1 (And.intro i2 (And.intro i3 hc)))
          clear i1 i2 i3 hc
          go_wp2_with fail
          go_roundw
          case rel =>
            have hS := HI.out.1.set (4 * n + k) (bv (byteOf x k))
            have e : (bsArr (toldN h (4 * n + k))).setIfInBounds (4 * n + k) (bv (byteOf x k)) = bsArr (toldN h (4 * n + (k + 1))) := by
              have e1 : (4 * n + k) / 4 = n := by omega
              have e2 : (4 * n + k) % 4 = k := by omega
              rw [show 4 * n + (k + 1) = (4 * n + k) + 1 from rfl, toldN, e1, e2, HX.out]
              simp [bsArr, List.map_set]
            rw [e] at hS
            rw [byte_val]
            have hq := hq2
            have hU := upd_set (Upd.refl [q2 + 1] wr) (b := q2 + 1) (i := 4 * n + k) (.inl (by simp)) (bv (byteOf x k))
            exact ⟨k + 1, by omega, by go_num, hS, HI.out.2.1.upd hU (by simp), HI.out.2.2.1.trans hU (by simp; omega)⟩
          case measure => simp [intOf]; omega
        · obtain rfl : k = 4 := by omega
          go_wp2_with fail
          go_roundw
          case rel => exact ⟨n + 1, by omega, by go_num, i1, i2, i3⟩
          case measure => simp [intOf]; omega
    · obtain rfl : n = 8 := by omega
      have hl := toldN_len h 32
      have hlm : ((toldN h 32).map bv).length = 32 := by simpa using hl
      have o1 : Blk wr (q2 + 1) (bsArr (toldN h 32)) 36 := HO.out.1
      have hcells : ∀ j u, ((toldN h 32).map bv)[j]? = some u → wr.cell? (Addr.add ⟨q2 + 1, 0, none⟩ j) = some u := fun j u hj => by
        have := o1.cell (i := j) (v := u) (by simpa [bsArr] using hj)
        rcases j with _ | j <;> simpa [Addr.add] using this
      have hszH : (Tryd.prog.info? 36).map (·.size) = some ((toldN h 32).map bv).length := by rw [hlm]; kernel_rfl
      have hone := List.all_eq_true.2 (bv_one (toldN h 32))
      have hsp : (bsArr (toldN h 0)).size = 32 := rfl
      have HT := Lib.hid (And.intro hcells (And.intro hszH (And.intro hone (And.intro hlm (And.intro HO.out.2 hsp)))))
      clear hl hlm o1 hcells hszH hone hsp
      obtain ⟨T, hT⟩ : ∃ T, toldN h 32 = T := ⟨_, rfl⟩
      rw [hT] at HT
      have HTT := Lib.hid hT
      clear hT
      go_wp2_with (first | (with_reducible refine wpList_load_cells (o := ⟨some 31, _, _, _, _, _⟩) rfl 36 (.tmp 3) rfl ⟨q2 + 1, 0, none⟩ rfl _ (T.map bv) HT.out.1 Tryd.underlying36 rfl HT.out.2.1 ?_) | (with_reducible refine wpList_store_blk (o := ⟨none, .store 36 (.tmp 2) (.tmp 31), _, _, _, _⟩) rfl 36 (.tmp 2) (.tmp 31) rfl (b := q2) 0 rfl HT.out.2.2.2.2.1.1 (.agg (T.map bv).toArray) rfl (T.map bv) rfl ?_ HT.out.2.2.1 HT.out.2.1 ?_))
      · rw [HT.out.2.2.2.1, HT.out.2.2.2.2.2]; decide
      intro w4 b4 u4
      rw [splice_all (by rw [HT.out.2.2.2.1, HT.out.2.2.2.2.2])] at b4
      have G4 := Lib.hid (And.intro b4 (HT.out.2.2.2.2.1.2.trans u4 (by simp; omega)))
      clear b4 u4
      go_wp2
      refine bodyPost_ret (results_blk rfl _ G4.out.1 _ rfl Tryd.underlying36 rfl (by rw [List.size_toArray]; exact HT.out.2.1)) rfl ?_
      rw [HTT.out]
      exact ⟨rfl, G4.out.2⟩
end Go.Proofs.YtnfnaedoejgpiaaDoor
