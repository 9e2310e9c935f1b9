/- An engine's words as bytes. What a stream comes to. -/
import Derived.Test.YtnfnaedoejgpiaaDoorStream2
namespace Go.Proofs.YtnfnaedoejgpiaaDoor
open Go.RowKit

def byteOf (x : BitVec 32) (k : Nat) : UInt8 := UInt8.ofNat (x.toNat / 2 ^ (24 - 8 * k))
/-- The bytes, the first m of them told. -/
def toldN (h : List (BitVec 32)) : Nat → List UInt8
  | 0 => List.replicate 32 0
  | m + 1 => (toldN h m).set m (byteOf (h.getD (m / 4) 0) (m % 4))
theorem toldN_len (h : List (BitVec 32)) (m : Nat) : (toldN h m).length = 32 := by
  induction m with
  | zero => rfl
  | succ m ih => simp [toldN, ih]
theorem byte_val (x : BitVec 32) (k : Nat) : Value.int .u8 ((x.toNat : Int) / 2 ^ (24 - 8 * k) % 256) = bv (byteOf x k) := by
  unfold bv byteOf
  congr 1
def bsArr (l : List UInt8) : Array Value := (l.map bv).toArray
def RelO (w : World) (q2 q : Nat) (h : List (BitVec 32)) (i : Value) (wr : World) : Prop := ∃ n : Nat, n ≤ 8 ∧ i = .int .i64 n ∧ Blk wr q (bsArr (toldN h (4 * n))) 36 ∧ Blk wr q2 (bsArr (toldN h 0)) 36 ∧ Upd [] w wr
def RelI (w : World) (q2 q : Nat) (h : List (BitVec 32)) (n : Nat) (i : Value) (wr : World) : Prop := ∃ k : Nat, k ≤ 4 ∧ i = .int .i64 k ∧ Blk wr q (bsArr (toldN h (4 * n + k))) 36 ∧ Blk wr q2 (bsArr (toldN h 0)) 36 ∧ Upd [] w wr
set_option maxRecDepth 4000 in
theorem told_any (w : World) (p : Nat) (t : TypeId) (h : List (BitVec 32)) (rest : List Value) (hb : Blk w p (eng h rest) t) (hh : h.length = 8) :
    Calls Tryd.prog 81 #[.pointer (some ⟨p, 0, none⟩)] w fun e w' => e = .returned (.agg (bsArr (toldN h 32))) ∧ Upd [] w w' := by
  have h8 : (h.map wv).length = 8 := by simpa using hh
  have hsz : (Tryd.prog.info? 131).map (·.size) = some (h.map wv).length := by rw [h8]; kernel_rfl
  obtain ⟨q2, hq2⟩ : ∃ q, w.heap.size = q := ⟨_, rfl⟩
  have z0 : ∀ w : World, Blk (w.alloc (.cells (bsArr (toldN h 0)) 36)) w.heap.size (bsArr (toldN h 0)) 36 := fun w => Blk.new w _ _
  have HB := Lib.hid (And.intro hb (And.intro hh (And.intro h8 (And.intro hsz (And.intro hq2 z0)))))
  clear hb hh h8 hsz z0
  go_enter Tryd.func81, Tryd.ntmps81
  go_wp2_with (with_reducible refine wpList_load_cells (o := ⟨some 10, _, _, _, _, _⟩) rfl 131 (.tmp 9) rfl ⟨p, 0, none⟩ rfl _ (h.map wv) (ws_eng (((HB.out.1.alloc _).alloc _)) HB.out.2.2.1) Tryd.underlying131 rfl HB.out.2.2.2.1 ?_)
  go_loopw [11] (RelO w q2 (q2 + 1) h) (fun i _ => (8 - intOf i).toNat)
  case atStart => exact ⟨0, by omega, rfl, Blk.newAt (by simp; omega) _ _, (Blk.newAt hq2.symm _ _).alloc _, ((Upd.refl [] w).alloc _).alloc _⟩
  case round =>
    obtain ⟨n, hn, rfl, o1, o2, o3⟩ := hrel
    have HO := Lib.hid (And.intro o1 (And.intro o2 o3))
    clear o1 o2 o3
    rcases Nat.lt_or_ge n 8 with h8 | h8
    · have hg := run_idx h n HB.out.2.1 h8
      obtain ⟨x, hx⟩ : ∃ x, h.getD n 0 = x := ⟨_, rfl⟩
      rw [hx] at hg
      have HX := Lib.hid hx
      clear hx
      go_wp2_with fail
      go_loopw [15] (RelI w q2 (q2 + 1) h n) (fun i _ => (4 - intOf i).toNat)
      case atStart => exact ⟨0, by omega, rfl, HO.out.1, HO.out.2.1, HO.out.2.2⟩
      case round =>
        obtain ⟨k, hk, rfl, i1, i2, i3⟩ := hrel
        rcases Nat.lt_or_ge k 4 with h4 | h4
        · have z := i1.frozen (4 * n + k)
          obtain ⟨c, hc⟩ : ∃ c, (bsArr (toldN h (4 * n + k)))[4 * n + k]? = some c := ⟨_, (Array.getElem?_eq_getElem (by simp [bsArr, toldN_len]; omega))⟩
          have cc := i1.cell hc
          have HI := Lib.hid (And.intro i1 (And.intro i2 (And.intro i3 hc)))
          clear i1 i2 i3 hc
          go_wp2_with fail
          go_roundw
          case rel =>
            have hS := HI.out.1.set (4 * n + k) (bv (byteOf x k))
            have e : (bsArr (toldN h (4 * n + k))).setIfInBounds (4 * n + k) (bv (byteOf x k)) = bsArr (toldN h (4 * n + (k + 1))) := by
              have e1 : (4 * n + k) / 4 = n := by omega
              have e2 : (4 * n + k) % 4 = k := by omega
              rw [show 4 * n + (k + 1) = (4 * n + k) + 1 from rfl, toldN, e1, e2, HX.out]
              simp [bsArr, List.map_set]
            rw [e] at hS
            rw [byte_val]
            have hq := hq2
            have hU := upd_set (Upd.refl [q2 + 1] wr) (b := q2 + 1) (i := 4 * n + k) (.inl (by simp)) (bv (byteOf x k))
            exact ⟨k + 1, by omega, by go_num, hS, HI.out.2.1.upd hU (by simp), HI.out.2.2.1.trans hU (by simp; omega)⟩
          case measure => simp [intOf]; omega
        · obtain rfl : k = 4 := by omega
          go_wp2_with fail
          go_roundw
          case rel => exact ⟨n + 1, by omega, by go_num, i1, i2, i3⟩
          case measure => simp [intOf]; omega
    · obtain rfl : n = 8 := by omega
      have hl := toldN_len h 32
      have hlm : ((toldN h 32).map bv).length = 32 := by simpa using hl
      have o1 : Blk wr (q2 + 1) (bsArr (toldN h 32)) 36 := HO.out.1
      have hcells : ∀ j u, ((toldN h 32).map bv)[j]? = some u → wr.cell? (Addr.add ⟨q2 + 1, 0, none⟩ j) = some u := fun j u hj => by
        have := o1.cell (i := j) (v := u) (by simpa [bsArr] using hj)
        rcases j with _ | j <;> simpa [Addr.add] using this
      have hszH : (Tryd.prog.info? 36).map (·.size) = some ((toldN h 32).map bv).length := by rw [hlm]; kernel_rfl
      have hone := List.all_eq_true.2 (bv_one (toldN h 32))
      have hsp : (bsArr (toldN h 0)).size = 32 := rfl
      have HT := Lib.hid (And.intro hcells (And.intro hszH (And.intro hone (And.intro hlm (And.intro HO.out.2 hsp)))))
      clear hl hlm o1 hcells hszH hone hsp
      obtain ⟨T, hT⟩ : ∃ T, toldN h 32 = T := ⟨_, rfl⟩
      rw [hT] at HT
      have HTT := Lib.hid hT
      clear hT
      go_wp2_with (first | (with_reducible refine wpList_load_cells (o := ⟨some 31, _, _, _, _, _⟩) rfl 36 (.tmp 3) rfl ⟨q2 + 1, 0, none⟩ rfl _ (T.map bv) HT.out.1 Tryd.underlying36 rfl HT.out.2.1 ?_) | (with_reducible refine wpList_store_blk (o := ⟨none, .store 36 (.tmp 2) (.tmp 31), _, _, _, _⟩) rfl 36 (.tmp 2) (.tmp 31) rfl (b := q2) 0 rfl HT.out.2.2.2.2.1.1 (.agg (T.map bv).toArray) rfl (T.map bv) rfl ?_ HT.out.2.2.1 HT.out.2.1 ?_))
      · rw [HT.out.2.2.2.1, HT.out.2.2.2.2.2]; decide
      intro w4 b4 u4
      rw [splice_all (by rw [HT.out.2.2.2.1, HT.out.2.2.2.2.2])] at b4
      have G4 := Lib.hid (And.intro b4 (HT.out.2.2.2.2.1.2.trans u4 (by simp; omega)))
      clear b4 u4
      go_wp2
      refine bodyPost_ret (results_blk rfl _ G4.out.1 _ rfl Tryd.underlying36 rfl (by rw [List.size_toArray]; exact HT.out.2.1)) rfl ?_
      rw [HTT.out]
      exact ⟨rfl, G4.out.2⟩
end Go.Proofs.YtnfnaedoejgpiaaDoor
namespace Go.Proofs.YtnfnaedoejgpiaaDoor
open Go.RowKit

/-- How many noughts fill a last block up. -/
def fill0 (n : Nat) : Nat := (119 - n % 64) % 64
def sizeOf8 (s : Nat) : Nat → List UInt8
  | 0 => []
  | k + 1 => sizeOf8 s k ++ [UInt8.ofNat ((8 * s % 18446744073709551616) / 2 ^ (56 - 8 * k))]
def endOf (S : StreamS) : List UInt8 := 128 :: List.replicate (fill0 S.left.length) 0 ++ sizeOf8 S.size 8
/-- A stream's fingerprint. -/
def StreamS.sum (S : StreamS) : List UInt8 := toldN (S.take (endOf S)).h 32
def lenV : Value → Nat | .slice _ n _ => n | _ => 0
def RelE (B : Nat) (w : World) (n : Nat) (v : Value) (wr : World) : Prop := ∃ j, j ≤ fill0 n ∧ MidB wr B v (128 :: List.replicate j 0) ∧ Below B w wr
def RelS (B : Nat) (w : World) (S : StreamS) (z : Nat) (v i : Value) (wr : World) : Prop := ∃ k : Nat, k ≤ 8 ∧ i = .int .i64 (56 - 8 * (k : Int)) ∧ MidB wr B v (128 :: List.replicate z 0 ++ sizeOf8 S.size k) ∧ Below B w wr
theorem size8_len (s k : Nat) : (sizeOf8 s k).length = k := by
  induction k with
  | zero => rfl
  | succ k ih => simp [sizeOf8, ih]
theorem StreamAt.below {B : Nat} {w w' : World} {p : Nat} {S : StreamS} {v : Value} (h : StreamAt w p S v) (hb : Below B w w') (hB : w.heap.size ≤ B) : StreamAt w' p S v := by
  have hu : Upd [] w w' := ⟨hb.os, hb.tape, hb.output, hb.size, fun k hk _ => hb.block k (by omega)⟩
  exact ⟨h.blk.upd hu (by simp), h.left.upd hu (by simp), h.len, h.size⟩
theorem w64 {a : Int} (h0 : 0 ≤ a) (h : a ≤ 1000000) : wrap64 a = a := by unfold wrap64; omega
def SumPost (W : World) (S : StreamS) (e : Ending) (w : World) : Prop := e = .returned (.agg (bsArr S.sum)) ∧ Upd [] W w
set_option maxRecDepth 4000 in
theorem sum_any (w : World) (p : Nat) (S : StreamS) (v : Value) (hS : StreamAt w p S v) (hl : S.left.length < 64) (ht : Table w) :
    Calls Tryd.prog 76 #[.pointer (some ⟨p, 0, none⟩)] w (SumPost w S) := by
  have HC := Lib.hid (fun w' (u : Upd [] w w') => stclone_any w' p S v ⟨hS.blk.upd u (by simp), hS.left.upd u (by simp), hS.len, hS.size⟩ (by omega))
  have HS := Lib.hid (And.intro hS (And.intro hl ht))
  clear hS hl ht
  obtain ⟨q2, hq2⟩ : ∃ q, w.heap.size = q := ⟨_, rfl⟩
  have HQ := Lib.hid hq2
  go_enter Tryd.func76, Tryd.ntmps76
  go_wp2_with fail
  refine (HC.out _ ((Upd.refl [] w).alloc _)).mono ?_
  rintro e w1 ⟨q, v1, rfl, s1, u1, hq1⟩
  have r1 : Blk w1 q2 (bsArr (List.replicate 32 0)) 36 := (Blk.newAt (w := w) hq2.symm _ _).upd u1 (by simp)
  have U1 : Upd [] w w1 := ((Upd.refl [] w).alloc _).trans u1 (by simp)
  obtain ⟨B, hB⟩ : ∃ B, w1.heap.size = B := ⟨_, rfl⟩
  have c9 := s1.blk.cell (i := 9) (eng_rest s1.len 1)
  obtain ⟨lo, lc, rfl, hlc⟩ := id s1.left.sl
  have c8 := s1.blk.cell (i := 8) (eng_rest s1.len 0)
  have H1 := Lib.hid (And.intro s1 (And.intro r1 (And.intro U1 (And.intro hB hq1))))
  clear s1 r1 U1 u1 hlc hB hq1 c8 c9 hq2
  go_wp2_with fail
  go_loopw [4] (RelE B w1 S.left.length) (fun v _ => 65 - lenV v)
  case atStart => exact ⟨0, Nat.zero_le _, .inr ⟨w1.heap.size, 0, 1, #[.int .u8 128], rfl, by have := H1.out.2.2.2.1; omega, Blk.new _ _ _, Nat.le_refl _, by unfold maxLen; omega, Nat.le_refl _, rfl⟩, (Below.refl _ _).alloc (by have := H1.out.2.2.2.1; omega) _⟩
  case round =>
    obtain ⟨j, hj, hm, hb⟩ := hrel
    obtain ⟨eo, ec, rfl, hec⟩ := id hm.sl
    have hlen : (128 :: List.replicate j (0 : UInt8)).length = j + 1 := by simp
    rw [hlen] at hm hec ⊢
    have sr := H1.out.1.below hb (by have := H1.out.2.2.2.1; omega)
    have c8 := sr.blk.cell (i := 8) (eng_rest sr.len 0)
    have c9 := sr.blk.cell (i := 9) (eng_rest sr.len 1)
    have hl64 := HS.out.2.1
    have HM := Lib.hid (And.intro hm (And.intro hb sr))
    clear hm hb sr hec hlen
    rcases Nat.lt_or_ge j (fill0 S.left.length) with hlt | hge
    · have hne : ((wrap64 ((S.left.length : Int) + ((j : Int) + 1))).tmod 64 != 56) = true := by rw [w64 (by omega) (by unfold fill0 at hlt; omega), Int.tmod_eq_emod_of_nonneg (by omega), bne_iff_ne]; unfold fill0 at hlt; omega
      clear hl64
      have hB := H1.out.2.2.2.1
      have hml : (128 :: List.replicate j (0 : UInt8)).length = j + 1 := by simp
      have hM1 : MidB (wr.alloc (.cells #[.int .u8 0] 5)) B (.slice eo (j + 1) ec) (128 :: List.replicate j 0) := HM.out.1.upd ((Upd.refl [] wr).alloc _) (by simp)
      have hB1 : Bytes (wr.alloc (.cells #[.int .u8 0] 5)) (.slice (some ⟨wr.heap.size, 0, none⟩) 1 1) [0] := (Blk.new wr #[.int .u8 0] 5).sl1
      have hBs : B ≤ wr.heap.size := by have := HM.out.2.1.size; omega
      have hj1 : (128 :: List.replicate j (0 : UInt8)).length + [(0 : UInt8)].length ≤ 1000000000 := by simp; unfold fill0 at hlt; omega
      have HA := Lib.hid (And.intro hM1 (And.intro hB1 (And.intro hBs hj1)))
      clear hM1 hB1 hBs hj1 hml hB
      go_wp2_with (at_builtin; refine wpList_appB _ rfl (.tmp 21) (.tmp 22) rfl B (.slice eo (j + 1) ec) (128 :: List.replicate j 0) rfl HA.out.1 (.slice (some ⟨wr.heap.size, 0, none⟩) 1 1) [0] rfl HA.out.2.1 HA.out.2.2.2 (by have := HA.out.2.2.1; simp; omega) ?_)
      intro ao2 c2 w2 h2
      have e0 : (128 :: List.replicate j (0 : UInt8)) ++ [0] = 128 :: List.replicate (j + 1) 0 := by rw [List.cons_append, List.replicate_succ']
      have hown := h2.own
      rw [e0] at hown
      have hbl : Below B wr w2 := ⟨h2.upd.os, h2.upd.tape, h2.upd.output, Nat.le_trans (by simp) h2.upd.size, fun k hk => (h2.upd.block k (by have := HA.out.2.2.1; simp; omega) (by have := HA.out.1.lt.2; rw [own_block]; split <;> simp; omega)).trans (heap_alloc_old wr _ (by have := HA.out.2.2.1; omega))⟩
      have HN := Lib.hid (And.intro hown (HM.out.2.1.trans hbl))
      clear hown hbl h2 e0
      go_wp2
      go_roundw
      case rel => exact ⟨j + 1, by omega, HN.out.1, HN.out.2⟩
      case measure => simp only [lenV]; unfold fill0 at hlt; omega
    · have hz : fill0 S.left.length = j := by omega
      have hne : ((wrap64 ((S.left.length : Int) + ((j : Int) + 1))).tmod 64 != 56) = false := by rw [w64 (by omega) (by unfold fill0 at hz; omega), Int.tmod_eq_emod_of_nonneg (by omega), bne_eq_false_iff_eq]; unfold fill0 at hz; omega
      have pS := (HS.out.1.blk.upd H1.out.2.2.1 (by simp)).upd (S := []) (w' := wr) ⟨HM.out.2.1.os, HM.out.2.1.tape, HM.out.2.1.output, HM.out.2.1.size, fun k hk _ => HM.out.2.1.block k (by have := H1.out.2.2.2.1; omega)⟩ (by simp)
      have p9 := pS.cell (i := 9) (eng_rest HS.out.1.len 1)
      have p0 := eng_cell pS (k := 0) (by have := HS.out.1.len; omega)
      have HZ := Lib.hid hz
      clear hl64 pS hz hj hge
      obtain ⟨sz, hsz⟩ : ∃ sz : Nat, 8 * S.size % 18446744073709551616 = sz := ⟨_, rfl⟩
      have e8 : IntKind.u64.wrap (8 * (S.size : Int)) = (sz : Int) := by rw [← hsz]; simp [IntKind.wrap, IntKind.bits, IntKind.signed]
      have HSZ := Lib.hid hsz
      clear hsz
      go_wp2_with fail
      go_loopw [4, 6] (RelS B w1 S j) (fun _ i _ => (intOf i + 8).toNat)
      case atStart => exact ⟨0, by omega, rfl, by simpa [sizeOf8] using HM.out.1, HM.out.2.1⟩
      case round =>
        obtain ⟨k, hk, rfl, hm, hb⟩ := hrel
        obtain ⟨eo, ec, rfl, hec⟩ := id hm.sl
        have hlen : (128 :: List.replicate j (0 : UInt8) ++ sizeOf8 S.size k).length = j + 1 + k := by simp [size8_len]; omega
        rw [hlen] at hm hec ⊢
        have hB := H1.out.2.2.2.1
        have hz := HZ.out
        rcases Nat.lt_or_ge k 8 with h8 | h8
        · have sh : (0 : Int) ≤ 56 - 8 * (k : Int) := by omega
          have sh2 : 56 - 8 * (k : Int) ≤ 64 := by omega
          obtain ⟨x, hx⟩ : ∃ x, UInt8.ofNat (sz / 2 ^ (56 - 8 * k)) = x := ⟨_, rfl⟩
          have hxv : Value.int .u8 ((sz : Int) / 2 ^ (56 - 8 * k) % 256) = bv x := by rw [← hx]; unfold bv; congr 1
          have hM1 : MidB (wr.alloc (.cells #[.int .u8 ((sz : Int) / 2 ^ (56 - 8 * k) % 256)] 5)) B (.slice eo (j + 1 + k) ec) (128 :: List.replicate j 0 ++ sizeOf8 S.size k) := hm.upd ((Upd.refl [] wr).alloc _) (by simp)
          have hB1 : Bytes (wr.alloc (.cells #[.int .u8 ((sz : Int) / 2 ^ (56 - 8 * k) % 256)] 5)) (.slice (some ⟨wr.heap.size, 0, none⟩) 1 1) [x] := by
            have := (Blk.new wr #[.int .u8 ((sz : Int) / 2 ^ (56 - 8 * k) % 256)] 5).sl1
            rw [hxv] at this ⊢
            exact this
          have hBs : B ≤ wr.heap.size := by have := hb.size; omega
          have hj1 : (128 :: List.replicate j (0 : UInt8) ++ sizeOf8 S.size k).length + [x].length ≤ 1000000000 := by rw [hlen]; simp; unfold fill0 at hz; omega
          have hst : (128 :: List.replicate j (0 : UInt8) ++ sizeOf8 S.size k) ++ [x] = 128 :: List.replicate j 0 ++ sizeOf8 S.size (k + 1) := by
            rw [← hx, ← HSZ.out, sizeOf8, List.append_assoc]
          have HA := Lib.hid (And.intro hM1 (And.intro hB1 (And.intro hBs (And.intro hj1 (And.intro hb (And.intro hB hst))))))
          have HLn := Lib.hid hlen
          clear hM1 hB1 hBs hj1 hm hb hB hz hec hlen hst hx hxv
          generalize 128 :: List.replicate j (0 : UInt8) ++ sizeOf8 S.size k = E at *
          have hE := HLn.out
          go_wp2_with (at_builtin; refine wpList_appB _ rfl (.tmp 34) (.tmp 39) rfl B (.slice eo (j + 1 + k) ec) E rfl HA.out.1 (.slice (some ⟨wr.heap.size, 0, none⟩) 1 1) [x] rfl HA.out.2.1 HA.out.2.2.2.1 (by have := HA.out.2.2.1; simp; omega) ?_)
          intro ao2 c2 w2 h2
          have hown := h2.own
          rw [HA.out.2.2.2.2.2.2] at hown
          have hbl : Below B wr w2 := ⟨h2.upd.os, h2.upd.tape, h2.upd.output, Nat.le_trans (by simp) h2.upd.size, fun k hk => (h2.upd.block k (by have := HA.out.2.2.1; simp; omega) (by have := HA.out.1.lt.2; rw [own_block]; split <;> simp; omega)).trans (heap_alloc_old wr _ (by have := HA.out.2.2.1; omega))⟩
          have HN := Lib.hid (And.intro hown (HA.out.2.2.2.2.1.trans hbl))
          clear hown hbl h2
          go_wp2
          go_roundw
          case rel => exact ⟨k + 1, by omega, by go_num, HN.out.1, HN.out.2⟩
          case measure => simp [intOf]; omega
        · obtain rfl : k = 8 := by omega
          have hE : 128 :: List.replicate j 0 ++ sizeOf8 S.size 8 = endOf S := by unfold endOf; rw [hz]
          rw [hE] at hm hlen
          have sr := H1.out.1.below hb (by omega)
          have hqB : q < B := by have := H1.out.1.blk.lt; omega
          have uB : Upd [] w1 wr := ⟨hb.os, hb.tape, hb.output, hb.size, fun k hk _ => hb.block k (by omega)⟩
          have tr : Table wr := (HS.out.2.2.upd H1.out.2.2.1 (by simp)).upd uB (by simp)
          have rr := H1.out.2.1.upd uB (by simp)
          have hq2q : q2 < q := by have := H1.out.2.2.2.2; have := HQ.out; simp at *; omega
          have ur := H1.out.2.2.1.trans uB (by simp)
          have hsl := hm.sl
          have hT := take_any wr q S (.slice lo S.left.length lc) (.slice eo (j + 1 + 8) ec) (endOf S) sr hsl (blkE_ne (by rcases hm.lt.2 with h | h <;> omega)) tr (by omega) (by rw [hlen]; unfold fill0 at hz; have := HS.out.2.1; omega)
          have HT := Lib.hid (And.intro hT (And.intro rr (And.intro hq2q (And.intro ur hqB))))
          clear hT rr hq2q ur hqB tr uB sr hm hb hec hlen hsl hE hz hB
          go_wp2_with fail
          refine HT.out.1.mono ?_
          rintro e w5 ⟨rfl, ⟨v5, s5⟩, b5⟩
          have H5 := Lib.hid (And.intro s5 b5)
          clear s5 b5
          go_wp2_with fail
          refine (told_any w5 q 137 (S.take (endOf S)).h _ H5.out.1.blk H5.out.1.len).mono ?_
          rintro e w6 ⟨rfl, u6⟩
          have hsum : toldN (S.take (endOf S)).h 32 = S.sum := rfl
          rw [hsum]
          have hlm : (S.sum.map bv).length = 32 := by unfold StreamS.sum; simp [toldN_len]
          have hszH : (Tryd.prog.info? 36).map (·.size) = some (S.sum.map bv).length := by rw [hlm]; kernel_rfl
          have hone := List.all_eq_true.2 (bv_one S.sum)
          have r6 : Blk w6 q2 (bsArr (List.replicate 32 0)) 36 := Blk.upd (S := []) ((HT.out.2.1).below H5.out.2 HT.out.2.2.1) u6 (by simp)
          have hq2q := HT.out.2.2.1
          have ur := HT.out.2.2.2.1
          have hw := HQ.out
          have u5 : Upd [] w w5 := ⟨H5.out.2.os.trans ur.os, H5.out.2.tape.trans ur.tape, H5.out.2.output.trans ur.output, Nat.le_trans ur.size H5.out.2.size, fun k hk _ => (H5.out.2.block k (by omega)).trans (ur.block k hk (by simp))⟩
          clear hq2q ur hw
          have H6 := Lib.hid (And.intro r6 (And.intro hlm (And.intro hszH (And.intro hone (And.intro u5 u6)))))
          clear r6 hlm hszH hone u5 u6 hsum
          obtain ⟨T, hT⟩ : ∃ T, S.sum = T := ⟨_, rfl⟩
          rw [hT] at H6 ⊢
          have HTT := Lib.hid hT
          clear hT
          go_wp2_with (with_reducible refine wpList_store_blk (o := ⟨none, .store 36 (.tmp 2) (.tmp 47), _, _, _, _⟩) rfl 36 (.tmp 2) (.tmp 47) rfl (b := q2) 0 rfl H6.out.1 (.agg (T.map bv).toArray) rfl (T.map bv) rfl ?_ H6.out.2.2.2.1 H6.out.2.2.1 ?_)
          · rw [H6.out.2.1]; simp [bsArr]
          intro w7 b7 u7
          rw [splice_all (by rw [H6.out.2.1]; simp [bsArr])] at b7
          have G7 := Lib.hid (And.intro b7 ((H6.out.2.2.2.2.1.trans H6.out.2.2.2.2.2 (by simp)).trans u7 (by have := HQ.out; simp; omega)))
          clear b7 u7
          go_wp2
          refine bodyPost_ret (results_blk rfl _ G7.out.1 _ rfl Tryd.underlying36 rfl (by rw [List.size_toArray]; exact H6.out.2.2.1)) rfl ?_
          unfold SumPost
          rw [HTT.out]
          exact ⟨rfl, G7.out.2⟩
end Go.Proofs.YtnfnaedoejgpiaaDoor
