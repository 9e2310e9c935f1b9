/- The reference's sector of a part of a record. -/
import Derived.Test.YtnfnaedoejgpiaaDoorAwake
import Derived.Laws.CopyOwn
namespace Go.Proofs.YtnfnaedoejgpiaaDoor
open Go.RowKit

/-- copy of a text onto a block of bytes, from a place on. -/
theorem wpList_copy_at {P : Program} {w : World} {ops : Array Oper} {rest : List Oper} {o : Oper} {a : Act} {Q : Exit → Act → World → Prop} (hgd : o.guard = none) (d s : Operand) (dT sT : TypeId)
    (ho : o.op = .call { callee := .builtin .copy, args := #[d, s], argTypes := #[dT, sT] }) (elem : TypeId) (hu : P.underlying dT = some (.slice elem)) (hsz : (P.info? elem).map (·.size) = some 1)
    (g off N c : Nat) (hd : a.eval d = .slice (some ⟨g, off, none⟩) N c) (v : Value) (l : List UInt8) (hs : a.eval s = v) (hb : Bytes w v l) {cur : Array Value} {t : TypeId} (hg : Blk w g cur t) (hfit : l.length ≤ N) (hcur : off + l.length ≤ cur.size)
    (h : ∀ w', Blk w' g (splice cur off (l.map bv)) t → Upd [g] w w' → wpList P ops Q rest (a.put o.dst (goInt l.length)) w') : wpList P ops Q (o :: rest) a w := by
  obtain ⟨ao, c', rfl, h1, h2, h3, h4, h5⟩ := id hb
  by_cases h0 : l.length = 0
  · obtain rfl : l = [] := List.eq_nil_of_length_eq_zero h0
    refine wpList_copy_nothing hgd d s dT sT ho elem hu hsz _ _ _ _ _ _ hd hs (by simp) ?_
    exact h w (by simpa [splice] using hg) ((Upd.refl [] w).more (by simp))
  · obtain ⟨b, of2, rfl, _, hc⟩ := h5 (by omega)
    have hlen : (l.map bv).length = l.length := List.length_map ..
    refine wpList_copy_own hgd d s dT sT ho elem hu hsz g off N c ⟨b, of2, none⟩ l.length c' hd hs cur t hg (l.map bv) (by rw [hlen]; exact (Nat.min_eq_left hfit).symm) (fun j u hj => by rw [Addr.add_lit]; exact hc j u hj) (by rw [hlen]; omega) (bv_one l) ?_
    rw [hlen]
    have e : (cur.toList.take off ++ (l.map bv ++ cur.toList.drop (off + (l.map bv).length))).toArray = splice cur off (l.map bv) := by simp [splice]
    rw [hlen] at e
    rw [e]
    refine h _ (setRow_heap w g cur _ t _ hg) ⟨rfl, rfl, rfl, by simp [World.setRow], fun k _ hk => setRow_other w g k _ (fun e => hk (by simp [e]))⟩
/-- A sector whose numbers are in it up to byte k. -/
def partTo (n g k : Nat) : List UInt8 := (be n 4).take k ++ List.replicate (4 - k) 0 ++ (be g 4).take k ++ List.replicate (4 - k) 0 ++ List.replicate 56 0
theorem partTo_len (n g k : Nat) (hk : k ≤ 4) : (partTo n g k).length = 64 := by
  simp only [partTo, List.length_append, List.length_take, List.length_replicate, be_length]; omega
theorem partTo_step {n g k : Nat} (hk : k < 4) : ((partTo n g k).set k (UInt8.ofNat (n / 256 ^ (3 - k)))).set (4 + k) (UInt8.ofNat (g / 256 ^ (3 - k))) = partTo n g (k + 1) := by
  have h : k = 0 ∨ k = 1 ∨ k = 2 ∨ k = 3 := by omega
  rcases h with rfl | rfl | rfl | rfl <;> simp [partTo, be]
theorem bsArr_set' (l : List UInt8) (i : Nat) (x : UInt8) : (bsArr l).setIfInBounds i (bv x) = bsArr (l.set i x) := by
  apply Array.ext'; simp [bsArr, List.map_set]
theorem partTo_end {n g i c : Nat} {x : List UInt8} (hi : i < 256) (hc : c < 256) (hx : x.length ≤ 52) :
    splice (bsArr ((((partTo n g 4).set 8 (UInt8.ofNat i)).set 9 (UInt8.ofNat c)).set 11 (UInt8.ofNat x.length))) 12 (x.map bv) = bsArr (secOf n g i c x) := by
  have e1 : be i 1 = [UInt8.ofNat i] := by simp [be]
  have e2 : be c 1 = [UInt8.ofNat c] := by simp [be]
  have e3 : be x.length 2 = [0, UInt8.ofNat x.length] := by
    simp only [be, Nat.pow_one, Nat.pow_zero, Nat.div_one]
    rw [Nat.div_eq_of_lt (by omega)]; rfl
  have l1 := be_length n 4
  have l2 := be_length g 4
  unfold secOf secHead partTo splice bsArr
  rw [e1, e2, e3]
  obtain ⟨n0, n1, n2, n3, hn⟩ : ∃ a b c d, be n 4 = [a, b, c, d] := ⟨_, _, _, _, rfl⟩
  obtain ⟨g0, g1, g2, g3, hg⟩ : ∃ a b c d, be g 4 = [a, b, c, d] := ⟨_, _, _, _, rfl⟩
  rw [hn, hg]
  have hL : (((([n0, n1, n2, n3].take 4 ++ List.replicate (4 - 4) 0 ++ [g0, g1, g2, g3].take 4 ++ List.replicate (4 - 4) 0 ++ List.replicate 56 0).set 8 (UInt8.ofNat i)).set 9 (UInt8.ofNat c)).set 11 (UInt8.ofNat x.length)) = [n0, n1, n2, n3, g0, g1, g2, g3, UInt8.ofNat i, UInt8.ofNat c, 0, UInt8.ofNat x.length] ++ List.replicate 52 (0 : UInt8) := rfl
  rw [hL]
  generalize 52 = z at *
  apply Array.ext'
  simp only [List.toList_toArray, List.map_append, List.map_cons, List.map_nil, List.map_replicate, List.length_map, List.cons_append, List.nil_append, List.take_succ_cons, List.take_zero, List.append_assoc, List.length_cons]
  rw [Nat.add_comm 12]
  have e : List.replicate z (bv 0) = List.replicate x.length (bv 0) ++ List.replicate (z - x.length) (bv 0) := by rw [List.replicate_append_replicate]; congr 1; omega
  simp only [List.drop_succ_cons]
  rw [e, List.drop_left' (by simp)]
theorem part_byte (n k : Nat) : Value.int .u8 ((n : Int) / 2 ^ (24 - 8 * k) % 256) = bv (UInt8.ofNat (n / 256 ^ (3 - k))) := by
  refine bv_of ?_
  have e : (2 : Nat) ^ (24 - 8 * k) = 256 ^ (3 - k) := by rw [show (256 : Nat) = 2 ^ 8 from rfl, ← Nat.pow_mul]; congr 1; omega
  rw [UInt8.toNat_ofNat', ← e]; simp
def RelPart (w : World) (q n g : Nat) (i : Value) (wr : World) : Prop := ∃ k : Nat, k ≤ 4 ∧ i = .int .i64 k ∧ Blk wr q (bsArr (partTo n g k)) 5 ∧ Upd [] w wr
def PartPost (W : World) (s : List UInt8) (e : Ending) (w : World) : Prop := ∃ q, e = .returned (.slice (some ⟨q, 0, none⟩) 64 64) ∧ Blk w q (bsArr s) 5 ∧ Upd [] W w
set_option maxRecDepth 4000 in
set_option maxHeartbeats 2000000 in
theorem part_any (w : World) (n g i c : Nat) (ro : Option Addr) (rc m : Nat) (x : List UInt8) (hx : Bytes w (.slice ro m rc) x) (hm : x.length = m) (hn : n < 4294967296) (hg : g < 4294967296) (hi : i < 256) (hc : c < 256) (hl : m ≤ 52) :
    Calls Tryd.prog 44 #[.int .i64 n, .int .i64 g, .int .i64 i, .int .i64 c, .slice ro m rc] w (PartPost w (secOf n g i c x)) := by
  obtain ⟨q, hq⟩ : ∃ q, w.heap.size = q := ⟨_, rfl⟩
  have HS := Lib.hid (And.intro hx (And.intro hm hq))
  have hmk : ∀ w : World, (Instr.makeSlice 26 (.int .i64 64) (.int .i64 64)).run Tryd.prog w = .ok (.slice (some ⟨w.heap.size, 0, none⟩) 64 64) (w.alloc (.cells (nulls 64) 5)) := fun w => run_make_bytes w 64 (by omega)
  clear hx hm hq
  go_enter Tryd.func44, Tryd.ntmps44
  go_upto_region 3 with (fail)
  clear hmk
  have hq := HS.out.2.2
  rw [hq]
  obtain ⟨w2, hw2⟩ : ∃ w2, w.alloc (.cells (nulls 64) 5) = w2 := ⟨_, rfl⟩
  rw [hw2]
  have b2 : Blk w2 q (bsArr (partTo n g 0)) 5 := by rw [← hw2]; exact Blk.newAt hq.symm _ _
  have u2 : Upd [] w w2 := by rw [← hw2]; exact (Upd.refl [] w).alloc _
  have H2 := Lib.hid (And.intro b2 u2)
  clear b2 u2 hw2 hq
  go_loopw [12] (RelPart w q n g) (fun i _ => (4 - intOf i).toNat)
  case atStart => exact ⟨0, by omega, rfl, H2.out.1, H2.out.2⟩
  case round =>
    obtain ⟨k, hk, rfl, hb, hu⟩ := hrel
    rcases Nat.lt_or_ge k 4 with hlt | hge
    · have hln := partTo_len n g k (by omega)
      have hst := partTo_step (n := n) (g := g) hlt
      have z := hb.frozen k
      obtain ⟨v1, hv1⟩ : ∃ v, (bsArr (partTo n g k))[k]? = some v := ⟨_, Array.getElem?_eq_getElem (by simp [bsArr, hln]; omega)⟩
      have c1 := hb.cell hv1
      have HB := Lib.hid (And.intro hb (And.intro hu (And.intro hst hln)))
      clear hb hu hst hln hv1
      go_upto_region 6 with (fail)
      rw [part_byte]
      have hb1 := HB.out.1.set k (bv (UInt8.ofNat (n / 256 ^ (3 - k))))
      rw [bsArr_set'] at hb1
      have hu1 := upd_set (Upd.refl [q] wr) (b := q) (i := k) (.inl (by simp)) (bv (UInt8.ofNat (n / 256 ^ (3 - k))))
      obtain ⟨w1, hw1⟩ : ∃ x, wr.setCell ⟨q, k, none⟩ (bv (UInt8.ofNat (n / 256 ^ (3 - k)))) = x := ⟨_, rfl⟩
      rw [hw1] at hb1 hu1 ⊢
      have z2 := hb1.frozen (4 + k)
      obtain ⟨v2, hv2⟩ : ∃ v, (bsArr ((partTo n g k).set k (UInt8.ofNat (n / 256 ^ (3 - k)))))[4 + k]? = some v := ⟨_, Array.getElem?_eq_getElem (by simp [bsArr, HB.out.2.2.2]; omega)⟩
      have c2 := hb1.cell hv2
      have HB1 := Lib.hid (And.intro hb1 hu1)
      clear hb1 hu1 hv2 hw1 c1 z
      go_wp2
      go_roundw
      case rel =>
        rw [part_byte]
        have hb2 := HB1.out.1.set (4 + k) (bv (UInt8.ofNat (g / 256 ^ (3 - k))))
        rw [bsArr_set', HB.out.2.2.1] at hb2
        have hu2 := upd_set HB1.out.2 (b := q) (i := 4 + k) (.inl (by simp)) (bv (UInt8.ofNat (g / 256 ^ (3 - k))))
        exact ⟨k + 1, by omega, by go_num, hb2, HB.out.2.1.trans hu2 (by have := HS.out.2.2; simp; omega)⟩
      case measure => simp [intOf]; omega
    · obtain rfl : k = 4 := by omega
      have hln := partTo_len n g 4 (by omega)
      have e := partTo_end (n := n) (g := g) hi hc (x := x) (by have := HS.out.2.1; omega)
      obtain ⟨L0, hL0⟩ : ∃ L, partTo n g 4 = L := ⟨_, rfl⟩
      rw [hL0] at hb e hln
      clear hL0
      have v8 : Value.int .u8 (i : Int) = bv (UInt8.ofNat i) := bv_of (by rw [UInt8.toNat_ofNat']; simp; omega)
      have v9 : Value.int .u8 (c : Int) = bv (UInt8.ofNat c) := bv_of (by rw [UInt8.toNat_ofNat']; simp; omega)
      have v11 : Value.int .u8 (m : Int) = bv (UInt8.ofNat m) := bv_of (by rw [UInt8.toNat_ofNat']; simp; omega)
      have hcell : ∀ (W : World) (L : List UInt8), Blk W q (bsArr L) 5 → L.length = 64 → ∀ j, j < 64 → ∃ v, W.cell? ⟨q, j, none⟩ = some v := fun W L h hl j hj => ⟨_, h.cell (Array.getElem?_eq_getElem (by simp [bsArr, hl]; omega))⟩
      have HC := Lib.hid (And.intro hcell (And.intro v8 (And.intro v9 (And.intro v11 (And.intro e hln)))))
      have HB := Lib.hid (And.intro hb hu)
      clear v8 v9 v11 hcell e hln hu
      obtain ⟨x8, k8⟩ := HC.out.1 _ _ HB.out.1 (by simp [HC.out.2.2.2.2.2]) 8 (by omega)
      have f8 := HB.out.1.frozen 8
      clear hb
      go_upto_region 8 with (fail)
      have b8 := HB.out.1.set 8 (bv (UInt8.ofNat i))
      rw [bsArr_set', ← HC.out.2.1] at b8
      have u8 := upd_set HB.out.2 (b := q) (i := 8) (.inr (by have := HS.out.2.2; omega)) (Value.int .u8 (i : Int))
      obtain ⟨y8, hy8⟩ : ∃ y, wr.setCell ⟨q, 8, none⟩ (Value.int .u8 (i : Int)) = y := ⟨_, rfl⟩
      rw [hy8] at b8 u8 ⊢
      have HB1 := Lib.hid (And.intro b8 u8)
      clear b8 u8 hy8 k8 f8
      obtain ⟨x9, k9⟩ := HC.out.1 _ _ HB1.out.1 (by simp [HC.out.2.2.2.2.2]) 9 (by omega)
      have f9 := HB1.out.1.frozen 9
      skip
      go_upto_region 9 with (fail)
      have b9 := HB1.out.1.set 9 (bv (UInt8.ofNat c))
      rw [bsArr_set', ← HC.out.2.2.1] at b9
      have u9 := upd_set HB1.out.2 (b := q) (i := 9) (.inr (by have := HS.out.2.2; omega)) (Value.int .u8 (c : Int))
      obtain ⟨y9, hy9⟩ : ∃ y, y8.setCell ⟨q, 9, none⟩ (Value.int .u8 (c : Int)) = y := ⟨_, rfl⟩
      rw [hy9] at b9 u9 ⊢
      have HB2 := Lib.hid (And.intro b9 u9)
      clear b9 u9 hy9 k9 f9
      obtain ⟨x11, k11⟩ := HC.out.1 _ _ HB2.out.1 (by simp [HC.out.2.2.2.2.2]) 11 (by omega)
      have f11 := HB2.out.1.frozen 11
      skip
      go_upto_region 10 with (fail)
      have b11 := HB2.out.1.set 11 (bv (UInt8.ofNat m))
      rw [bsArr_set', ← HC.out.2.2.2.1] at b11
      have u11 := upd_set HB2.out.2 (b := q) (i := 11) (.inr (by have := HS.out.2.2; omega)) (Value.int .u8 (m : Int))
      obtain ⟨y11, hy11⟩ : ∃ y, y9.setCell ⟨q, 11, none⟩ (Value.int .u8 (m : Int)) = y := ⟨_, rfl⟩
      rw [hy11] at b11 u11 ⊢
      have HB3 := Lib.hid (And.intro b11 u11)
      clear b11 u11 hy11 k11 f11
      have hsp : 12 + x.length ≤ (bsArr (((L0.set 8 (UInt8.ofNat i)).set 9 (UInt8.ofNat c)).set 11 (UInt8.ofNat m))).size := by have := HS.out.2.1; simp [bsArr, HC.out.2.2.2.2.2]; omega
      have hbx : Bytes y11 (.slice ro m rc) x := HS.out.1.upd HB3.out.2 (by simp)
      have HX := Lib.hid (And.intro hsp hbx)
      clear hsp hbx
      go_wp2_with (with_reducible refine wpList_copy_at (o := ⟨some 55, _, _, _, _, _⟩) rfl (.tmp 53) (.tmp 54) 26 26 rfl 5 Tryd.underlying26 (by kernel_rfl) q 12 52 52 rfl (.slice ro m rc) x rfl HX.out.2 HB3.out.1 (by have := HS.out.2.1; omega) HX.out.1 ?_)
      intro w5 b5 u5
      have e := HC.out.2.2.2.2.1
      rw [HS.out.2.1] at e
      rw [e] at b5
      have H5 := Lib.hid (And.intro b5 (HB3.out.2.trans u5 (by have := HS.out.2.2; simp; omega)))
      clear b5 u5 e
      go_wp2
      go_ret
      exact ⟨q, rfl, H5.out.1, H5.out.2⟩
end Go.Proofs.YtnfnaedoejgpiaaDoor
