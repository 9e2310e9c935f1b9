/- What book's part.sector and read do: a sector of a part, and a part of a sector, as plain functions on lists of bytes. -/
import Derived.Test.YtnfnaedoejgpiaaDoorCodec
import Derived.Test.YtnfnaedoejgpiaaDoorHeld
namespace Go.Proofs.YtnfnaedoejgpiaaDoor
open Go.RowKit

/-- The cells of a part's value: number, generation, place, count, bytes. -/
def partCells (n g i c : Int) (v : Value) : Array Value := #[.int .i64 n, .int .i64 g, .int .i64 i, .int .i64 c, v]
def outPart (n g i c : Nat) (x : List UInt8) : OutS := (((((((OutS.mk false []).small n 4).small g 4).small i 1).small c 1).small x.length 2).put x)
/-- A part's sector. -/
def secHead (n g i c : Nat) (x : List UInt8) : List UInt8 := be n 4 ++ be g 4 ++ be i 1 ++ be c 1 ++ be x.length 2 ++ x
def secOf (n g i c : Nat) (x : List UInt8) : List UInt8 := secHead n g i c x ++ List.replicate (52 - x.length) 0
theorem be_length (n k : Nat) : (be n k).length = k := by induction k with
  | zero => rfl
  | succ k ih => simp [be, ih]
theorem secHead_length (n g i c : Nat) (x : List UInt8) : (secHead n g i c x).length = 12 + x.length := by simp only [secHead, List.length_append, be_length]
theorem wide_good (s : OutS) (n k : Nat) (h : s.bad = false) (hl : s.b.length + k ≤ 4096) : s.wide n k = ⟨false, s.b ++ be n k⟩ := by
  induction k generalizing s with
  | zero => obtain ⟨bad, b⟩ := s; simp at h; subst h; simp [OutS.wide, be]
  | succ k ih =>
    have e : s.put [UInt8.ofNat (n / 256 ^ k)] = ⟨false, s.b ++ [UInt8.ofNat (n / 256 ^ k)]⟩ := by unfold OutS.put; rw [if_pos ⟨h, by simp; omega⟩]
    rw [OutS.wide, e, ih _ rfl (by simp; omega)]; simp [be]
theorem small_good (s : OutS) (n k : Nat) (h : s.bad = false) (hn : n < 256 ^ k) (hl : s.b.length + k ≤ 4096) : s.small n k = ⟨false, s.b ++ be n k⟩ := by
  unfold OutS.small
  have e : ((256 ^ k : Nat) : Int) = 256 ^ k := by rw [Int.natCast_pow]; rfl
  rw [if_pos ⟨by omega, by rw [← e]; exact Int.ofNat_lt.2 hn⟩]
  exact wide_good s n k h hl
theorem outPart_good (n g i c : Nat) (x : List UInt8) (hn : n < 4294967296) (hg : g < 4294967296) (hi : i < 256) (hc : c < 256) (hx : x.length ≤ 52) :
    outPart n g i c x = ⟨false, secHead n g i c x⟩ := by
  unfold outPart secHead
  rw [small_good ⟨false, []⟩ n 4 rfl (by omega) (by simp)]
  rw [small_good _ g 4 rfl (by omega) (by simp [be_length])]
  rw [small_good _ i 1 rfl (by omega) (by simp [be_length])]
  rw [small_good _ c 1 rfl (by omega) (by simp [be_length])]
  rw [small_good _ x.length 2 rfl (by omega) (by simp [be_length])]
  unfold OutS.put; rw [if_pos ⟨rfl, by simp [be_length]; omega⟩]; simp

/-- What holds between sector's calls: the part's box, its bytes, the Out behind it. -/
structure SecInv (W : World) (cs : Array Value) (v : Value) (x : List UInt8) (s : OutS) (w : World) : Prop where
  out : OutAt w (W.heap.size + 1) s
  box : Blk w W.heap.size cs 85
  bytes : Bytes w v x
  below : Below W.heap.size W w
theorem SecInv.start {W : World} {cs : Array Value} {v : Value} {x : List UInt8} (h : Bytes W v x) : SecInv W cs v x ⟨false, []⟩ ((W.alloc (.cells cs 85)).alloc (.cells #[.bool false, .slice none 0 0] 105)) :=
  have hb : Below W.heap.size W ((W.alloc (.cells cs 85)).alloc (.cells #[.bool false, .slice none 0 0] 105)) := ((Below.refl _ _).alloc (Nat.le_refl _) _).alloc (by simp) _
  ⟨⟨_, Blk.newAt (by simp) _ _, World.ownsRow_nil _ _ _ _, by simp⟩, (Blk.new W _ _).alloc _, h.below hb, hb⟩
theorem SecInv.step {W w w' : World} {cs : Array Value} {v : Value} {x : List UInt8} {s s' : OutS} (h : SecInv W cs v x s w) (h' : OutAt w' (W.heap.size + 1) s' ∧ Below (W.heap.size + 1) w w') (hW : Bytes W v x) : SecInv W cs v x s' w' :=
  have hb := h.below.trans (h'.2.mono (by omega))
  ⟨h'.1, h.box.below h'.2 (by omega), hW.below hb, hb⟩

set_option maxHeartbeats 1000000 in
theorem sector_any (w : World) (n g i c : Nat) (v : Value) (x : List UInt8) (h : Bytes w v x) (hn : n < 4294967296) (hg : g < 4294967296) (hi : i < 256) (hc : c < 256) (hx : x.length ≤ 52) :
    Calls Tryd.prog 41 #[.agg (partCells n g i c v)] w (ClonePost w (secOf n g i c x)) := by
  obtain ⟨ao, cv, rfl, -⟩ := id h
  have I0 := Lib.hid (SecInv.start (cs := partCells n g i c (.slice ao x.length cv)) h)
  have H := Lib.hid h; clear h
  unfold partCells at *
  unfold secOf
  go_enter Tryd.func41, Tryd.ntmps41
  go_wp2_with fail
  refine (oU32_any _ _ _ n I0.out.out (by omega)).mono ?_
  rintro e w1 ⟨rfl, h1⟩
  have I1 := I0.out.step h1 H.out
  have c1 := I1.box.cell (i := 1) rfl
  have J1 := Lib.hid I1; clear h1 I1 I0
  go_wp2_with fail
  refine (oU32_any _ _ _ g J1.out.out (by omega)).mono ?_
  rintro e w2 ⟨rfl, h1⟩
  have I1 := J1.out.step h1 H.out
  clear c1
  have c1 := I1.box.cell (i := 2) rfl
  have J2 := Lib.hid I1; clear h1 I1 J1
  go_wp2_with fail
  refine (oU8_any _ _ _ i J2.out.out (by omega)).mono ?_
  rintro e w3 ⟨rfl, h1⟩
  have I1 := J2.out.step h1 H.out
  clear c1
  have c1 := I1.box.cell (i := 3) rfl
  have J3 := Lib.hid I1; clear h1 I1 J2
  go_wp2_with fail
  refine (oU8_any _ _ _ c J3.out.out (by omega)).mono ?_
  rintro e w4 ⟨rfl, h1⟩
  have I1 := J3.out.step h1 H.out
  clear c1
  have c1 := I1.box.cell (i := 4) rfl
  have J4 := Lib.hid I1; clear h1 I1 J3
  go_wp2_with fail
  refine (oU16_any _ _ _ x.length J4.out.out (by omega)).mono ?_
  rintro e w5 ⟨rfl, h1⟩
  have I1 := J4.out.step h1 H.out
  clear c1
  have c1 := I1.box.cell (i := 4) rfl
  have J5 := Lib.hid I1; clear h1 I1 J4
  go_wp2_with fail
  refine (oRaw_any _ _ _ _ x J5.out.out J5.out.bytes (by omega)).mono ?_
  rintro e w6 ⟨rfl, h1⟩
  have J6 := Lib.hid (J5.out.step h1 H.out)
  clear h1 J5 c1
  go_wp2_with fail
  have o6 : OutAt w6 (w.heap.size + 1) ⟨false, secHead n g i c x⟩ := by rw [← outPart_good n g i c x hn hg hi hc hx]; exact J6.out.out
  have b6 := J6.out.below
  have hl := secHead_length n g i c x
  clear J6
  generalize secHead n g i c x = B at *
  have E := end_good _ _ _ o6
  have HL := Lib.hid hl
  have hl1 : B.length ≤ 64 := by omega
  have hl2 : 12 ≤ B.length := by omega
  refine E.mono ?_
  rintro e w7 ⟨ao7, c7, rfl, h7⟩
  have H7 := Lib.hid (And.intro h7 (b6.trans (h7.2.below.mono b6.size)))
  have B6 := Lib.hid b6
  clear h7 hl o6 b6 E
  go_wp2_with (at_builtin; refine wpList_app_zeros _ rfl (.tmp 33) (.tmp 36) 26 3 rfl w.heap.size 5 .i64 .i64 (.int .u8 0) 1 Tryd.underlying26 Tryd.underlying3 info_byte rfl rfl (.slice ao7 B.length c7) B.length (B.map bv) rfl (by omega) ?_ (52 - x.length) (64 - (B.length : Int)) ?_ rfl ?_ (by decide) ?_ ?_; rotate_right)
  · intro ao8 c8 w8 O
    have hb8 := H7.out.2.trans (O.below H7.out.2.size (by have := H7.out.1.blk; have := B6.out.size; omega))
    have H8 := Lib.hid (And.intro O.own hb8)
    clear O hb8
    go_wp2
    go_ret
    refine ⟨ao8, c8, by simp, ?_, Upd.ofBelow H8.out.2⟩
    have := H8.out.1
    simpa [bv] using this
  · exact own_base H7.out.1.1 (by have := H7.out.1.blk; have := B6.out.size; omega)
  · have := HL.out; omega
  · omega
  · exact H7.out.2.size

/-- A part. -/
structure PartS where
  n : Nat
  g : Nat
  i : Nat
  c : Nat
  x : List UInt8
/-- The five numbers that a sector begins with, and the rest. -/
def labels (b : List UInt8) : Nat × Nat × Nat × Nat × Nat × InS :=
  let r1 := (InS.mk false b).num 4
  let r2 := r1.2.num 4
  let r3 := r2.2.num 1
  let r4 := r3.2.num 1
  let r5 := r4.2.num 2
  (r1.1, r2.1, r3.1, r4.1, r5.1, r5.2)
/-- read: the part of a sector, and whether the sector is just that part's. -/
def readS (b : List UInt8) : PartS × Bool :=
  match labels b with
  | (n, g, i, c, k, s) => if 52 < k then (⟨0, 0, 0, 0, []⟩, false) else (⟨n, g, i, c, (s.raw k).1⟩, secOf n g i c (s.raw k).1 == b)
def ReadPartPost (W : World) (r : PartS × Bool) (e : Ending) (w : World) : Prop :=
  ∃ ao c, e = .returned (.tuple #[.agg (partCells r.1.n r.1.g r.1.i r.1.c (.slice ao r.1.x.length c)), .bool r.2]) ∧ w.ownsRow W.heap.size 5 1 (.slice ao r.1.x.length c) r.1.x.length (r.1.x.map bv) ∧ Upd [] W w

/-- What holds between read's calls: the result's block, the In at p. -/
structure RdInv (W : World) (p : Nat) (v : Value) (b : List UInt8) (s : InS) (w : World) : Prop where
  inn : InAt w p s
  hp : W.heap.size + 1 ≤ p
  hps : p < w.heap.size
  res : Blk w W.heap.size (partCells 0 0 0 0 (.slice none 0 0)) 85
  bytes : Bytes w v b
  below : Below W.heap.size W w
  len : s.b.length ≤ 140737488355328
theorem upd_below {S : List Nat} {B : Nat} {w w' : World} (h : Upd S w w') (hB : B ≤ w.heap.size) (hS : ∀ k ∈ S, B ≤ k) : Below B w w' :=
  ⟨h.os, h.tape, h.output, h.size, fun k hk => h.block k (by omega) (fun hm => by have := hS k hm; omega)⟩
theorem RdInv.step {W w w' : World} {p : Nat} {v : Value} {b : List UInt8} {s s' : InS} (h : RdInv W p v b s w) (h1 : InAt w' p s') (h2 : Upd [p] w w') (hl : s'.b.length ≤ s.b.length) (hW : Bytes W v b) : RdInv W p v b s' w' :=
  have hb : Below W.heap.size w w' := upd_below h2 h.below.size (by have := h.hp; simp; omega)
  ⟨h1, h.hp, Nat.lt_of_lt_of_le h.hps h2.size, h.res.upd h2 (by have := h.hp; simp; omega), hW.below (h.below.trans hb), h.below.trans hb, Nat.le_trans hl h.len⟩
theorem num_len (s : InS) (k : Nat) : (s.num k).2.b.length ≤ s.b.length := (raw_len s k).1

set_option maxHeartbeats 2000000 in
theorem readPart_any (w : World) (v : Value) (b : List UInt8) (h : Bytes w v b) (hl : b.length ≤ 140737488355328) :
    Calls Tryd.prog 39 #[v] w (ReadPartPost w (readS b)) := by
  obtain ⟨ao, cv, rfl, -⟩ := id h
  have H := Lib.hid h; clear h
  obtain ⟨R, hR⟩ : ∃ R, readS b = R := ⟨_, rfl⟩
  rw [hR]
  unfold readS labels at hR
  dsimp only at hR
  have HR := Lib.hid hR; clear hR
  go_enter Tryd.func39, Tryd.ntmps39
  go_wp2_with fail
  refine (read_any _ _ b (H.out.upd ((Upd.refl [] w).alloc _) (by simp)) hl).mono ?_
  rintro e w1 ⟨p, rfl, hp, hi, hu⟩
  have I : RdInv w p (.slice ao b.length cv) b ⟨false, b⟩ w1 :=
    have hb : Below w.heap.size w w1 := ((Below.refl _ _).alloc (Nat.le_refl _) _).trans (hu.below.mono (by simp))
    ⟨hi, by simpa using hp, by obtain ⟨g, hg, -⟩ := hi; exact hg.lt, (Blk.new w _ _).upd hu (by simp), H.out.below hb, hb, hl⟩
  have J1 := Lib.hid I; clear I hi hu hp
  generalize InS.mk false b = s0 at *
  go_wp2_with fail
  refine (iU32_any _ p s0 J1.out.inn J1.out.len).mono ?_
  rintro e w2 ⟨rfl, h1, h2⟩
  have J2 := Lib.hid (J1.out.step h1 h2 (num_len s0 4) H.out); clear h1 h2 J1
  have n1 := num_lt s0 4 (by decide)
  generalize s0.num 4 = r1 at *
  go_wp2_with fail
  refine (iU32_any _ p r1.2 J2.out.inn J2.out.len).mono ?_
  rintro e w3 ⟨rfl, h1, h2⟩
  have J3 := Lib.hid (J2.out.step h1 h2 (num_len r1.2 4) H.out); clear h1 h2 J2
  have n2 := num_lt r1.2 4 (by decide)
  generalize r1.2.num 4 = r2 at *
  go_wp2_with fail
  refine (iU8_any _ p r2.2 J3.out.inn J3.out.len).mono ?_
  rintro e w4 ⟨rfl, h1, h2⟩
  have J4 := Lib.hid (J3.out.step h1 h2 (num_len r2.2 1) H.out); clear h1 h2 J3
  have n3 := num_lt' r2.2 1
  generalize r2.2.num 1 = r3 at *
  go_wp2_with fail
  refine (iU8_any _ p r3.2 J4.out.inn J4.out.len).mono ?_
  rintro e w5 ⟨rfl, h1, h2⟩
  have J5 := Lib.hid (J4.out.step h1 h2 (num_len r3.2 1) H.out); clear h1 h2 J4
  have n4 := num_lt' r3.2 1
  generalize r3.2.num 1 = r4 at *
  go_wp2_with fail
  have hq : w5.heap.size ≠ p := by have := J5.out.hps; omega
  have J5' : RdInv w p (.slice ao b.length cv) b r4.2 (w5.alloc (.cells (partCells r1.1 r2.1 r3.1 r4.1 (.slice none 0 0)) 85)) :=
    have hb := J5.out.below.trans ((Below.refl _ _).alloc (J5.out.below.size) _)
    ⟨J5.out.inn.upd ((Upd.refl [] w5).alloc _) (by simp), J5.out.hp, Nat.lt_of_lt_of_le J5.out.hps (by simp), J5.out.res.alloc _, H.out.below hb, hb, J5.out.len⟩
  refine (iU16_any _ p r4.2 J5'.inn J5.out.len).mono ?_
  rintro e w6 ⟨rfl, h1, h2⟩
  have J6 := Lib.hid (J5'.step h1 h2 (num_len r4.2 2) H.out)
  have h56h := Lib.hid (Nat.lt_of_lt_of_le (by simp) h2.size : w5.heap.size < w6.heap.size)
  have B6 := Lib.hid ((Blk.new w5 (partCells r1.1 r2.1 r3.1 r4.1 (.slice none 0 0)) 85).upd h2 (by simp; exact hq)); clear h1 h2 J5'
  have n5 := num_lt r4.2 2 (by decide)
  generalize r4.2.num 2 = r5 at *
  by_cases hk : 52 < r5.1
  · have hR : (⟨0, 0, 0, 0, []⟩, false) = R := by rw [← HR.out, if_pos hk]
    subst hR
    go_wp2_with (with_reducible refine wpList_store_blk rfl 85 (.tmp 2) (.tmp 23) rfl (b := w.heap.size) 0 rfl J6.out.res _ rfl (partCells 0 0 0 0 (.slice none 0 0)).toList rfl ?_ ?_ ?_ ?_)
    · decide
    · rfl
    · kernel_rfl
    · intro w7 h7 hu
      have hb7 : Below w.heap.size w w7 := J6.out.below.trans (upd_below hu J6.out.below.size (by simp))
      have H7 := Lib.hid (And.intro h7 hb7)
      clear h7 hu hb7
      go_wp2
      refine bodyPost_ret (results_blk_tmp rfl _ H7.out.1 _ rfl Tryd.underlying85 rfl (by kernel_rfl)) rfl ?_
      exact ⟨none, 0, rfl, World.ownsRow_nil _ _ _ _, Upd.ofBelow H7.out.2⟩
  · have hR := HR.out
    rw [if_neg hk] at hR
    have HR2 := Lib.hid hR
    clear hR HR
    go_wp2_with fail
    refine (raw_any _ p r5.2 r5.1 J6.out.inn J6.out.len (by omega)).mono ?_
    rintro e w7 ⟨ao7, c7, rfl, h1, h2, h3⟩
    have B7 := B6.out.upd h3 (by simp; exact hq)
    have f7 := B7.frozen 4
    have c7' := B7.cell (i := 4) rfl
    have J7 := Lib.hid (J6.out.step h2 h3 (raw_len r5.2 r5.1).1 H.out)
    have O7 := Lib.hid h1
    have J6s := Lib.hid J6.out.below.size
    have B7h := Lib.hid B7
    clear h1 h2 h3 B7 B6 J6
    have hx : (r5.2.raw r5.1).1.length ≤ 52 := by have := (raw_len r5.2 r5.1).2.2 (by omega); omega
    generalize (r5.2.raw r5.1).1 = x at *
    go_wp2_with fail
    have B8 := B7h.out.set 4 (.slice ao7 x.length c7)
    refine wp_region_ord (S := fun w => Blk w w5.heap.size (partCells r1.1 r2.1 r3.1 r4.1 (.slice ao7 x.length c7)) 85) (.take 0 (.take 1 (.take 3 (.act 2 (.act 4 (.act 5 (.take 6 .done))))))) (by kernel_rfl) (by kernel_rfl) (fun _ _ d _ _ h => by cases d <;> exact h) ?_
    refine ord_load_blk rfl rfl rfl w5.heap.size 0 rfl _ 85 (fun _ h => h) _ (partCells r1.1 r2.1 r3.1 r4.1 (.slice ao7 x.length c7)).toList (fun j u h => by simpa using h) Tryd.underlying85 rfl (by kernel_rfl) B8 ?_
    refine ord_load_blk rfl rfl rfl w5.heap.size 0 rfl _ 85 (fun _ h => h) _ (partCells r1.1 r2.1 r3.1 r4.1 (.slice ao7 x.length c7)).toList (fun j u h => by simpa using h) Tryd.underlying85 rfl (by kernel_rfl) B8 ?_
    refine ord_move (x := .tmp 0) rfl rfl (.inl rfl) B8 ?_
    refine ord_act rfl ?_
    go_wp2_with fail
    have hu8 := upd_set (Upd.refl [w5.heap.size] w7) (b := w5.heap.size) (i := 4) (.inl (by simp)) (.slice ao7 x.length c7)
    have hk7 : blkOf (.slice ao7 x.length c7) = 0 ∨ w6.heap.size < blkOf (.slice ao7 x.length c7) := (own_lt O7.out).2
    have h56 := h56h.out
    have Ob8 := own_upd O7.out hu8.drew (only (by omega))
    refine (sector_any _ r1.1 r2.1 r3.1 r4.1 _ x (own_sl Ob8) n1 n2 (by omega) (by omega) hx).mono ?_
    rintro e w8 ⟨ao8, c8, rfl, h8⟩
    have B9 := Blk.upd (w := (w7.setCell ⟨w5.heap.size, 4, none⟩ (.slice ao7 x.length c7)).drew) B8 h8.2 (by simp)
    go_wp2_with fail
    refine ⟨fun _ => B9, ?_⟩
    refine ord_act rfl ?_
    go_wp2_with fail
    have hpw := J5.out.hps
    have hpW := J5.out.hp
    have hb8 : Below w.heap.size w w8 := (J7.out.below.trans (upd_below hu8.drew J7.out.below.size (by simp; omega))).trans (h8.2.below.mono (by have := J7.out.below.size; simpa using this))
    refine (equal_any _ _ _ _ _ h8.bytes (H.out.below hb8)).mono ?_
    rintro e w9 ⟨rfl, rfl⟩
    go_wp2_with fail
    refine ⟨fun _ => B9, ?_⟩
    refine ord_act rfl ?_
    have hres := ((J7.out.res.upd hu8.drew (by simp; omega))).upd h8.2 (by simp)
    refine wpList_store_blk rfl 85 (.tmp 2) (.tmp 28) rfl (b := w.heap.size) 0 rfl hres _ rfl (partCells r1.1 r2.1 r3.1 r4.1 (.slice ao7 x.length c7)).toList rfl (Nat.le_refl _) rfl (by kernel_rfl) ?_
    intro w9 b9 u9
    refine ⟨fun _ => B9.upd u9 (by simp; omega), ?_⟩
    refine ord_move (x := .tmp 32) rfl rfl (.inr rfl) (B9.upd u9 (by simp; omega)) ?_
    have F : ReadPartPost w R (.returned (.tuple #[.agg (splice (partCells 0 0 0 0 (.slice none 0 0)) 0 (partCells r1.1 r2.1 r3.1 r4.1 (.slice ao7 x.length c7)).toList), .bool (secOf r1.1 r2.1 r3.1 r4.1 x == b)])) w9 := by
      rw [← HR2.out]
      refine ⟨ao7, c7, rfl, ?_, Upd.ofBelow (hb8.trans (upd_below u9 hb8.size (by simp)))⟩
      have := own_upd (own_upd Ob8 h8.2 (by simp)) u9 (only (by have := J6s.out; omega))
      exact own_base this (by have := J6s.out; show blkOf (.slice ao7 x.length c7) = 0 ∨ w.heap.size < blkOf (.slice ao7 x.length c7); omega)
    have FH := Lib.hid (And.intro F b9)
    clear F
    clear b9 u9 B9 hres hb8 h8 Ob8 hu8
    show Exit.then _ _ Exit.normal _ _
    go_wp2
    refine bodyPost_ret (results_blk_tmp rfl _ FH.out.2 _ rfl Tryd.underlying85 rfl (by kernel_rfl)) rfl ?_
    exact FH.out.1
end Go.Proofs.YtnfnaedoejgpiaaDoor
