/- What the functions of package codec (Out and In, without values) and bytes.Clone, bytes.Equal do, each said of lists of bytes. -/
import Derived.Test.YtnfnaedoejgpiaaDoorRows
import Derived.Test.YtnfnaedoejgpiaaDoorBase
import Derived.Test.YtnfnaedoejgpiaaDoorPure
import Derived.Lib.SliceRun
import Derived.Laws.BitsAllLaws
namespace Go.Proofs.YtnfnaedoejgpiaaDoor
open Go.RowKit

theorem info_byte : (Tryd.prog.info? 5).map (fun i => (i.zero, i.size, i.bytes)) = some (some (.int .u8 0), 1, 1) := by kernel_rfl

/-- v is a slice of bytes l in new memory. -/
def Fresh (W : World) (l : List UInt8) (v : Value) (w : World) : Prop := w.ownsRow W.heap.size 5 1 v l.length (l.map bv) ∧ Upd [] W w
/-- The call returns bytes l in new memory. -/
def ClonePost (W : World) (l : List UInt8) (e : Ending) (w : World) : Prop := ∃ ao c, e = .returned (.slice ao l.length c) ∧ Fresh W l (.slice ao l.length c) w
theorem Fresh.bytes {W w : World} {l : List UInt8} {v : Value} (h : Fresh W l v w) : Bytes w v l := own_sl h.1
theorem Fresh.blk {W w : World} {l : List UInt8} {v : Value} (h : Fresh W l v w) : blkOf v ≤ w.heap.size ∧ (blkOf v = 0 ∨ W.heap.size < blkOf v) := own_lt h.1

set_option maxHeartbeats 400000 in
theorem clone_any (w : World) (v : Value) (l : List UInt8) (h : Bytes w v l) (hb : l.length ≤ 140737488355328) :
    Calls Tryd.prog 31 #[v] w (ClonePost w l) := by
  obtain ⟨ao, c, rfl, h1, h2, h3, h4, h5⟩ := id h
  have hs := Lib.hid h; clear h
  cases ao with
  | none =>
    obtain rfl := h4 rfl
    have : l = [] := List.eq_nil_of_length_eq_zero (by omega)
    subst this
    clear h1 h2 h3 h4 h5 hs hb
    have e : ∀ w, (binOp .eql 26 (.slice none 0 0) (.slice none 0 0)).run Tryd.prog w = .ok (.bool true) w := fun w => Lib.run_eql_slice_nil w 26 5 none 0 0 0 0 Tryd.underlying26
    simp only [List.length_nil]
    go_enter Tryd.func31, Tryd.ntmps31
    go_wp2
    go_ret
    exact ⟨none, 0, rfl, World.ownsRow_nil _ _ _ _, Upd.refl _ _⟩
  | some a =>
    clear h1 h2 h3 h4 h5
    have e : ∀ w, (binOp .eql 26 (.slice (some a) l.length c) (.slice none 0 0)).run Tryd.prog w = .ok (.bool false) w := fun w => Lib.run_eql_slice_nil w 26 5 (some a) l.length c 0 0 Tryd.underlying26
    go_enter Tryd.func31, Tryd.ntmps31
    go_wp2_with (at_builtin; refine wpList_app _ rfl (.tmp 5) (.tmp 6) 26 rfl w.heap.size 5 (.int .u8 0) 1 1 Tryd.underlying26 info_byte rfl (by decide) (.slice (some ⟨w.heap.size, 0, none⟩) 0 0) 0 [] rfl ?_ (.slice (some a) l.length c) l.length (l.map bv) rfl ?_ (bv_one l) ?_ (by decide) ?_ ?_; rotate_right)
    · intro ao2 c2 w' O
      go_wp2
      go_ret
      exact ⟨ao2, c2, rfl, by simpa using O.own, ((Upd.refl [] w).alloc _).trans O.upd (by simp [Value.ownBlock])⟩
    · exact World.ownsRow_made w _ 0 (Nat.le_refl _) (by simp) rfl
    · exact hs.out.upd ((Upd.refl [] w).alloc _) (by simp)
    · omega
    · simp

set_option maxHeartbeats 400000 in
theorem sclone_any (w : World) (v : Value) (l : List UInt8) (h : Bytes w v l) (hb : l.length ≤ 140737488355328) :
    Calls Tryd.prog 46 #[v] w (ClonePost w l) := by
  obtain ⟨ao, c, rfl, h1, h2, h3, h4, h5⟩ := id h
  have hs := Lib.hid h; clear h
  cases ao with
  | none =>
    obtain rfl := h4 rfl
    have : l = [] := List.eq_nil_of_length_eq_zero (by omega)
    subst this
    clear h1 h2 h3 h4 h5 hs hb
    have e : ∀ w, (binOp .eql 26 (.slice none 0 0) (.slice none 0 0)).run Tryd.prog w = .ok (.bool true) w := fun w => Lib.run_eql_slice_nil w 26 5 none 0 0 0 0 Tryd.underlying26
    simp only [List.length_nil]
    go_enter Tryd.func46, Tryd.ntmps46
    go_wp2
    go_ret
    exact ⟨none, 0, rfl, World.ownsRow_nil _ _ _ _, Upd.refl _ _⟩
  | some a =>
    clear h1 h2 h3 h4 h5
    have e : ∀ w, (binOp .eql 26 (.slice (some a) l.length c) (.slice none 0 0)).run Tryd.prog w = .ok (.bool false) w := fun w => Lib.run_eql_slice_nil w 26 5 (some a) l.length c 0 0 Tryd.underlying26
    go_enter Tryd.func46, Tryd.ntmps46
    go_wp2_with (at_builtin; refine wpList_app _ rfl (.tmp 5) (.tmp 6) 26 rfl w.heap.size 5 (.int .u8 0) 1 1 Tryd.underlying26 info_byte rfl (by decide) (.slice (some ⟨w.heap.size, 0, none⟩) 0 0) 0 [] rfl ?_ (.slice (some a) l.length c) l.length (l.map bv) rfl ?_ (bv_one l) ?_ (by decide) ?_ ?_; rotate_right)
    · intro ao2 c2 w' O
      go_wp2
      go_ret
      exact ⟨ao2, c2, rfl, by simpa using O.own, ((Upd.refl [] w).alloc _).trans O.upd (by simp [Value.ownBlock])⟩
    · exact World.ownsRow_made w _ 0 (Nat.le_refl _) (by simp) rfl
    · exact hs.out.upd ((Upd.refl [] w).alloc _) (by simp)
    · omega
    · simp

/-- An Out at block p, with a buffer of its own, younger than p. -/
def OutAt (w : World) (p : Nat) (s : OutS) : Prop := ∃ g, Blk w p #[.bool s.bad, g] 105 ∧ w.ownsRow (p + 1) 5 1 g s.b.length (s.b.map bv) ∧ s.b.length ≤ 4096
/-- Behind a call that writes to the Out at p: older blocks are as they were. -/
def OutPost (p : Nat) (w : World) (s : OutS) (e : Ending) (w' : World) : Prop := e = .returned (.tuple #[]) ∧ OutAt w' p s ∧ Below p w w'

theorem OutAt.upd {S : List Nat} {w w' : World} {p : Nat} {s : OutS} (h : OutAt w p s) (hu : Upd S w w') (hS : ∀ k ∈ S, k < p) : OutAt w' p s := by
  obtain ⟨g, hb, ho, hl⟩ := h
  exact ⟨g, hb.upd hu (fun h => by have := hS _ h; omega), own_upd ho hu (fun k hk h => by have := hS _ hk; rcases (own_lt ho).2 with h1 | h1 <;> omega), hl⟩
theorem OutAt.lt {w : World} {p : Nat} {s : OutS} (h : OutAt w p s) : p < w.heap.size := by obtain ⟨g, hb, -⟩ := h; exact hb.lt
theorem OutAt.spoiled {w : World} {p : Nat} {bad : Bool} {b : List UInt8} (h : OutAt w p ⟨bad, b⟩) : OutAt (w.setCell ⟨p, 0, none⟩ (.bool true)) p ⟨true, b⟩ := by
  obtain ⟨g, hb, ho, hl⟩ := h
  exact ⟨g, hb.set 0 _, own_upd ho ((Upd.refl [p] w).setCell (.inl (by simp)) _) (by have := own_lt ho; simp; omega), hl⟩

theorem spoil_any (w : World) (p o : Nat) (v : Value) (h : w.cell? ⟨p, o, none⟩ = some v) (f : w.frozen? ⟨p, o, none⟩ = false) :
    Calls Tryd.prog 63 #[.pointer (some ⟨p, o, none⟩)] w fun e w' => e = .returned (.tuple #[]) ∧ w.setCell ⟨p, o, none⟩ (.bool true) = w' := by
  go_enter Tryd.func63, Tryd.ntmps63
  go_wp2
  go_end0
  exact ⟨rfl, rfl⟩

set_option maxHeartbeats 400000 in
theorem put_any (w : World) (p : Nat) (s : OutS) (v : Value) (x : List UInt8) (h : OutAt w p s) (hv : Bytes w v x) (hx : x.length ≤ 140737488355328) :
    Calls Tryd.prog 66 #[.pointer (some ⟨p, 0, none⟩), v] w (OutPost p w (s.put x)) := by
  obtain ⟨bad, b⟩ := s
  have H0 := Lib.hid h
  obtain ⟨g, hb, ho, hn⟩ := h
  obtain ⟨ao, c, rfl, hc1, hc2, -⟩ := own_sl ho
  obtain ⟨ao', c', rfl, hc1', hc2', -⟩ := id hv
  have c0 := hb.cell (i := 0) rfl
  have c1 := hb.cell (i := 1) rfl
  have f0 := hb.frozen 0
  have f1 := hb.frozen 1
  dsimp only at *
  have H := Lib.hid (And.intro hb (And.intro ho hv))
  clear hb ho hv hc2 hc2'
  cases bad with
  | true =>
    have e : OutS.put ⟨true, b⟩ x = ⟨true, b⟩ := by simp [OutS.put]
    rw [e]; clear e
    go_enter Tryd.func66, Tryd.ntmps66
    go_wp2_with (go_at_call 63; refine (spoil_any _ _ _ _ c0 f0).mono ?_; rintro e w' ⟨rfl, rfl⟩)
    go_end0
    exact ⟨rfl, H0.out.spoiled, below_set (Below.refl _ _) (Nat.le_refl _) _⟩
  | false =>
    by_cases hl : b.length + x.length ≤ 4096
    · have e : OutS.put ⟨false, b⟩ x = ⟨false, b ++ x⟩ := by simp [OutS.put, hl]
      rw [e]; clear e
      go_enter Tryd.func66, Tryd.ntmps66
      go_wp2_with (at_builtin; refine wpList_app _ rfl (.tmp 28) (.tmp 29) 26 rfl (p + 1) 5 (.int .u8 0) 1 1 Tryd.underlying26 info_byte rfl (by decide) (.slice ao b.length c) b.length (b.map bv) rfl H.out.2.1 (.slice ao' x.length c') x.length (x.map bv) rfl H.out.2.2 (bv_one x) ?_ (by decide) ?_ ?_; rotate_right)
      · intro ao2 c2 w' O
        have hb' := O.keeps H.out.1 (own_ne H.out.2.1 H.out.1 (by decide))
        have c1' := hb'.cell (i := 1) rfl
        have f1' := hb'.frozen 1
        have B' := Lib.hid hb'; clear hb'
        go_wp2
        go_end0
        have hbg := own_lt H.out.2.1
        refine ⟨rfl, ⟨_, B'.out.set 1 _, ?_, by simpa using hl⟩, below_set (O.below (Nat.le_of_lt H.out.1.lt) (by omega)) (Nat.le_refl _) _⟩
        rw [List.length_append, List.map_append]
        exact own_upd O.own (upd_set (Upd.refl [p] w') (b := p) (.inl (by simp)) _) (by simpa using own_ne O.own B'.out (by decide))
      · omega
      · exact H.out.1.lt
    · have e : OutS.put ⟨false, b⟩ x = ⟨true, b⟩ := by simp [OutS.put, hl]
      rw [e]; clear e
      go_enter Tryd.func66, Tryd.ntmps66
      go_wp2_with (go_at_call 63; refine (spoil_any _ _ _ _ c0 f0).mono ?_; rintro e w' ⟨rfl, rfl⟩)
      go_end0
      exact ⟨rfl, H0.out.spoiled, below_set (Below.refl _ _) (Nat.le_refl _) _⟩

theorem put_len (s : OutS) (x : List UInt8) (h : s.b.length ≤ 4096) : (s.put x).b.length ≤ 4096 := by
  unfold OutS.put; split <;> simp <;> omega

theorem shr_byte (n j : Nat) : Value.int .u8 ((n : Int) / 2 ^ (8 * j) % 256) = bv (UInt8.ofNat (n / 256 ^ j)) := by
  refine bv_of ?_
  have e : ((n : Int) / 2 ^ (8 * j)) = ((n / 256 ^ j : Nat) : Int) := by rw [show (256 : Nat) ^ j = 2 ^ (8 * j) by rw [Nat.pow_mul]]; push_cast; rfl
  rw [e]
  generalize n / 256 ^ j = m
  rw [UInt8.toNat_ofNat']; omega

def WideRel (w : World) (p : Nat) (s : OutS) (n k : Nat) (i : Value) (wr : World) : Prop :=
  ∃ (j : Nat) (s' : OutS), j ≤ k ∧ i = .int .i64 (8 * ((j : Int) - 1)) ∧ s'.wide n j = s.wide n k ∧ OutAt wr p s' ∧ Below p w wr

set_option maxHeartbeats 400000 in
theorem wide_any (w : World) (p : Nat) (s : OutS) (n k : Nat) (hk : k ≤ 8) (h : OutAt w p s) :
    Calls Tryd.prog 77 #[.pointer (some ⟨p, 0, none⟩), .int .u64 n, .int .i64 k] w (OutPost p w (s.wide n k)) := by
  have H := Lib.hid h; clear h
  go_enter Tryd.func77, Tryd.ntmps77
  go_wp2_with fail
  go_loopw [6] (WideRel w p s n k) (fun i _ => (intOf i + 8).toNat)
  case atStart => exact ⟨k, s, Nat.le_refl _, rfl, rfl, H.out, Below.refl _ _⟩
  case round =>
    obtain ⟨j, s', hj, rfl, hs, ho, hb⟩ := hrel
    have HS := Lib.hid (And.intro hs (And.intro ho hb)); clear hs ho hb
    cases j with
    | zero =>
      go_wp2_with fail
      go_end0
      exact ⟨rfl, HS.out.1 ▸ HS.out.2.1, HS.out.2.2⟩
    | succ j =>
      go_wp2_with fail
      refine (put_any _ p s' _ [UInt8.ofNat (n / 256 ^ j)] (HS.out.2.1.upd ((Upd.refl [] wr).alloc _) (by simp)) (by rw [shr_byte]; exact (Blk.new _ _ _).sl1) (by simp)).mono ?_
      rintro e w1 ⟨rfl, ho, hb⟩
      have H1 := Lib.hid (And.intro ho hb); clear ho hb
      go_wp2_with fail
      go_roundw
      case rel => exact ⟨j, s'.put [UInt8.ofNat (n / 256 ^ j)], by omega, by go_num, by rw [← HS.out.1]; rfl, H1.out.1, (HS.out.2.2.alloc (Nat.le_of_lt HS.out.2.1.lt) _).trans H1.out.2⟩
      case measure => simp [intOf]; omega

set_option maxHeartbeats 400000 in
theorem small_any (w : World) (p : Nat) (s : OutS) (n : Int) (k : Nat) (hk : 1 ≤ k ∧ k ≤ 4) (h : OutAt w p s) (hn : -9223372036854775808 ≤ n ∧ n ≤ 9223372036854775807) :
    Calls Tryd.prog 65 #[.pointer (some ⟨p, 0, none⟩), .int .i64 n, .int .i64 k] w (OutPost p w (s.small n k)) := by
  have hp : ((2 : Int) ^ (8 * k) = 256 ^ k) := by rw [Int.pow_mul]; rfl
  have hq : (256 : Int) ^ k ≤ 4294967296 ∧ 1 ≤ (256 : Int) ^ k := by
    have : k = 1 ∨ k = 2 ∨ k = 3 ∨ k = 4 := by omega
    rcases this with rfl | rfl | rfl | rfl <;> decide
  have hq1 := hq.1
  have hq2 := hq.2
  clear hq
  obtain ⟨g, hb, ho, hl⟩ := id h
  have c0 := hb.cell (i := 0) rfl
  have f0 := hb.frozen 0
  have H := Lib.hid h; clear h
  have hk1 := hk.1
  have hk2 := hk.2
  have hn1 := hn.1
  have hn2 := hn.2
  clear hb ho hl hn hk
  by_cases h0 : n < 0
  · have e : s.small n k = ⟨true, s.b⟩ := by unfold OutS.small; rw [if_neg (by omega)]
    rw [e]; clear e
    go_enter Tryd.func65, Tryd.ntmps65
    go_wp2_with (go_at_call 63; refine (spoil_any _ _ _ _ c0 f0).mono ?_; rintro e w' ⟨rfl, rfl⟩)
    go_end0
    exact ⟨rfl, H.out.spoiled, below_set (Below.refl _ _) (Nat.le_refl _) _⟩
  · by_cases h1 : n < 256 ^ k
    · obtain ⟨m, rfl⟩ := Int.eq_ofNat_of_zero_le (Int.not_lt.1 h0)
      have e : s.small m k = s.wide m k := by unfold OutS.small; rw [if_pos (by omega)]; simp
      rw [e]; clear e
      go_enter Tryd.func65, Tryd.ntmps65
      go_wp2_with (go_at_call 77; refine (wide_any w p s m k (by omega) H.out).mono ?_; rintro e w' ⟨rfl, h2⟩; have H2 := Lib.hid h2; clear h2)
      go_end0
      exact ⟨rfl, H2.out⟩
    · have e : s.small n k = ⟨true, s.b⟩ := by unfold OutS.small; rw [if_neg (by omega)]
      rw [e]; clear e
      go_enter Tryd.func65, Tryd.ntmps65
      go_wp2_with (go_at_call 63; refine (spoil_any _ _ _ _ c0 f0).mono ?_; rintro e w' ⟨rfl, rfl⟩)
      go_end0
      exact ⟨rfl, H.out.spoiled, below_set (Below.refl _ _) (Nat.le_refl _) _⟩
theorem oU8_any (w : World) (p : Nat) (s : OutS) (n : Int) (h : OutAt w p s) (hn : -9223372036854775808 ≤ n ∧ n ≤ 9223372036854775807) :
    Calls Tryd.prog 56 #[.pointer (some ⟨p, 0, none⟩), .int .i64 n] w (OutPost p w (s.small n 1)) := by
  have H := Lib.hid (small_any w p s n 1 (by decide) h hn); clear h hn
  go_enter Tryd.func56, Tryd.ntmps56
  go_wp2_with (go_at_call 65; refine H.out.mono ?_; rintro e w' ⟨rfl, h2⟩; have H2 := Lib.hid h2; clear h2)
  go_end0
  exact ⟨rfl, H2.out⟩

theorem oU16_any (w : World) (p : Nat) (s : OutS) (n : Int) (h : OutAt w p s) (hn : -9223372036854775808 ≤ n ∧ n ≤ 9223372036854775807) :
    Calls Tryd.prog 57 #[.pointer (some ⟨p, 0, none⟩), .int .i64 n] w (OutPost p w (s.small n 2)) := by
  have H := Lib.hid (small_any w p s n 2 (by decide) h hn); clear h hn
  go_enter Tryd.func57, Tryd.ntmps57
  go_wp2_with (go_at_call 65; refine H.out.mono ?_; rintro e w' ⟨rfl, h2⟩; have H2 := Lib.hid h2; clear h2)
  go_end0
  exact ⟨rfl, H2.out⟩

theorem oU32_any (w : World) (p : Nat) (s : OutS) (n : Int) (h : OutAt w p s) (hn : -9223372036854775808 ≤ n ∧ n ≤ 9223372036854775807) :
    Calls Tryd.prog 55 #[.pointer (some ⟨p, 0, none⟩), .int .i64 n] w (OutPost p w (s.small n 4)) := by
  have H := Lib.hid (small_any w p s n 4 (by decide) h hn); clear h hn
  go_enter Tryd.func55, Tryd.ntmps55
  go_wp2_with (go_at_call 65; refine H.out.mono ?_; rintro e w' ⟨rfl, h2⟩; have H2 := Lib.hid h2; clear h2)
  go_end0
  exact ⟨rfl, H2.out⟩

theorem oRaw_any (w : World) (p : Nat) (s : OutS) (v : Value) (x : List UInt8) (h : OutAt w p s) (hv : Bytes w v x) (hx : x.length ≤ 140737488355328) :
    Calls Tryd.prog 58 #[.pointer (some ⟨p, 0, none⟩), v] w (OutPost p w (s.put x)) := by
  have H := Lib.hid (put_any w p s v x h hv hx); clear h hv hx
  go_enter Tryd.func58, Tryd.ntmps58
  go_wp2_with (go_at_call 66; refine H.out.mono ?_; rintro e w' ⟨rfl, h2⟩; have H2 := Lib.hid h2; clear h2)
  go_end0
  exact ⟨rfl, H2.out⟩

/-- End: the bytes in new memory, and OK; or nothing, and ErrLong. -/
def EndPost (W : World) (s : OutS) (e : Ending) (w : World) : Prop := ∃ ao c, e = .returned (.tuple #[.slice ao s.fin.1.length c, .int .i64 s.fin.2]) ∧ Fresh W s.fin.1 (.slice ao s.fin.1.length c) w

set_option maxHeartbeats 400000 in
theorem end_any (w : World) (p : Nat) (s : OutS) (h : OutAt w p s) :
    Calls Tryd.prog 59 #[.pointer (some ⟨p, 0, none⟩)] w (EndPost w s) := by
  obtain ⟨bad, b⟩ := s
  obtain ⟨g, hb, ho, hl⟩ := id h
  have c0 := hb.cell (i := 0) rfl
  have c1 := hb.cell (i := 1) rfl
  have C := Lib.hid (clone_any w g b (own_sl ho) (by dsimp only at hl; omega))
  have H := Lib.hid h; clear h hb ho hl
  cases bad with
  | true =>
    go_enter Tryd.func59, Tryd.ntmps59
    go_wp2
    go_ret2
    exact ⟨none, 0, rfl, World.ownsRow_nil _ _ _ _, Upd.refl _ _⟩
  | false =>
    go_enter Tryd.func59, Tryd.ntmps59
    go_wp2_with (go_at_call 31; refine C.out.mono ?_; rintro e w' ⟨ao, c, rfl, h2⟩; have H2 := Lib.hid h2; clear h2)
    go_ret2
    exact ⟨ao, c, rfl, H2.out⟩

theorem end_good (w : World) (p : Nat) (b : List UInt8) (h : OutAt w p ⟨false, b⟩) :
    Calls Tryd.prog 59 #[.pointer (some ⟨p, 0, none⟩)] w fun e w' => ∃ ao c, e = .returned (.tuple #[.slice ao b.length c, .int .i64 0]) ∧ Fresh w b (.slice ao b.length c) w' := end_any w p ⟨false, b⟩ h

/-- An In at block p: what is left of its bytes lies in an older block. -/
def InAt (w : World) (p : Nat) (s : InS) : Prop := ∃ v, Blk w p #[.bool s.bad, v] 99 ∧ Bytes w v s.b ∧ blkOf v ≤ p
theorem InAt.upd {S : List Nat} {w w' : World} {p : Nat} {s : InS} (h : InAt w p s) (hu : Upd S w w') (hS : ∀ k ∈ S, k ≠ p ∧ p ≤ k) : InAt w' p s := by
  obtain ⟨v, hb, hs, hl⟩ := h
  exact ⟨v, hb.upd hu (fun h => (hS _ h).1 rfl), hs.upd hu (fun k hk h => by have := hS _ hk; omega), hl⟩

def ReadPost (W : World) (l : List UInt8) (e : Ending) (w : World) : Prop := ∃ p, e = .returned (.pointer (some ⟨p, 0, none⟩)) ∧ W.heap.size ≤ p ∧ InAt w p ⟨false, l⟩ ∧ Upd [] W w

set_option maxHeartbeats 400000 in
theorem read_any (w : World) (v : Value) (l : List UInt8) (h : Bytes w v l) (hb : l.length ≤ 140737488355328) :
    Calls Tryd.prog 37 #[v] w (ReadPost w l) := by
  have C := Lib.hid (clone_any w v l h hb); clear h hb
  go_enter Tryd.func37, Tryd.ntmps37
  go_wp2_with (go_at_call 31; refine C.out.mono ?_; rintro e w' ⟨ao, c, rfl, h2⟩; have H2 := Lib.hid h2; clear h2)
  go_ret
  exact ⟨_, rfl, H2.out.2.size, ⟨_, Blk.new _ _ _, H2.out.bytes.upd ((Upd.refl [] w').alloc _) (by simp), by have := H2.out.blk; omega⟩, H2.out.2.alloc _⟩

/-- Raw, of n bytes: what is taken, in new memory; what is left. -/
def RawPost (W : World) (p : Nat) (x : List UInt8) (s : InS) (e : Ending) (w : World) : Prop :=
  ∃ ao c, e = .returned (.slice ao x.length c) ∧ w.ownsRow W.heap.size 5 1 (.slice ao x.length c) x.length (x.map bv) ∧ InAt w p s ∧ Upd [p] W w

set_option maxHeartbeats 400000 in
theorem raw_any (w : World) (p : Nat) (s : InS) (n : Int) (h : InAt w p s) (hl : s.b.length ≤ 140737488355328) (hn : -9223372036854775808 ≤ n ∧ n ≤ 9223372036854775807) :
    Calls Tryd.prog 52 #[.pointer (some ⟨p, 0, none⟩), .int .i64 n] w (RawPost w p (s.raw n).1 (s.raw n).2) := by
  obtain ⟨bad, b⟩ := s
  obtain ⟨g, hb, ho, hg⟩ := id h
  obtain ⟨ao, c, rfl, hc1, hc2, -⟩ := id ho
  have c0 := hb.cell (i := 0) rfl
  have c1 := hb.cell (i := 1) rfl
  have f0 := hb.frozen 0
  have f1 := hb.frozen 1
  dsimp only at *
  by_cases hr : bad = false ∧ 0 ≤ n ∧ n ≤ b.length
  · obtain ⟨rfl, h0, h1⟩ := hr
    obtain ⟨m, rfl⟩ := Int.eq_ofNat_of_zero_le h0
    have hm : m ≤ b.length := by omega
    have e : InS.raw ⟨false, b⟩ m = (b.take m, ⟨false, b.drop m⟩) := by simp [InS.raw, hm]
    rw [e]; clear e h0 h1
    have C := Lib.hid (clone_any w (.slice ao m c) (b.take m) (bytes_take ho hm) (by simp; omega))
    have H2 := Lib.hid (And.intro hb (And.intro ho hg))
    have hmc : m ≤ c := by omega
    clear h hb ho hg
    go_enter Tryd.func52, Tryd.ntmps52
    go_wp2_with fail
    refine C.out.mono ?_
    rintro e w1 ⟨ao1, ca1, rfl, h1⟩
    have hb1 := H2.out.1.upd h1.2 (by simp)
    have c1' := hb1.cell (i := 1) rfl
    have f1' := hb1.frozen 1
    have H1 := Lib.hid (And.intro h1 hb1)
    clear h1 hb1
    have fin : ∀ A, (c ≠ m → A = ao.map (fun x => x.add m)) → blkOf (.slice A (b.length - m) (c - m)) ≤ p →
        RawPost w p (b.take m) ⟨false, b.drop m⟩ (.returned (.slice ao1 (b.take m).length ca1)) (w1.setCell ⟨p, 1, none⟩ (.slice A (b.length - m) (c - m))) := fun A hA hblk => by
      have hu := upd_set (Upd.refl [p] w1) (b := p) (i := 1) (.inl (by simp)) (.slice A (b.length - m) (c - m))
      have := H2.out.1.lt
      have k1 := H2.out.2.2
      have k2 := H1.out.1.blk
      have e1 := blkOf_len ao (b.length - m) (c - m) b.length c
      exact ⟨ao1, ca1, rfl, own_upd H1.out.1.1 hu (only (by omega)), ⟨_, H1.out.2.set 1 _, (bytes_drop (H2.out.2.1.upd H1.out.1.2 (by simp)) hm hA).upd hu (only (v := .slice A (b.length - m) (c - m)) (by omega)), hblk⟩, (H1.out.1.2.more (by simp)).trans hu (by simp)⟩
    have F := Lib.hid fin
    have k1 := Lib.hid H2.out.2.2
    clear fin
    have ht : (b.take m).length = m := by simp; omega
    rw [ht] at F
    clear ht
    go_wp2
    all_goals go_ret
    · have := F.out ao (fun h => absurd ‹c = m› h) (by rw [blkOf_len ao _ _ b.length c]; exact k1.out)
      rw [show c - m = 0 by omega] at this; exact this
    · exact F.out _ (fun _ => rfl) (by rw [blkOf_add ao m _ _ b.length c]; exact k1.out)
  · have e : InS.raw ⟨bad, b⟩ n = ([], ⟨true, b⟩) := if_neg hr
    rw [e]; clear e
    have fin : RawPost w p [] ⟨true, b⟩ (.returned (.slice none 0 0)) (w.setCell ⟨p, 0, none⟩ (.bool true)) :=
      ⟨none, 0, rfl, World.ownsRow_nil _ _ _ _, ⟨_, hb.set 0 _, ho.upd (upd_set (Upd.refl [p] w) (.inl (by simp)) _) (by simp; omega), hg⟩, upd_set (Upd.refl [p] w) (.inl (by simp)) _⟩
    have F := Lib.hid fin
    clear fin hb ho h hg
    cases bad with
    | true =>
      clear hr
      go_enter Tryd.func52, Tryd.ntmps52
      go_wp2_with (go_at_call 63; refine (spoil_any _ _ _ _ c0 f0).mono ?_; rintro e w' ⟨rfl, rfl⟩)
      go_ret
      exact F.out
    | false =>
      have hr : n < 0 ∨ b.length < n := by simp at hr; omega
      rcases hr with hr | hr
      all_goals
        go_enter Tryd.func52, Tryd.ntmps52
        go_wp2_with (go_at_call 63; refine (spoil_any _ _ _ _ c0 f0).mono ?_; rintro e w' ⟨rfl, rfl⟩)
        go_ret
        exact F.out

/-- A number of k bytes is read. -/
def NumPost (W : World) (p : Nat) (k : IntKind) (n : Nat) (s : InS) (e : Ending) (w : World) : Prop := e = .returned (.int k n) ∧ InAt w p s ∧ Upd [p] W w

theorem ofBe_snoc (l : List UInt8) (c : UInt8) : ofBe (l ++ [c]) = ofBe l * 256 + c.toNat := by simp [ofBe, List.foldl_append]
theorem ofBe_lt (l : List UInt8) : ofBe l < 256 ^ l.length := by
  suffices h : ∀ (n : Nat) (l : List UInt8), l.length = n → ofBe l < 256 ^ n from h _ l rfl
  intro n
  induction n with
  | zero => intro l hl; obtain rfl := List.eq_nil_of_length_eq_zero hl; simp [ofBe]
  | succ n ih =>
    intro l hl
    obtain ⟨l', c, rfl⟩ : ∃ l' c, l = l' ++ [c] := ⟨l.dropLast, l.getLast (by rintro rfl; simp at hl), (List.dropLast_concat_getLast _).symm⟩
    have := ih l' (by simpa using hl)
    rw [ofBe_snoc, Nat.pow_succ]; have := c.toNat_lt; omega

set_option maxHeartbeats 400000 in
theorem iwide_any (w : World) (p : Nat) (s : InS) (k : Nat) (hk : k ≤ 4) (h : InAt w p s) (hl : s.b.length ≤ 140737488355328) :
    Calls Tryd.prog 49 #[.pointer (some ⟨p, 0, none⟩), .int .i64 k] w (NumPost w p .u64 (s.num k).1 (s.num k).2) := by
  have R := Lib.hid (raw_any w p s k h hl (by omega)); clear h
  have hx : (s.raw k).1.length ≤ 4 := by unfold InS.raw; split <;> simp <;> omega
  unfold InS.num
  generalize (s.raw k).1 = x at *
  generalize (s.raw k).2 = s' at *
  go_enter Tryd.func49, Tryd.ntmps49
  go_wp2_with (go_at_call 52; refine R.out.mono ?_; rintro e w' ⟨ao, c, rfl, h1, h2, h3⟩; have H := Lib.hid (And.intro h1 (And.intro h2 h3)); clear h1 h2 h3)
  have hm : x.length ≤ 9223372036854775807 := by omega
  go_loop [5, 12] (fun n i => ∃ j : Nat, j ≤ x.length ∧ i = .int .i64 j ∧ n = .int .u64 (ofBe (x.take j))) (fun _ i => x.length - (intOf i).toNat)
  case atStart => exact ⟨0, Nat.zero_le _, rfl, rfl⟩
  case round =>
    obtain ⟨j, hj, rfl, rfl⟩ := hrel
    by_cases hlt : j < x.length
    · obtain ⟨b, o, rfl, hb, hc⟩ := Sl.addr (own_sl H.out.1) (by omega)
      have hcell := hc j (bv x[j]) (by simp [hlt])
      have hlb : ofBe (x.take j) < 16777216 := by
        have := ofBe_lt (x.take j); rw [List.length_take, Nat.min_eq_left (by omega)] at this
        have h2 : 256 ^ j ≤ 256 ^ 3 := Nat.pow_le_pow_right (by omega) (by omega)
        omega
      unfold bv at hcell
      have hcb := x[j].toNat_lt
      clear hc hb
      go_wp2_with fail
      go_round
      case rel =>
        refine ⟨j + 1, by omega, by go_num, ?_⟩
        rw [List.take_succ_eq_append_getElem hlt, ofBe_snoc]
        have e : ((ofBe (x.take j) : Int) * 256) = ((ofBe (x.take j) * 256 : Nat) : Int) := by omega
        rw [e, u64_or_nat _ _ (by omega) (by omega), nat_join 8 _ _ (by omega) (by omega)]
      case measure => simp [intOf]; omega
    · go_wp2_with fail
      go_ret
      refine ⟨?_, H.out.2⟩
      rw [show x.take j = x from List.take_of_length_le (by omega)]
      rfl

theorem num_lt' (s : InS) (k : Nat) : (s.num k).1 < 256 ^ k := by
  have h := ofBe_lt (s.raw k).1
  have hx : (s.raw k).1.length ≤ k := by have := (raw_len s k).2.2 (by omega); omega
  exact Nat.lt_of_lt_of_le h (Nat.pow_le_pow_right (by omega) hx)
theorem num_lt (s : InS) (k : Nat) (hk : k ≤ 4) : (s.num k).1 < 4294967296 :=
  Nat.lt_of_lt_of_le (num_lt' s k) (Nat.le_trans (Nat.pow_le_pow_right (n := 256) (by omega) hk) (by decide))

theorem iU8_any (w : World) (p : Nat) (s : InS) (h : InAt w p s) (hl : s.b.length ≤ 140737488355328) :
    Calls Tryd.prog 50 #[.pointer (some ⟨p, 0, none⟩)] w (NumPost w p .i64 (s.num 1).1 (s.num 1).2) := by
  have H := Lib.hid (iwide_any w p s 1 (by decide) h hl); clear h hl
  have hb := num_lt s 1 (by decide)
  go_enter Tryd.func50, Tryd.ntmps50
  go_wp2_with (go_at_call 49; refine H.out.mono ?_; rintro e w' ⟨rfl, h2, h3⟩; have H2 := Lib.hid (And.intro h2 h3); clear h2 h3)
  go_ret
  exact ⟨rfl, H2.out⟩

theorem iU16_any (w : World) (p : Nat) (s : InS) (h : InAt w p s) (hl : s.b.length ≤ 140737488355328) :
    Calls Tryd.prog 51 #[.pointer (some ⟨p, 0, none⟩)] w (NumPost w p .i64 (s.num 2).1 (s.num 2).2) := by
  have H := Lib.hid (iwide_any w p s 2 (by decide) h hl); clear h hl
  have hb := num_lt s 2 (by decide)
  go_enter Tryd.func51, Tryd.ntmps51
  go_wp2_with (go_at_call 49; refine H.out.mono ?_; rintro e w' ⟨rfl, h2, h3⟩; have H2 := Lib.hid (And.intro h2 h3); clear h2 h3)
  go_ret
  exact ⟨rfl, H2.out⟩

theorem iU32_any (w : World) (p : Nat) (s : InS) (h : InAt w p s) (hl : s.b.length ≤ 140737488355328) :
    Calls Tryd.prog 38 #[.pointer (some ⟨p, 0, none⟩)] w (NumPost w p .i64 (s.num 4).1 (s.num 4).2) := by
  have H := Lib.hid (iwide_any w p s 4 (by decide) h hl); clear h hl
  have hb := num_lt s 4 (by decide)
  go_enter Tryd.func38, Tryd.ntmps38
  go_wp2_with (go_at_call 49; refine H.out.mono ?_; rintro e w' ⟨rfl, h2, h3⟩; have H2 := Lib.hid (And.intro h2 h3); clear h2 h3)
  go_ret
  exact ⟨rfl, H2.out⟩

theorem equal_any (w : World) (a b : Value) (x y : List UInt8) (ha : Bytes w a x) (hb : Bytes w b y) :
    Calls Tryd.prog 53 #[a, b] w fun e w' => e = .returned (.bool (x == y)) ∧ w = w' := by
  have ea := run_str (P := Tryd.prog) ha 26 5 Tryd.underlying26 Tryd.underlying5 9 Tryd.underlying9
  have eb := run_str (P := Tryd.prog) hb 26 5 Tryd.underlying26 Tryd.underlying5 9 Tryd.underlying9
  obtain ⟨ao, ca, rfl, -⟩ := ha
  obtain ⟨bo, cb, rfl, -⟩ := hb
  go_enter Tryd.func53, Tryd.ntmps53
  go_wp2_with fail
  go_ret
  exact ⟨by simp [bs_list], rfl⟩
end Go.Proofs.YtnfnaedoejgpiaaDoor
