/- All sectors of a disk, and the greatest generation. -/
import Derived.Test.YtnfnaedoejgpiaaDoorSector
import Derived.Test.YtnfnaedoejgpiaaDoorRows2
namespace Go.Proofs.YtnfnaedoejgpiaaDoor
open Go.RowKit

/-- The second four bytes of a sector as a number. -/
def genOf (s : List UInt8) : Nat := ((InS.mk false (s.drop 4)).num 4).1
def mostOf (ss : List (List UInt8)) : Nat := ss.foldl (fun m s => max m (genOf s)) 0
theorem mostOf_snoc (ss : List (List UInt8)) (s : List UInt8) : mostOf (ss ++ [s]) = max (mostOf ss) (genOf s) := by simp [mostOf, List.foldl_append]
theorem genOf_lt (s : List UInt8) : genOf s < 4294967296 := num_lt _ 4 (by decide)
theorem mostOf_lt (ss : List (List UInt8)) : mostOf ss < 4294967296 := by
  suffices h : ∀ m, m < 4294967296 → ss.foldl (fun m s => max m (genOf s)) m < 4294967296 from h 0 (by decide)
  induction ss with
  | nil => intro m h; exact h
  | cons s ss ih => intro m h; exact ih _ (by have := genOf_lt s; show max m (genOf s) < _; omega)
def SectsPost (W : World) (ss : List (List UInt8)) (e : Ending) (w : World) : Prop :=
  ∃ ao c vs, e = .returned (.tuple #[.slice ao ss.length c, .int .i64 (mostOf ss), .int .i64 0]) ∧ RowsAt w W.heap.size (.slice ao ss.length c) vs ss ∧ Upd [] W w
def RelSects (W : World) (ss : List (List UInt8)) (v m i : Value) (w : World) : Prop :=
  ∃ n vs, n ≤ ss.length ∧ i = .int .i64 (n : Nat) ∧ m = .int .i64 (mostOf (ss.take n)) ∧ (∃ ao c, v = .slice ao n c) ∧ RowsAt w W.heap.size v vs (ss.take n) ∧ Upd [] W w
theorem dread_good (w : World) (F : DiskF) (D : DiskS) (i : Nat) (h : DiskAt w F D) (hf : D.fuse ≠ 0) (hi : i < D.now.length) :
    Calls Tryd.prog 34 #[.pointer (some ⟨F.d, 0, none⟩), .int .i64 i] w fun e w' => ∃ ao c, e = .returned (.tuple #[.slice ao 64 c, .int .i64 0]) ∧ Fresh w D.now[i] (.slice ao 64 c) w' := by
  have e : D.read i = (D.now[i], 0) := by unfold DiskS.read; rw [if_neg hf, if_pos (by omega)]; simp [hi]
  have hl := h.ok.n64 D.now[i] (List.getElem_mem _)
  have hd := dread_any w F D i h
  rw [e] at hd
  refine hd.mono ?_
  rintro e w' ⟨ao, c, rfl, h2⟩
  dsimp only at h2 ⊢
  rw [hl] at h2 ⊢
  exact ⟨ao, c, rfl, h2⟩
set_option maxRecDepth 4000 in
set_option maxHeartbeats 1000000 in
theorem bsectors_any (w : World) (F : DiskF) (D : DiskS) (h : DiskAt w F D) (hf : D.fuse ≠ 0) :
    Calls Tryd.prog 26 #[.pointer (some ⟨F.d, 0, none⟩)] w (SectsPost w D.now) := by
  have HS := Lib.hid (And.intro h hf)
  have hfew := h.ok.few
  clear h hf
  obtain ⟨ss, hss⟩ : ∃ ss, D.now = ss := ⟨_, rfl⟩
  have HSS := Lib.hid hss
  go_enter Tryd.func26, Tryd.ntmps26
  go_wp2_with fail
  refine (sectors_any w F D HS.out.1).mono ?_
  rintro e w' ⟨rfl, rfl⟩
  rw [hss] at hfew ⊢
  clear hss
  go_wp2_with fail
  go_loopw [5, 6, 13] (RelSects w ss) (fun _ _ i _ => ((ss.length : Int) - intOf i).toNat)
  case atStart => exact ⟨0, [], Nat.zero_le _, rfl, rfl, ⟨none, 0, rfl⟩, RowsAt.nil _ _, Upd.refl _ _⟩
  case round =>
    obtain ⟨n, vs, hn, rfl, rfl, ⟨vo, vc, rfl⟩, hrow, hu⟩ := hrel
    rcases Nat.lt_or_ge n ss.length with hlt | hge
    · have hd := HS.out.1.upd hu (by simp)
      have hlt' : n < D.now.length := by rw [HSS.out]; exact hlt
      have hR := dread_good wr F D n hd HS.out.2 hlt'
      have hx : D.now[n] = ss[n] := by simp only [HSS.out]
      rw [hx] at hR
      have hxl : ss[n].length = 64 := by rw [← hx]; exact HS.out.1.ok.n64 _ (List.getElem_mem _)
      have hst : ss.take (n + 1) = ss.take n ++ [ss[n]] := by simp
      have hml := mostOf_lt (ss.take n)
      have HX := Lib.hid (And.intro hR (And.intro hrow (And.intro hu (And.intro hst hxl))))
      clear hd hR hrow hu hst hxl hx hlt'
      generalize ss[n] = x at *
      go_wp2_with fail
      refine HX.out.1.mono ?_
      rintro e w1 ⟨ao, c, rfl, h1⟩
      have hxl := HX.out.2.2.2.2
      have hc : 64 ≤ c := by obtain ⟨_, _, hv, h0, _⟩ := h1.bytes; simp only [Value.slice.injEq] at hv; omega
      have hxl0 := HX.out.2.2.2.2
      obtain ⟨b, o, rfl, -⟩ := Sl.addr (m := 64) (by have := h1.bytes; unfold Bytes at this; rw [hxl0] at this; exact this) (by decide)
      have hd4 : Bytes w1 (.slice (some ⟨b, o + 4, none⟩) 60 (c - 4)) (x.drop 4) := by
        have := h1.bytes
        have h4 := bytes_drop (m := 4) (A := some ⟨b, o + 4, none⟩) (ao := some ⟨b, o, none⟩) (c := c) (l := x) (by rw [hxl0]; exact this) (by omega) (fun _ => by simp [Addr.add_lit])
        rw [hxl0] at h4; exact h4
      have H1 := Lib.hid (And.intro h1 hd4)
      clear hd4 hxl0
      have hc4 : (4 : Int) ≤ (c : Int) := by omega
      clear h1 hxl
      go_wp2_with fail
      refine (read_any _ _ (x.drop 4) H1.out.2 (by have := HX.out.2.2.2.2; simp; omega)).mono ?_
      rintro e w2 ⟨p, rfl, hp, hi, hu⟩
      have H2 := Lib.hid (And.intro hp (And.intro hi hu))
      clear hp hi hu
      go_wp2_with fail
      refine (iU32_any _ p _ H2.out.2.1 (by have := HX.out.2.2.2.2; simp; omega)).mono ?_
      rintro e w3 ⟨rfl, h1, h2⟩
      have hgl := genOf_lt x
      have hge : ((InS.mk false (x.drop 4)).num 4).1 = genOf x := rfl
      rw [hge]
      clear hge
      have H3 := Lib.hid (And.intro h1 h2)
      clear h1 h2
      have hu3 : Upd [] w1 w3 := H2.out.2.2.trans H3.out.2 (by have := H2.out.1; simp; omega)
      have hU : Upd [] w w3 := (HX.out.2.2.1.trans H1.out.1.2 (by simp)).trans hu3 (by simp)
      have hr3 : RowsAt w3 w.heap.size (.slice vo n vc) vs (ss.take n) := (HX.out.2.1.upd0 H1.out.1.2).upd0 hu3
      have hlen : (ss.take n).length = n := by simp; omega
      have hsl : w3.ownsRow w.heap.size 5 1 (.slice (some ⟨b, o, none⟩) 64 c) x.length (x.map bv) := by
        have := own_upd H1.out.1.1 hu3 (by simp)
        exact own_base this (by have h1 := (own_lt H1.out.1.1).2; have h2 := HX.out.2.2.1.size; simp only [blkOf] at h1 ⊢; omega)
      have hr4 := hr3.upd0 (Upd.refl [] w3 |>.alloc (.cells #[.slice (some ⟨b, o, none⟩) 64 c] 26))
      have hx4 := own_upd hsl (Upd.refl [] w3 |>.alloc (.cells #[.slice (some ⟨b, o, none⟩) 64 c] 26)) (by simp)
      have hrow := hr4.row
      rw [hlen] at hrow
      have hs3 := hU.size
      have H4 := Lib.hid (And.intro hU (And.intro hr4 (And.intro hx4 (And.intro hrow (And.intro (Blk.new w3 #[.slice (some ⟨b, o, none⟩) 64 c] 26).sl1 (And.intro hlen hs3))))))
      clear hu3 hU hr3 hlen hsl hr4 hx4 hrow hs3
      go_wp2_with (at_builtin; refine wpList_app _ rfl (.tmp 32) (.tmp 34) 24 rfl w.heap.size 26 (.slice none 0 0) 1 24 Tryd.underlying24 info_bytes rfl (by decide) (.slice vo n vc) n vs rfl H4.out.2.2.2.1 (.slice (some ⟨w3.heap.size, 0, none⟩) 1 1) 1 [.slice (some ⟨b, o, none⟩) 64 c] rfl H4.out.2.2.2.2.1 (by simp [Value.oneCell']) (by omega) (by decide) (by have := H4.out.2.2.2.2.2.2; simp; omega) ?_)
      all_goals
        intro ao2 c2 w4 h4
        have hrw := RowsAt.app H4.out.2.1 H4.out.2.2.1 (by rw [H4.out.2.2.2.2.2.1]; exact h4)
        rw [← HX.out.2.2.2.1] at hrw
        have hu4 : Upd [] w w4 := (H4.out.1.alloc _).trans h4.upd (fun k hk => by
          right
          have := own_lt H4.out.2.2.2.1
          rw [own_block] at hk
          split at hk
          · simp at hk
          · simp at hk; omega)
        have hm : max (mostOf (ss.take n)) (genOf x) = mostOf (ss.take (n + 1)) := by rw [HX.out.2.2.2.1, mostOf_snoc]
        have H5 := Lib.hid (And.intro hrw (And.intro hu4 hm))
        clear hrw hu4 h4 hm
        go_wp2
        go_roundw
        case rel => exact ⟨n + 1, _, by omega, by go_num, by rw [← H5.out.2.2]; congr 1; omega, ⟨_, _, rfl⟩, H5.out.1, H5.out.2.1⟩
        case measure => simp [intOf]; omega
    · obtain rfl : n = ss.length := by omega
      rw [List.take_length] at hrow ⊢
      have H5 := Lib.hid (And.intro hrow hu)
      clear hrow hu
      go_wp2
      go_ret3
      rw [HSS.out]
      exact ⟨vo, vc, vs, rfl, H5.out.1, H5.out.2⟩
end Go.Proofs.YtnfnaedoejgpiaaDoor
