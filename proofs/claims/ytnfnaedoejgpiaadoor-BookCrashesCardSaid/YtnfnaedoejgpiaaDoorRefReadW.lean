/- The records of sectors, by the reference. -/
import Derived.Test.YtnfnaedoejgpiaaDoorRefOne
import Derived.Test.YtnfnaedoejgpiaaDoorRecords
namespace Go.Proofs.YtnfnaedoejgpiaaDoor
open Go.RowKit

theorem oneR_bd (ss : List (List UInt8)) (at_ n least : Nat) : (oneR ss at_ n least).2.2 ≤ 79 ∧ ((oneR ss at_ n least).2.2 = 0 ∨ at_ + (oneR ss at_ n least).2.2 ≤ ss.length) ∧ (oneR ss at_ n least).2.1 < 4294967296 := by
  have hg := numB_lt ((ss.getD at_ []).drop 4)
  unfold oneR
  split
  · simp
  · dsimp only
    split
    · simp
    · cases oneGo ss at_ n (numB ((ss.getD at_ []).drop 4)) ((ss.getD at_ []).getD 9 0).toNat ((ss.getD at_ []).getD 9 0).toNat 0 [] with
      | none => simp [oneEnd]
      | some all => simp only [oneEnd]; omega
def RelRd1 (W : World) (m : Nat) (mo i : Value) (w : World) : Prop := ∃ (k : Nat) (x : Int), k ≤ m ∧ i = .int .i64 k ∧ mo = .int .i64 x ∧ Upd [] W w
def RelRd2 (W : World) (ss : List (List UInt8)) (m : Nat) (R : List (List UInt8) × Nat) (v a l i : Value) (w : World) : Prop :=
  ∃ (k at_ least : Nat) (out : List (List UInt8)) (vs : List Value), k ≤ m + 1 ∧ i = .int .i64 k ∧ a = .int .i64 at_ ∧ l = .int .i64 least ∧ at_ ≤ m ∧ least < 4294967296 ∧ out.length ≤ k ∧ (∃ ao c, v = .slice ao out.length c) ∧ RowsAt w W.heap.size v vs out ∧ Upd [] W w ∧ readGo ss (m + 1 - k) at_ out least = R
def ReadRPost (W : World) (R : List (List UInt8) × Nat) (e : Ending) (w : World) : Prop :=
  ∃ ao c vs mo, e = .returned (.tuple #[.slice ao R.1.length c, .int .i64 R.2, .int .i64 mo]) ∧ RowsAt w W.heap.size (.slice ao R.1.length c) vs R.1 ∧ Upd [] W w
set_option maxRecDepth 4000 in
set_option maxHeartbeats 4000000 in
theorem read_all_any (w : World) (lo : Option Addr) (m lc : Nat) (vs : List Value) (ss : List (List UInt8)) (hv : Sl w (.slice lo m lc) m 1 vs) (hP : Reads w vs ss) (h64 : ∀ s ∈ ss, s.length = 64) (hm : ss.length = m) (hm2 : m ≤ 8192) :
    Calls Tryd.prog 18 #[.slice lo m lc] w (ReadRPost w (readR ss)) := by
  obtain ⟨R, hR⟩ : ∃ R, readR ss = R := ⟨_, rfl⟩
  rw [hR]
  unfold readR at hR
  rw [hm] at hR
  have HS := Lib.hid (And.intro hv (And.intro hP (And.intro h64 (And.intro hm hR))))
  clear hv hP h64 hm hR
  go_enter Tryd.func18, Tryd.ntmps18
  go_wp2_with fail
  go_loopw [8, 9] (RelRd1 w m) (fun _ i _ => ((m : Int) - intOf i).toNat)
  case atStart => exact ⟨0, 0, by omega, rfl, rfl, Upd.refl _ _⟩
  case round =>
    obtain ⟨k, mo, hk, rfl, rfl, hu⟩ := hrel
    rcases Nat.lt_or_ge k m with hlt | hge
    · obtain ⟨b, o, hlo, hb, sb, so, sc, hsc, hsm, hsb, hc, hby, hl⟩ := Reads.at HS.out.1 HS.out.2.1 HS.out.2.2.1 HS.out.2.2.2.1 hlt
      subst hlo
      have hcw : wr.cell? ⟨b, o + k, none⟩ = some (.slice (some ⟨sb, so, none⟩) 64 sc) := cell_upd hc hb hu (by simp)
      have hbw := hby.upd hu (by simp)
      obtain ⟨s, hs⟩ : ∃ s, ss.getD k [] = s := ⟨_, rfl⟩
      rw [hs] at hbw hl
      have hsc4 : ¬ sc = 4 := by omega
      have hsc2 : (4 : Int) ≤ (sc : Int) := by omega
      have hby4 : Bytes wr (.slice (some ⟨sb, so + 4, none⟩) 60 (sc - 4)) (s.drop 4) := by
        have := bytes_drop (m := 4) (A := some ⟨sb, so + 4, none⟩) (c := sc) (ao := some ⟨sb, so, none⟩) (l := s) (by rw [hl]; exact hbw) (by omega) (fun _ => by simp [Addr.add_lit])
        rw [hl] at this; exact this
      have HX := Lib.hid (And.intro hu (And.intro hl hby4))
      clear hu hl hby4 hbw hby hc hs
      go_wp2_with fail
      refine (number_any wr (some ⟨sb, so + 4, none⟩) 60 (sc - 4) (s.drop 4) HX.out.2.2 (by have := HX.out.2.1; simp; omega) (by omega)).mono ?_
      rintro e w1 ⟨rfl, u1⟩
      have H1 := Lib.hid (HX.out.1.trans u1 (by simp))
      clear u1 hcw
      go_wp2
      go_roundw
      case rel => exact ⟨k + 1, _, by omega, by go_num, rfl, H1.out⟩
      case measure => simp [intOf]; omega
    · obtain rfl : k = m := by omega
      have H1 := Lib.hid hu
      clear hu
      go_wp2_with fail
      go_loopw [5, 6, 7, 10] (RelRd2 w ss k R) (fun _ _ _ i _ => ((k : Int) + 1 - intOf i).toNat)
      case atStart => exact ⟨0, 0, 1, [], [], by omega, rfl, rfl, rfl, by omega, by omega, by simp, ⟨none, 0, rfl⟩, RowsAt.nil _ _, H1.out, HS.out.2.2.2.2⟩
      case round =>
        obtain ⟨j, at_, least, out, us, hj, rfl, rfl, rfl, hat, hle, hol, ⟨ao, ac, rfl⟩, hrow, hu, hgo⟩ := hrel
        obtain ⟨ol, hole⟩ : ∃ ol, out.length = ol := ⟨_, rfl⟩
        have HX := Lib.hid (And.intro hrow (And.intro hu (And.intro hgo hole)))
        rw [hole] at hol ⊢
        clear hrow hu hgo hole
        rcases Nat.lt_or_ge k j with hend | hgo
        · obtain rfl : j = k + 1 := by omega
          have hR2 : R = (out, at_) := by
            have h := HX.out.2.2.1
            rw [Nat.sub_self, readGo] at h
            exact h.symm
          have hdec : decide ((k : Int) + 1 ≤ (k : Int)) = false := decide_eq_false (by omega)
          have HY := Lib.hid hR2
          clear hR2
          go_wp2
          go_ret3
          rw [HY.out]
          refine ⟨ao, ac, us, mo, by dsimp only; rw [HX.out.2.2.2]; rfl, HX.out.1, HX.out.2.1⟩
        · obtain ⟨f, hf⟩ : ∃ f, k + 1 - j = f + 1 := ⟨k - j, by omega⟩
          have hgo2 := HX.out.2.2.1
          rw [hf, readGo, HX.out.2.2.2] at hgo2
          have hbd := oneR_bd ss at_ (ol + 1) least
          obtain ⟨r, hr⟩ : ∃ r, oneR ss at_ (ol + 1) least = r := ⟨_, rfl⟩
          rw [hr] at hgo2 hbd
          have hO := one_any wr lo k lc vs ss at_ (ol + 1) least (HS.out.1.upd HX.out.2.1 (by simp)) (HS.out.2.1.upd0 HX.out.2.1) HS.out.2.2.1 HS.out.2.2.2.1 hm2 (by omega) (by omega) hle
          rw [hr] at hO
          have hol1 : ((ol + 1 : Nat) : Int) = (ol : Int) + 1 := by omega
          rw [hol1] at hO
          obtain ⟨rb, rg, rn⟩ := r
          dsimp only at hgo2 hbd hO
          obtain ⟨rl, hrl⟩ : ∃ rl, rb.length = rl := ⟨_, rfl⟩
          rw [hrl] at hgo2
          have HG := Lib.hid (And.intro hgo2 (And.intro hbd (And.intro hrl (And.intro hO hf))))
          clear hgo2 hbd hrl hO hf hol1 hr
          go_wp2_with fail
          refine HG.out.2.2.2.1.mono ?_
          rintro e w1 ⟨ro, rc, rfl, h1, u1⟩
          dsimp only at h1 ⊢
          rw [HG.out.2.2.1] at h1 ⊢
          have hrn : rn ≤ 79 := HG.out.2.1.1
          have hrg : rg < 4294967296 := HG.out.2.1.2.2
          have H1 := Lib.hid (And.intro h1 u1)
          clear h1 u1
          rcases Decidable.em (rn = 0 ∨ 4096 < rl) with hstop | hmore
          · have hR2 : R = (out, at_) := by
              have h := HG.out.1
              rw [if_pos hstop] at h
              exact h.symm
            have HY := Lib.hid (And.intro hR2 (HX.out.2.1.trans H1.out.2 (by simp)))
            clear hR2
            have h2 : rn = 0 ∨ (rn ≠ 0 ∧ 4096 < rl) := by omega
            clear hstop
            rcases h2 with h | ⟨h, h2⟩
            · have hz : ((rn : Int) == 0) = true := by rw [beq_iff_eq]; omega
              clear h
              go_wp2
              go_ret3
              rw [HY.out.1]
              exact ⟨ao, ac, us, mo, by dsimp only; rw [HX.out.2.2.2]; rfl, HX.out.1.upd0 H1.out.2, HY.out.2⟩
            · have hz : ((rn : Int) == 0) = false := by rw [beq_eq_false_iff_ne]; omega
              clear h
              go_wp2
              go_ret3
              rw [HY.out.1]
              exact ⟨ao, ac, us, mo, by dsimp only; rw [HX.out.2.2.2]; rfl, HX.out.1.upd0 H1.out.2, HY.out.2⟩
          · have hz : ((rn : Int) == 0) = false := by rw [beq_eq_false_iff_ne]; omega
            have h4 : rl ≤ 4096 := by omega
            have hat2 : at_ + rn ≤ k := by have := HG.out.2.1.2.1; have := HS.out.2.2.2.1; omega
            have hgo2 := HG.out.1
            rw [if_neg hmore] at hgo2
            clear hmore
            have hU1 := HX.out.2.1.trans H1.out.2 (by simp)
            have hr3 := (HX.out.1.upd0 H1.out.2).upd0 ((Upd.refl [] w1).alloc (.cells #[.slice ro rl rc] 26))
            have hx3 : w1.ownsRow w.heap.size 5 1 (.slice ro rl rc) rl (rb.map bv) := own_base H1.out.1 (by have h1 := (own_lt H1.out.1).2; have h2 := HX.out.2.1.size; omega)
            have hx4 := own_upd hx3 ((Upd.refl [] w1).alloc (.cells #[.slice ro rl rc] 26)) (by simp)
            have hrow := hr3.row
            rw [HX.out.2.2.2] at hrow
            have hs3 := hU1.size
            have H4 := Lib.hid (And.intro hU1 (And.intro hr3 (And.intro hx4 (And.intro hrow (And.intro (Blk.new w1 #[.slice ro rl rc] 26).sl1 (And.intro hgo2 hs3))))))
            clear hU1 hr3 hx3 hx4 hrow hgo2 hs3
            go_wp2_with (at_builtin; refine wpList_app _ rfl (.tmp 52) (.tmp 54) 24 rfl w.heap.size 26 (.slice none 0 0) 1 24 Tryd.underlying24 info_bytes rfl (by decide) (.slice ao ol ac) ol us rfl H4.out.2.2.2.1 (.slice (some ⟨w1.heap.size, 0, none⟩) 1 1) 1 [.slice ro rl rc] rfl H4.out.2.2.2.2.1 (by simp [Value.oneCell']) (by omega) (by decide) (by have := H4.out.2.2.2.2.2.2; simp; omega) ?_)
            intro ao2 c2 w4 h4'
            have hrw := RowsAt.app (l := rb) H4.out.2.1 (by rw [HG.out.2.2.1]; exact H4.out.2.2.1) (by rw [HX.out.2.2.2]; exact h4')
            have hu4 : Upd [] w w4 := (H4.out.1.alloc _).trans h4'.upd (fun k' hk => by
              right
              have := own_lt H4.out.2.2.2.1
              rw [own_block] at hk
              split at hk
              · simp at hk
              · simp at hk; omega)
            have H5 := Lib.hid (And.intro hrw hu4)
            clear hrw hu4 h4'
            go_wp2
            go_roundw
            case rel => exact ⟨j + 1, at_ + rn, rg, out ++ [rb], _, by omega, by go_num, by go_num, rfl, hat2, hrg, by rw [List.length_append, HX.out.2.2.2]; simp; omega, ⟨ao2, c2, by rw [List.length_append, HX.out.2.2.2]; rfl⟩, H5.out.1, H5.out.2, by
              have := HG.out.2.2.2.2
              rw [show k + 1 - (j + 1) = f by omega]
              exact H4.out.2.2.2.2.2.1⟩
            case measure => simp [intOf]; omega
end Go.Proofs.YtnfnaedoejgpiaaDoor
