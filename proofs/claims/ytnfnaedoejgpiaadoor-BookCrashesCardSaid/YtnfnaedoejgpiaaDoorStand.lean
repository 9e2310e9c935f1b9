/- The record that stands at a sector. -/
import Derived.Test.YtnfnaedoejgpiaaDoorSects
import Derived.Deep.DeepCutAuto
namespace Go.Proofs.YtnfnaedoejgpiaaDoor
open Go.RowKit

theorem Upd.drewN {S : List Nat} {a w : World} (h : Upd S a w) (n : Nat) : Upd S a (w.drewN n) := ⟨h.os, h.tape, h.output, h.size, h.block⟩
/-- The record that the parts from place i on make; ([], 0, 0): none. -/
def standGo (num : Nat) : List (List UInt8) → Nat → List UInt8 → Nat → Nat → List UInt8 × Nat × Nat
  | [], _, _, _, _ => ([], 0, 0)
  | s :: ss, i, all, cnt, ls =>
    let r := readS s
    let ls' := if i = 0 then max ls r.1.g else ls
    let cnt' := if i = 0 then r.1.c else cnt
    if r.2 = true ∧ r.1.n = num ∧ r.1.i = i ∧ r.1.c = cnt' ∧ 1 ≤ r.1.c ∧ r.1.c ≤ 79 ∧ r.1.g = ls' ∧ (i + 1 = r.1.c ∨ r.1.x.length = 52) then
      if i + 1 = r.1.c then (all ++ r.1.x, r.1.g, r.1.c) else standGo num ss (i + 1) (all ++ r.1.x) cnt' ls'
    else ([], 0, 0)
def standS (ss : List (List UInt8)) (num least : Nat) : List UInt8 × Nat × Nat := standGo num ss 0 [] 0 least
theorem readS_lt (b : List UInt8) : (readS b).1.x.length ≤ 52 ∧ (readS b).1.n < 4294967296 ∧ (readS b).1.g < 4294967296 ∧ (readS b).1.i < 256 ∧ (readS b).1.c < 256 := by
  unfold readS labels
  dsimp only
  split
  · simp
  · rename_i h
    refine ⟨?_, num_lt _ 4 (by decide), num_lt _ 4 (by decide), num_lt' _ 1, num_lt' _ 1⟩
    dsimp only
    have := (raw_len ((((((InS.mk false b).num 4).2.num 4).2.num 1).2.num 1).2.num 2).2 ((((((InS.mk false b).num 4).2.num 4).2.num 1).2.num 1).2.num 2).1).2.2 (by omega)
    omega
/-- The slices vs read as the bytes ls. -/
def Reads (w : World) (vs : List Value) (ls : List (List UInt8)) : Prop := vs.length = ls.length ∧ ∀ i (h : i < vs.length) (h' : i < ls.length), Bytes w vs[i] ls[i]
theorem Reads.upd0 {w w' : World} {vs : List Value} {ls : List (List UInt8)} (h : Reads w vs ls) (hu : Upd [] w w') : Reads w' vs ls := ⟨h.1, fun i h1 h2 => (h.2 i h1 h2).upd hu (by simp)⟩
theorem Owns.reads {w : World} {B : Nat} {vs : List Value} {ls : List (List UInt8)} (h : Owns w B vs ls) : Reads w vs ls := ⟨h.1, fun i h1 h2 => own_sl (h.2 i h1 h2)⟩
theorem standGo_cons {num : Nat} {s : List UInt8} {ss : List (List UInt8)} {i : Nat} {all : List UInt8} {cnt ls ls' cnt' pn pg pi pk : Nat} {px : List UInt8} {ok g : Bool} (hp : (readS s).1 = ⟨pn, pg, pi, pk, px⟩) (hok : (readS s).2 = ok)
    (h1 : (if i = 0 then max ls pg else ls) = ls') (h2 : (if i = 0 then pk else cnt) = cnt') (hg : decide (ok = true ∧ pn = num ∧ pi = i ∧ pk = cnt' ∧ 1 ≤ pk ∧ pk ≤ 79 ∧ pg = ls' ∧ (i + 1 = pk ∨ px.length = 52)) = g) :
    standGo num (s :: ss) i all cnt ls = if g = true then (if i + 1 = pk then (all ++ px, pg, pk) else standGo num ss (i + 1) (all ++ px) cnt' ls') else ([], 0, 0) := by
  subst h1; subst h2; subst hg
  rw [standGo]
  simp only [hp, hok, decide_eq_true_eq]
def StandPost (W : World) (r : List UInt8 × Nat × Nat) (e : Ending) (w : World) : Prop :=
  ∃ ao c, e = .returned (.tuple #[.slice ao r.1.length c, .int .i64 r.2.1, .int .i64 r.2.2]) ∧ w.ownsRow W.heap.size 5 1 (.slice ao r.1.length c) r.1.length (r.1.map bv) ∧ Upd [] W w
def RelStand (W : World) (num : Nat) (ss : List (List UInt8)) (R : List UInt8 × Nat × Nat) (l a c i : Value) (w : World) : Prop :=
  ∃ (n : Nat) (all : List UInt8) (cnt ls : Nat), n ≤ ss.length ∧ i = .int .i64 n ∧ l = .int .i64 ls ∧ c = .int .i64 cnt ∧ ls < 4294967296 ∧ (∃ ao k, a = .slice ao all.length k) ∧ all.length ≤ 52 * n ∧ w.ownsRow W.heap.size 5 1 a all.length (all.map bv) ∧ Upd [] W w ∧ standGo num (ss.drop n) n all cnt ls = R
theorem stand_none (W w : World) (hu : Upd [] W w) : StandPost W ([], 0, 0) (.returned (.tuple #[.slice none 0 0, .int .i64 0, .int .i64 0])) w := ⟨none, 0, rfl, World.ownsRow_nil _ _ _ _, hu⟩
set_option maxRecDepth 4000 in
set_option maxHeartbeats 2000000 in
theorem stand_any (w : World) (po : Option Addr) (pc : Nat) (vs : List Value) (ss : List (List UInt8)) (num least : Nat) (hv : Sl w (.slice po ss.length pc) ss.length 1 vs) (hP : Reads w vs ss) (h64 : ∀ s ∈ ss, s.length = 64) (hm : ss.length ≤ 8192) (hl : least < 4294967296) (hn : num < 4294967296) :
    Calls Tryd.prog 27 #[.slice po ss.length pc, .int .i64 num, .int .i64 least] w (StandPost w (standS ss num least)) := by
  obtain ⟨R, hR⟩ : ∃ R, standS ss num least = R := ⟨_, rfl⟩
  rw [hR]
  have HS := Lib.hid (And.intro hv (And.intro hP (And.intro h64 hR)))
  clear hv hP h64 hR
  go_enter Tryd.func27, Tryd.ntmps27
  go_wp2_with fail
  go_loopw [2, 9, 10, 18] (RelStand w num ss R) (fun _ _ _ i _ => ((ss.length : Int) - intOf i).toNat)
  case atStart => exact ⟨0, [], 0, least, Nat.zero_le _, rfl, rfl, rfl, hl, ⟨none, 0, rfl⟩, by simp, World.ownsRow_nil _ _ _ _, Upd.refl _ _, HS.out.2.2.2⟩
  case round =>
    obtain ⟨n, all, cnt, ls, hn, rfl, rfl, rfl, hls, ⟨ao, k, rfl⟩, hal, hown, hu, hgo⟩ := hrel
    rcases Nat.lt_or_ge n ss.length with hlt | hge
    · have hvl : vs.length = ss.length := HS.out.2.1.1
      obtain ⟨b, o, hpo, hb, hc⟩ := Sl.addr HS.out.1 (by omega)
      subst hpo
      have hcn : wr.cell? ⟨b, o + n, none⟩ = some (vs[n]'(by omega)) := by
        rw [World.cell?_of_block (hu.block b hb (by simp))]
        exact hc n _ (by simp [hvl, hlt])
      have hrd := (HS.out.2.1.2 n (by omega) hlt).upd hu (by simp)
      have hdr : ss.drop n = ss[n] :: ss.drop (n + 1) := List.drop_eq_getElem_cons hlt
      have h64 := HS.out.2.2.1 ss[n] (List.getElem_mem _)
      rw [hdr] at hgo
      have hrl := readS_lt ss[n]
      have HX := Lib.hid (And.intro hrd (And.intro h64 (And.intro hgo (And.intro hown hu))))
      clear hrd h64 hgo hown hu hdr hc
      generalize vs[n]'(by omega) = x at *
      generalize ss[n] = s at *
      go_wp2_with fail
      refine (readPart_any wr x s HX.out.1 (by have := HX.out.2.1; omega)).mono ?_
      rintro e w1 ⟨ao1, c1, rfl, h1, h2⟩
      have H1 := Lib.hid (And.intro h1 h2)
      clear h1 h2
      have hpl := hrl.1
      obtain ⟨p, hp⟩ : ∃ p, (readS s).1 = p := ⟨_, rfl⟩
      obtain ⟨ok, hok⟩ : ∃ ok, (readS s).2 = ok := ⟨_, rfl⟩
      have HP := Lib.hid (And.intro hp hok)
      rw [hp] at H1 hrl hpl
      rw [hp, hok]
      clear hp hok
      obtain ⟨pn, pg, pi, pk, px⟩ := p
      dsimp only at H1 hrl hpl ⊢
      unfold partCells
      have hr2 := hrl.2.1
      have hr3 := hrl.2.2.1
      have hr4 := hrl.2.2.2.1
      have hr5 := hrl.2.2.2.2
      clear hrl
      go_upto_if 29 with (fail)
      obtain ⟨q, hq⟩ : ∃ q, w1.heap.size = q := ⟨_, rfl⟩
      obtain ⟨w2, hw2⟩ : ∃ w2, w1.alloc (.cells #[.int .i64 pn, .int .i64 pg, .int .i64 pi, .int .i64 pk, .slice ao1 px.length c1] 85) = w2 := ⟨_, rfl⟩
      have B2 : Blk w2 q #[.int .i64 pn, .int .i64 pg, .int .i64 pi, .int .i64 pk, .slice ao1 px.length c1] 85 := by rw [← hw2]; exact Blk.newAt hq.symm _ _
      have U2 : Upd [] w1 w2 := by rw [← hw2]; exact (Upd.refl [] w1).alloc _
      rw [hw2, hq]
      have d0 := B2.cell (i := 0) rfl
      have d1 := B2.cell (i := 1) rfl
      have d2 := B2.cell (i := 2) rfl
      have d3 := B2.cell (i := 3) rfl
      have d4 := B2.cell (i := 4) rfl
      have H2 := Lib.hid (And.intro B2 (And.intro U2 hq))
      clear B2 U2 hq hw2
      obtain ⟨ls', hls'⟩ : ∃ ls', (if n = 0 then max ls pg else ls) = ls' := ⟨_, rfl⟩
      obtain ⟨cnt', hcnt'⟩ : ∃ cnt', (if n = 0 then pk else cnt) = cnt' := ⟨_, rfl⟩
      have hls2 : ls' < 4294967296 := by rw [← hls']; split <;> omega
      have HC := Lib.hid (And.intro hls' hcnt')
      clear hls' hcnt'
      go_cut [2, 10, 18] (fun l c i wx => l = .int .i64 ls' ∧ c = .int .i64 cnt' ∧ i = .int .i64 n ∧ w2 = wx)
      case first =>
        rcases Nat.eq_zero_or_pos n with h0 | h0
        · have h0i : ((n : Int) == 0) = true := by rw [beq_iff_eq]; omega
          have e1 : max ls pg = ls' := by rw [← HC.out.1, if_pos h0]
          have e2 : pk = cnt' := by rw [← HC.out.2, if_pos h0]
          have E := Lib.hid (And.intro e1 e2)
          clear h0 e1 e2
          go_wp2
          all_goals
            go_meet
            case rel => exact ⟨by rw [← E.out.1]; congr 1; omega, by rw [← E.out.2], rfl, rfl⟩
        · have h0i : ((n : Int) == 0) = false := by rw [beq_eq_false_iff_ne]; omega
          have e1 : ls = ls' := by rw [← HC.out.1, if_neg (by omega)]
          have e2 : cnt = cnt' := by rw [← HC.out.2, if_neg (by omega)]
          have E := Lib.hid (And.intro e1 e2)
          clear h0 e1 e2
          go_wp2
          go_meet
          case rel => exact ⟨by rw [← E.out.1], by rw [← E.out.2], rfl, rfl⟩
      case rest =>
        obtain ⟨rfl, rfl, rfl, rfl⟩ := hcut
        have hn1 : n + 1 ≤ 8192 := by omega
        obtain ⟨lastB, hlast⟩ : ∃ b : Bool, decide (n + 1 = pk) = b := ⟨_, rfl⟩
        have HL := Lib.hid hlast
        have hlast' : ((n : Int) + 1 == (pk : Int)) = lastB := by rw [← hlast]; by_cases h : n + 1 = pk <;> simp [h] <;> omega
        clear hlast
        go_upto_region 11 with (fail)
        obtain ⟨good, hgood⟩ : ∃ g : Bool, decide (ok = true ∧ pn = num ∧ pi = n ∧ pk = cnt' ∧ 1 ≤ pk ∧ pk ≤ 79 ∧ pg = ls' ∧ (n + 1 = pk ∨ px.length = 52)) = g := ⟨_, rfl⟩
        have HG := Lib.hid hgood
        clear hgood
        go_cut [18, 95] (fun i g wx => i = .int .i64 n ∧ g = .bool (!good) ∧ w2 = wx)
        case first =>
          have leafB : ¬ (ok = true ∧ pn = num ∧ pi = n ∧ pk = cnt' ∧ 1 ≤ pk ∧ pk ≤ 79 ∧ pg = ls' ∧ (n + 1 = pk ∨ px.length = 52)) → Value.bool true = .bool (!good) := fun h => by rw [← HG.out, decide_eq_false h]; rfl
          have LB := Lib.hid leafB
          clear leafB
          cases ok with
          | false =>
            go_wp2
            go_meet
            case rel => exact ⟨rfl, LB.out (by simp), rfl⟩
          | true =>
            by_cases k1 : pn = num
            rotate_left
            · have b1 : ((pn : Int) != (num : Int)) = true := by rw [bne_iff_ne]; omega
              have K := Lib.hid k1
              clear k1
              go_wp2
              go_meet
              case rel => exact ⟨rfl, LB.out (by simp [K.out]), rfl⟩
            have bk1 : ((pn : Int) != (num : Int)) = false := by rw [bne_eq_false_iff_eq]; omega
            have Kk1 := Lib.hid k1
            clear k1
            by_cases k2 : pi = n
            rotate_left
            · have b1 : ((pi : Int) != (n : Int)) = true := by rw [bne_iff_ne]; omega
              have K := Lib.hid k2
              clear k2
              go_wp2
              go_meet
              case rel => exact ⟨rfl, LB.out (by simp [K.out]), rfl⟩
            have bk2 : ((pi : Int) != (n : Int)) = false := by rw [bne_eq_false_iff_eq]; omega
            have Kk2 := Lib.hid k2
            clear k2
            by_cases k3 : pk = cnt'
            rotate_left
            · have b1 : ((pk : Int) != (cnt' : Int)) = true := by rw [bne_iff_ne]; omega
              have K := Lib.hid k3
              clear k3
              go_wp2
              go_meet
              case rel => exact ⟨rfl, LB.out (by simp [K.out]), rfl⟩
            have bk3 : ((pk : Int) != (cnt' : Int)) = false := by rw [bne_eq_false_iff_eq]; omega
            have Kk3 := Lib.hid k3
            clear k3
            by_cases k4 : 1 ≤ pk
            rotate_left
            · have b1 : decide ((pk : Int) < 1) = true := by rw [decide_eq_true_eq]; omega
              have K := Lib.hid k4
              clear k4
              go_wp2
              go_meet
              case rel => exact ⟨rfl, LB.out (by simp [K.out]), rfl⟩
            have bk4 : decide ((pk : Int) < 1) = false := by rw [decide_eq_false_iff_not]; omega
            have Kk4 := Lib.hid k4
            clear k4
            by_cases k5 : pk ≤ 79
            rotate_left
            · have b1 : decide ((79 : Int) < (pk : Int)) = true := by rw [decide_eq_true_eq]; omega
              have K := Lib.hid k5
              clear k5
              go_wp2
              go_meet
              case rel => exact ⟨rfl, LB.out (by simp [K.out]), rfl⟩
            have bk5 : decide ((79 : Int) < (pk : Int)) = false := by rw [decide_eq_false_iff_not]; omega
            have Kk5 := Lib.hid k5
            clear k5
            by_cases k6 : pg = ls'
            rotate_left
            · have b1 : ((pg : Int) != (ls' : Int)) = true := by rw [bne_iff_ne]; omega
              have K := Lib.hid k6
              clear k6
              go_wp2
              go_meet
              case rel => exact ⟨rfl, LB.out (by simp [K.out]), rfl⟩
            have bk6 : ((pg : Int) != (ls' : Int)) = false := by rw [bne_eq_false_iff_eq]; omega
            have Kk6 := Lib.hid k6
            clear k6
            have KA := Lib.hid (And.intro Kk1.out (And.intro Kk2.out (And.intro Kk3.out (And.intro Kk4.out (And.intro Kk5.out Kk6.out)))))
            clear Kk1 Kk2 Kk3 Kk4 Kk5 Kk6
            cases lastB with
            | true =>
              have hl := of_decide_eq_true HL.out
              have hg : good = true := by rw [← HG.out]; exact decide_eq_true ⟨rfl, KA.out.1, KA.out.2.1, KA.out.2.2.1, KA.out.2.2.2.1, KA.out.2.2.2.2.1, KA.out.2.2.2.2.2, .inl hl⟩
              have G := Lib.hid hg
              clear hg hl
              go_wp2
              go_meet
              case rel => exact ⟨rfl, by rw [G.out]; rfl, rfl⟩
            | false =>
              have hl := of_decide_eq_false HL.out
              have hg : good = decide (px.length = 52) := by rw [← HG.out]; exact decide_eq_decide.2 ⟨fun h => h.2.2.2.2.2.2.2.resolve_left hl, fun h => ⟨rfl, KA.out.1, KA.out.2.1, KA.out.2.2.1, KA.out.2.2.2.1, KA.out.2.2.2.2.1, KA.out.2.2.2.2.2, .inr h⟩⟩
              have G := Lib.hid hg
              clear hg hl
              obtain ⟨b8, hb8⟩ : ∃ b, decide (px.length = 52) = b := ⟨_, rfl⟩
              have b9 : ((px.length : Int) != 52) = !b8 := by rw [← hb8]; by_cases h : px.length = 52 <;> simp [h] <;> omega
              have G8 := Lib.hid hb8
              clear hb8
              go_wp2
              go_meet
              case rel => exact ⟨rfl, by rw [G.out, G8.out], rfl⟩
        case rest =>
          obtain ⟨rfl, rfl, rfl⟩ := hcut
          have hR := standGo_cons (ss := ss.drop (n + 1)) (all := all) HP.out.1 HP.out.2 HC.out.1 HC.out.2 HG.out
          rw [HX.out.2.2.1] at hR
          have hU : Upd [] w w2 := (HX.out.2.2.2.2.trans H1.out.2 (by simp)).trans H2.out.2.1 (by simp)
          cases good with
          | false =>
            have hR2 : R = ([], 0, 0) := hR
            clear hR
            have HZ := Lib.hid (And.intro hR2 hU)
            clear hR2 hU
            go_wp2
            go_ret3
            rw [HZ.out.1]
            exact stand_none w w2 HZ.out.2
          | true =>
            rw [if_pos rfl] at hR
            have hown := own_upd HX.out.2.2.2.1 (H1.out.2.trans H2.out.2.1 (by simp)) (by simp)
            have hpx : Bytes w2 (.slice ao1 px.length c1) px := (own_sl H1.out.1).upd H2.out.2.1 (by simp)
            have hsz := hU.size
            have HA := Lib.hid (And.intro hown (And.intro hpx (And.intro hU (And.intro hsz hR))))
            clear hown hpx hU hsz hR
            go_wp2_with (at_builtin; refine wpList_app _ rfl (.tmp 96) (.tmp 98) 26 rfl w.heap.size 5 (.int .u8 0) 1 1 Tryd.underlying26 info_byte rfl (by decide) (.slice ao all.length k) all.length (all.map bv) rfl HA.out.1 (.slice ao1 px.length c1) px.length (px.map bv) rfl HA.out.2.1 (bv_one px) (by omega) (by decide) HA.out.2.2.2.1 ?_)
            intro ao4 c4 w4 h4
            have hu4 : Upd [] w w4 := HA.out.2.2.1.trans h4.upd (fun k hk => by
              right
              have := own_lt HA.out.1
              rw [own_block] at hk
              split at hk
              · simp at hk
              · simp at hk; omega)
            have hB4 := h4.keeps H2.out.1 (own_ne HA.out.1 H2.out.1 (by decide))
            have e1 := hB4.cell (i := 1) rfl
            have e3 := hB4.cell (i := 3) rfl
            have ho4 := h4.own
            rw [← List.map_append] at ho4
            have H4 := Lib.hid (And.intro hu4 (And.intro ho4 hB4))
            clear hu4 ho4 hB4 h4 d0 d1 d2 d3 d4
            cases lastB with
            | true =>
              have hl := of_decide_eq_true HL.out
              have hR := HA.out.2.2.2.2
              rw [if_pos hl] at hR
              have HZ := Lib.hid hR
              clear hR hl
              go_wp2
              go_quiet (fail)
              go_wp2
              go_ret3
              rw [HZ.out]
              have ud := Upd.drewN (Upd.refl [] w4)
              refine ⟨ao4, c4, by simp, ?_, H4.out.1.trans (ud _) (by simp)⟩
              have := own_upd H4.out.2.1 (ud nq) (by simp)
              simpa using this
            | false =>
              have hl := of_decide_eq_false HL.out
              have hR := HA.out.2.2.2.2
              rw [if_neg hl] at hR
              have HZ := Lib.hid hR
              clear hR hl
              go_wp2
              go_roundw
              case rel => exact ⟨n + 1, all ++ px, cnt', ls', by omega, by go_num, rfl, rfl, hls2, ⟨ao4, c4, by simp⟩, by simp; omega, by simpa using H4.out.2.1, H4.out.1, HZ.out.symm⟩
              case measure => simp [intOf]; omega
    · obtain rfl : n = ss.length := by omega
      have hR : R = ([], 0, 0) := by rw [← hgo]; simp [standGo]
      have HZ := Lib.hid (And.intro hR hu)
      clear hR hgo hu
      go_wp2
      go_ret3
      rw [HZ.out.1]
      exact stand_none w wr HZ.out.2
end Go.Proofs.YtnfnaedoejgpiaaDoor
