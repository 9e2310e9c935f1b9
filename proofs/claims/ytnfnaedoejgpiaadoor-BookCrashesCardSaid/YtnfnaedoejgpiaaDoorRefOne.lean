/- The record that stands at a sector, by the reference. -/
import Derived.Test.YtnfnaedoejgpiaaDoorRefRead
import Derived.Test.YtnfnaedoejgpiaaDoorRefPart
import Derived.Test.YtnfnaedoejgpiaaDoorOpen
import Derived.Test.YtnfnaedoejgpiaaDoorRefSame
import Derived.Test.YtnfnaedoejgpiaaDoorCut
import Derived.Stop.BytesEq
namespace Go.Proofs.YtnfnaedoejgpiaaDoor
open Go.RowKit

def RelOne (W : World) (ss : List (List UInt8)) (at_ n g ct : Nat) (R : Option (List UInt8)) (a i : Value) (w : World) : Prop :=
  ∃ (k : Nat) (all : List UInt8), k ≤ ct ∧ i = .int .i64 k ∧ (∃ ao c, a = .slice ao all.length c) ∧ all.length ≤ 52 * k ∧ w.ownsRow W.heap.size 5 1 a all.length (all.map bv) ∧ Upd [] W w ∧ oneGo ss at_ n g ct (ct - k) k all = R
theorem numB_lt (b : List UInt8) : numB b < 4294967296 := by
  unfold numB
  have h0 := (b.getD 0 0).toNat_lt
  have h1 := (b.getD 1 0).toNat_lt
  have h2 := (b.getD 2 0).toNat_lt
  have h3 := (b.getD 3 0).toNat_lt
  omega
/-- The i-th slice of a row, and its bytes. -/
theorem Reads.at {w : World} {lo : Option Addr} {m lc : Nat} {vs : List Value} {ss : List (List UInt8)} (hv : Sl w (.slice lo m lc) m 1 vs) (hP : Reads w vs ss) (h64 : ∀ s ∈ ss, s.length = 64) (hm : ss.length = m) {i : Nat} (hi : i < m) :
    ∃ b o, lo = some ⟨b, o, none⟩ ∧ b < w.heap.size ∧ ∃ sb so sc, 64 ≤ sc ∧ sc ≤ maxLen ∧ sb < w.heap.size ∧ w.cell? ⟨b, o + i, none⟩ = some (.slice (some ⟨sb, so, none⟩) 64 sc) ∧ Bytes w (.slice (some ⟨sb, so, none⟩) 64 sc) (ss.getD i []) ∧ (ss.getD i []).length = 64 := by
  obtain ⟨b, o, hlo, hb, hc⟩ := Sl.addr hv (by omega)
  refine ⟨b, o, hlo, hb, ?_⟩
  have hi1 : i < vs.length := by rw [hP.1]; omega
  have hi2 : i < ss.length := by omega
  have hr := hP.2 i hi1 hi2
  have hl := h64 ss[i] (List.getElem_mem hi2)
  have e : ss.getD i [] = ss[i] := by rw [List.getD_eq_getElem?_getD, List.getElem?_eq_getElem hi2, Option.getD_some]
  have hcell := hc i vs[i] (List.getElem?_eq_getElem hi1)
  rw [e]
  obtain ⟨ao, c, hvv, h1, h2, _, _, _⟩ := id hr
  rw [hl] at hvv h1
  obtain ⟨sb, so, hs, hsb, _⟩ := Sl.addr (m := 64) (ao := ao) (c := c) (by have := hr; unfold Bytes at this; rw [hvv, hl] at this; exact this) (by omega)
  refine ⟨sb, so, c, h1, h2, hsb, ?_, ?_, hl⟩
  · rw [hcell, hvv, hs]
  · rw [← hs, ← hvv]; exact hr
theorem byte_at {w : World} {sb so n sc : Nat} {s : List UInt8} (h : Bytes w (.slice (some ⟨sb, so, none⟩) n sc) s) (hl : s.length = n) {i : Nat} (hi : i < n) : w.cell? ⟨sb, so + i, none⟩ = some (.int .u8 ((s.getD i 0).toNat : Int)) := by
  obtain ⟨b, o, he, -, hc⟩ := Sl.addr (m := n) (size := 1) (by have := h; unfold Bytes at this; rw [hl] at this; exact this) (by omega)
  simp only [Option.some.injEq, Addr.mk.injEq, and_true] at he
  obtain ⟨rfl, rfl⟩ := he
  refine hc i _ ?_
  have : i < s.length := by omega
  rw [List.getElem?_map, List.getD_eq_getElem?_getD, List.getElem?_eq_getElem this]; rfl
set_option maxRecDepth 4000 in
set_option maxHeartbeats 4000000 in
theorem one_any (w : World) (lo : Option Addr) (m lc : Nat) (vs : List Value) (ss : List (List UInt8)) (at_ n least : Nat) (hv : Sl w (.slice lo m lc) m 1 vs) (hP : Reads w vs ss) (h64 : ∀ s ∈ ss, s.length = 64) (hm : ss.length = m) (hm2 : m ≤ 8192) (ha : at_ ≤ 10000) (hn : n ≤ 100000) (hle : least < 4294967296) :
    Calls Tryd.prog 33 #[.slice lo m lc, .int .i64 at_, .int .i64 n, .int .i64 least] w (StandPost w (oneR ss at_ n least)) := by
  obtain ⟨R, hR⟩ : ∃ R, oneR ss at_ n least = R := ⟨_, rfl⟩
  rw [hR]
  have HS := Lib.hid (And.intro hv (And.intro hP (And.intro h64 (And.intro hm hR))))
  clear hv hP h64 hm hR
  rcases Nat.lt_or_ge at_ m with hlt | hge
  · have hR := HS.out.2.2.2.2
    unfold oneR at hR
    rw [if_neg (by have := HS.out.2.2.2.1; omega)] at hR
    obtain ⟨b, o, hlo, hb, sb, so, sc, hsc, hsm, hsb, hc, hby, hl⟩ := Reads.at HS.out.1 HS.out.2.1 HS.out.2.2.1 HS.out.2.2.2.1 hlt
    subst hlo
    have hc9 := byte_at hby hl (i := 9) (by omega)
    have hct := ((ss.getD at_ []).getD 9 0).toNat_lt
    have hg := numB_lt ((ss.getD at_ []).drop 4)
    dsimp only at hR
    obtain ⟨s, hs⟩ : ∃ s, ss.getD at_ [] = s := ⟨_, rfl⟩
    rw [hs] at hby hl hc9 hct hg hR
    obtain ⟨ct, hcte⟩ : ∃ ct, (s.getD 9 0).toNat = ct := ⟨_, rfl⟩
    rw [hcte] at hc9 hct hR
    replace hct : ct < 256 := hct
    have hsc4 : ¬ sc = 4 := by omega
    have hsc2 : (4 : Int) ≤ (sc : Int) := by omega
    have hby4 : Bytes w (.slice (some ⟨sb, so + 4, none⟩) 60 (sc - 4)) (s.drop 4) := by
      have := bytes_drop (m := 4) (A := some ⟨sb, so + 4, none⟩) (c := sc) (ao := some ⟨sb, so, none⟩) (l := s) (by rw [hl]; exact hby) (by omega) (fun _ => by simp [Addr.add_lit])
      rw [hl] at this; exact this
    obtain ⟨g, hge⟩ : ∃ g, numB (s.drop 4) = g := ⟨_, rfl⟩
    have HX := Lib.hid (And.intro hR (And.intro hby (And.intro hl (And.intro hs (And.intro hcte (And.intro hby4 hge))))))
    rw [hge] at hg
    have S0 : w.drew.cell? ⟨b, o + at_, none⟩ = some (.slice (some ⟨sb, so, none⟩) 64 sc) ∧ w.drew.cell? ⟨sb, so + 9, none⟩ = some (.int .u8 (ct : Int)) := ⟨hc, hc9⟩
    clear hR hby hl hs hcte hc hc9 hby4 hge
    go_enter Tryd.func33, Tryd.ntmps33
    go_upto_region 3 with (fail)
    refine wp_region_ord (S := fun w => w.cell? ⟨b, o + at_, none⟩ = some (.slice (some ⟨sb, so, none⟩) 64 sc) ∧ w.cell? ⟨sb, so + 9, none⟩ = some (.int .u8 (ct : Int))) (.take 0 (.take 1 (.take 2 (.take 3 (.take 4 (.take 5 (.take 6 (.take 7 (.take 8 (.take 9 (.take 10 (.take 11 (.act 12 (.take 13 (.take 14 .done))))))))))))))) (by kernel_rfl) (by kernel_rfl) (fun _ _ d _ _ h => by cases d <;> exact h) ?_
    iterate 12 (refine ord_ex rfl rfl S0 ?_; apply Exists.intro; refine ⟨fun _ _ => ?_, ?_⟩; (focus (rename_i w hw; have c1 := hw.1; have c2 := hw.2; go_simp; rfl)); simp only [Act.put, List.setIfInBounds_toArray, List.set_cons_zero, List.set_cons_succ, List.getElem_toArray, List.getElem_cons_succ, List.getElem_cons_zero])
    refine ord_act rfl ?_
    go_wp2_with fail
    refine (number_any w.drew (some ⟨sb, so + 4, none⟩) 60 (sc - 4) (s.drop 4) (HX.out.2.2.2.2.2.1.upd (Upd.refl [] w).drew (by simp)) (by have := HX.out.2.2.1; simp; omega) (by omega)).mono ?_
    rintro e w1 ⟨rfl, u1⟩
    rw [HX.out.2.2.2.2.2.2]
    have S1 : w1.cell? ⟨b, o + at_, none⟩ = some (.slice (some ⟨sb, so, none⟩) 64 sc) ∧ w1.cell? ⟨sb, so + 9, none⟩ = some (.int .u8 (ct : Int)) := ⟨cell_upd S0.1 (by exact hb) u1 (by simp), cell_upd S0.2 (by exact hsb) u1 (by simp)⟩
    have U1 : Upd [] w w1 := (Upd.refl [] w).drew.trans u1 (by simp)
    go_wp2_with fail
    refine ⟨fun _ => S1, ?_⟩
    iterate 2 (refine ord_ex rfl rfl S1 ?_; apply Exists.intro; refine ⟨fun _ _ => ?_, ?_⟩; (focus (rename_i w hw; skip; go_simp; rfl)); simp only [Act.put, List.setIfInBounds_toArray, List.set_cons_zero, List.set_cons_succ, List.getElem_toArray, List.getElem_cons_succ, List.getElem_cons_zero])
    show Exit.then _ _ Exit.normal _ _
    clear S0 S1 u1
    rcases Decidable.em (ct < 1 ∨ 79 < ct ∨ m < at_ + ct ∨ g < least) with hbad | hgood
    · have hR2 : R = ([], 0, 0) := by
        have h := HX.out.1
        rw [HX.out.2.2.2.2.2.2, HS.out.2.2.2.1, if_pos hbad] at h
        exact h.symm
      have HZ := Lib.hid (And.intro hR2 U1)
      clear hR2 U1
      have h4 : (ct < 1) ∨ (1 ≤ ct ∧ 79 < ct) ∨ (1 ≤ ct ∧ ct ≤ 79 ∧ m < at_ + ct) ∨ (1 ≤ ct ∧ ct ≤ 79 ∧ at_ + ct ≤ m ∧ g < least) := by omega
      clear hbad
      rcases h4 with h | ⟨h0, h⟩ | ⟨h0, h1, h⟩ | ⟨h0, h1, h2, h⟩
      all_goals
        go_wp2
        go_ret3
        rw [HZ.out.1]
        exact stand_none w _ HZ.out.2
    · have h0 : 1 ≤ ct := by omega
      have h1 : ct ≤ 79 := by omega
      have h2 : at_ + ct ≤ m := by omega
      have h3 : least ≤ g := by omega
      obtain ⟨R2, hR2⟩ : ∃ R2, oneGo ss at_ n g ct ct 0 [] = R2 := ⟨_, rfl⟩
      have hR3 : oneEnd g ct R2 = R := by
        have h := HX.out.1
        rw [HX.out.2.2.2.2.2.2, HS.out.2.2.2.1, if_neg hgood, hR2] at h
        exact h
      have HZ := Lib.hid (And.intro hR3 (And.intro U1 hR2))
      clear hR3 U1 hR2 hgood
      have d1 : decide ((ct : Int) < 1) = false := decide_eq_false (by omega)
      have d2 : decide ((79 : Int) < (ct : Int)) = false := decide_eq_false (by omega)
      have d3 : decide ((m : Int) < (at_ : Int) + (ct : Int)) = false := decide_eq_false (by omega)
      have d4 : decide ((g : Int) < (least : Int)) = false := decide_eq_false (by omega)
      have d5 : decide (g < least) = false := decide_eq_false (by omega)
      go_wp2_with fail
      clear d1 d2 d3 d4 d5
      go_loopw [13, 14] (RelOne w ss at_ n g ct R2) (fun _ i _ => ((ct : Int) - intOf i).toNat)
      case atStart => exact ⟨0, [], by omega, rfl, ⟨none, 0, rfl⟩, by simp, World.ownsRow_nil _ _ _ _, HZ.out.2.1, HZ.out.2.2⟩
      case round =>
        obtain ⟨k, all, hk, rfl, ⟨ao, ac, rfl⟩, hall, hown, hu, hgo⟩ := hrel
        rcases Nat.lt_or_ge k ct with hlt | hge
        · obtain ⟨b', o', hlo, hb', tb, to_, tc, htc, htm, htb, hcc, htby, htl⟩ := Reads.at HS.out.1 HS.out.2.1 HS.out.2.2.1 HS.out.2.2.2.1 (i := at_ + k) (by omega)
          simp only [Option.some.injEq, Addr.mk.injEq, and_true] at hlo
          obtain ⟨rfl, rfl⟩ := hlo
          have hcw : wr.cell? ⟨b, o + (at_ + k), none⟩ = some (.slice (some ⟨tb, to_, none⟩) 64 tc) := cell_upd hcc hb' hu (by simp)
          have hbw := htby.upd hu (by simp)
          obtain ⟨x, hx⟩ : ∃ x, ss.getD (at_ + k) [] = x := ⟨_, rfl⟩
          rw [hx] at hbw htl
          have c10 := byte_at hbw htl (i := 10) (by omega)
          have c11 := byte_at hbw htl (i := 11) (by omega)
          have l10 := (x.getD 10 0).toNat_lt
          have l11 := (x.getD 11 0).toNat_lt
          obtain ⟨f, hf⟩ : ∃ f, ct - k = f + 1 := ⟨ct - k - 1, by omega⟩
          rw [hf, oneGo, hx] at hgo
          have hsz : sizR x = (x.getD 10 0).toNat * 256 + (x.getD 11 0).toNat := rfl
          generalize (x.getD 10 0).toNat = y10 at *
          generalize (x.getD 11 0).toNat = y11 at *
          replace l10 : y10 < 256 := l10
          replace l11 : y11 < 256 := l11
          obtain ⟨sz, hsze⟩ : ∃ sz, y10 * 256 + y11 = sz := ⟨_, rfl⟩
          rw [hsz, hsze] at hgo
          have W0 : IntKind.i64.wrap (y10 : Int) = (y10 : Int) := wrapL (by omega) (by omega)
          have W1 : IntKind.i64.wrap (y11 : Int) = (y11 : Int) := wrapL (by omega) (by omega)
          have W2 : IntKind.i64.wrap ((y10 : Int) * 256) = (y10 : Int) * 256 := wrapL (by omega) (by omega)
          have W3 : IntKind.i64.wrap ((y10 : Int) * 256 + (y11 : Int)) = (sz : Int) := by rw [wrapL (by omega) (by omega)]; omega
          have hszl : sz < 70000 := by omega
          have HW := Lib.hid (And.intro W0 (And.intro W1 (And.intro W2 W3)))
          have HK := Lib.hid (And.intro hbw (And.intro htl (And.intro hgo (And.intro hf (And.intro hown (And.intro hu (And.intro hx hsz)))))))
          clear W0 W1 W2 W3 hbw htl hgo hf hown hu hx hsz hsze hcc htby
          go_upto_region 11 with (fail)
          have S0 : wr.drew.cell? ⟨tb, to_ + 10, none⟩ = some (.int .u8 (y10 : Int)) ∧ wr.drew.cell? ⟨tb, to_ + 11, none⟩ = some (.int .u8 (y11 : Int)) := ⟨c10, c11⟩
          refine wp_region_ord (S := fun w => w.cell? ⟨tb, to_ + 10, none⟩ = some (.int .u8 (y10 : Int)) ∧ w.cell? ⟨tb, to_ + 11, none⟩ = some (.int .u8 (y11 : Int))) (.take 0 (.take 1 (.take 2 (.take 3 (.take 4 (.take 5 (.take 6 (.take 7 (.take 8 (.take 9 (.take 10 .done))))))))))) (by kernel_rfl) (by kernel_rfl) (fun _ _ d _ _ h => by cases d <;> exact h) ?_
          iterate 3 (refine ord_ex rfl rfl S0 ?_; apply Exists.intro; refine ⟨fun _ _ => ?_, ?_⟩; (focus (rename_i w hw; have c1 := hw.1; have c2 := hw.2; go_simp; rfl)); simp only [Act.put, List.setIfInBounds_toArray, List.set_cons_zero, List.set_cons_succ, List.getElem_toArray, List.getElem_cons_succ, List.getElem_cons_zero])
          have W0 := HW.out.1
          have W1 := HW.out.2.1
          have W2 := HW.out.2.2.1
          have W3 := HW.out.2.2.2
          iterate 8 (refine ord_ex rfl rfl S0 ?_; apply Exists.intro; refine ⟨fun _ _ => ?_, ?_⟩; (focus (rename_i w hw; have c1 := hw.1; have c2 := hw.2; go_simp; rfl)); simp only [Act.put, List.setIfInBounds_toArray, List.set_cons_zero, List.set_cons_succ, List.getElem_toArray, List.getElem_cons_succ, List.getElem_cons_zero])
          first | (show Exit.inBlock _ _ Exit.normal _ _) | (show Exit.then _ _ Exit.normal _ _)
          clear W0 W1 W2 W3 S0 c10 c11
          rcases Decidable.em (52 < sz ∨ (k + 1 < ct ∧ sz ≠ 52)) with hbad | hgood
          · have hR2 : R = ([], 0, 0) := by
              have h := HK.out.2.2.1
              rw [if_pos hbad] at h
              have h2 := HZ.out.1
              rw [← h] at h2
              exact h2.symm
            have HY := Lib.hid (And.intro hR2 (HK.out.2.2.2.2.2.1.drew))
            clear hR2
            have h4 : (52 < sz) ∨ (sz ≤ 52 ∧ k + 1 < ct ∧ sz ≠ 52) := by omega
            clear hbad
            rcases h4 with h | ⟨h5, h6, h⟩
            · go_wp2
              go_ret3
              rw [HY.out.1]
              exact stand_none w _ HY.out.2
            · have hne : ((sz : Int) != 52) = true := by rw [bne_iff_ne]; omega
              clear h
              go_wp2
              go_ret3
              rw [HY.out.1]
              exact stand_none w _ HY.out.2
          · have hs52 : sz ≤ 52 := by omega
            have hl52 : ¬ (k + 1 < ct ∧ sz ≠ 52) := by omega
            have hgo := HK.out.2.2.1
            rw [if_neg hgood] at hgo
            have HG := Lib.hid hgo
            clear hgo hgood
            obtain ⟨w0, hw0⟩ : ∃ x : World, x = wr.drew := ⟨_, rfl⟩
            have U0 : Upd [] w w0 := by rw [hw0]; exact HK.out.2.2.2.2.2.1.drew
            have B0 : Bytes w0 (.slice (some ⟨tb, to_, none⟩) 64 tc) x := by rw [hw0]; exact HK.out.1.upd (Upd.refl [] wr).drew (by simp)
            have O0 : w0.ownsRow w.heap.size 5 1 (.slice ao all.length ac) all.length (all.map bv) := by rw [hw0]; exact own_upd HK.out.2.2.2.2.1 (Upd.refl [] wr).drew (by simp)
            rw [← hw0]
            have HL := Lib.hid (And.intro hl52 (And.intro U0 (And.intro B0 O0)))
            clear hw0 hl52 U0 B0 O0 hcw
            have hd52 : decide ((52 : Int) < (sz : Int)) = false := decide_eq_false (by omega)
            go_upto_region 12 with (fail)
            go_cut [86] (fun g' wx => g' = .bool false ∧ w0 = wx)
            case first =>
              rcases Nat.lt_or_ge (k + 1) ct with h | h
              · have h2 : ((sz : Int) != 52) = false := by rw [bne_eq_false_iff_eq]; have := HL.out.1; omega
                go_wp2
                go_meet
                case rel => exact ⟨rfl, rfl⟩
              · go_wp2
                go_meet
                case rel => exact ⟨rfl, rfl⟩
            case rest =>
              obtain ⟨rfl, rfl⟩ := hcut
              clear hd52
              obtain ⟨hi, hhi⟩ : ∃ hi, 12 + sz = hi := ⟨_, rfl⟩
              have hmid := bytes_mid (lo := 12) (hi' := hi) (A := some ⟨tb, to_ + 12, none⟩) HL.out.2.2.1 HK.out.2.1 (by omega) (by have := HK.out.2.1; omega) (fun _ => by simp [Addr.add_lit])
              have hsub : hi - 12 = sz := by omega
              rw [hsub] at hmid
              have W : (12 : Int) + (sz : Int) = (hi : Int) := by omega
              have hmax : max (hi : Int) 0 = (hi : Int) := by omega
              have hle1 : (hi : Int) ≤ (tc : Int) := by omega
              have hle2 : (12 : Int) ≤ (hi : Int) := by omega
              have hle3 : (0 : Int) ≤ (hi : Int) := by omega
              have hne : ¬ tc = 12 := by omega
              have hxl : ((x.drop 12).take sz).length = sz := by have := HK.out.2.1; simp; omega
              have HM := Lib.hid (And.intro hmid hxl)
              clear hmid hxl hhi
              go_upto_region 15 with (fail)
              clear W hmax hle1 hle2 hle3 hne hsub
              obtain ⟨xb, hxb⟩ : ∃ xb, (x.drop 12).take sz = xb := ⟨_, rfl⟩
              rw [hxb] at HM HG
              obtain ⟨sx, hsx⟩ : ∃ sx, secOf n g k ct xb = sx := ⟨_, rfl⟩
              rw [hsx] at HG
              have hsl : sx.length = 64 := by rw [← hsx]; exact secOf_len _ _ _ _ (by have := HM.out.2; omega)
              have hbe := bs_eq x sx
              obtain ⟨e, he⟩ : ∃ e, decide (x = sx) = e := ⟨_, rfl⟩
              rw [he] at hbe
              have HE := Lib.hid (And.intro he (And.intro hsx hsl))
              clear he hsx hxb hsl
              have S0 : Bytes w0.drew (.slice (some ⟨tb, to_, none⟩) 64 tc) x := HL.out.2.2.1.drew
              refine wp_region_ord (S := fun w => Bytes w (.slice (some ⟨tb, to_, none⟩) 64 tc) x) (.take 0 (.take 1 (.take 2 (.take 3 (.take 4 (.take 5 (.take 6 (.act 7 (.act 8 (.take 9 .done)))))))))) (by kernel_rfl) (by kernel_rfl) (fun _ _ d _ _ h => by cases d <;> exact h) ?_
              (refine ord_ex rfl rfl S0 ?_; apply Exists.intro; refine ⟨fun _ _ => ?_, ?_⟩; (focus (rename_i w hw; skip; go_simp; rfl)); simp only [Act.put, List.setIfInBounds_toArray, List.set_cons_zero, List.set_cons_succ, List.getElem_toArray, List.getElem_cons_succ, List.getElem_cons_zero])
              (refine ord_ex rfl rfl S0 ?_; apply Exists.intro; refine ⟨fun _ _ => ?_, ?_⟩; (focus (rename_i w hw; have hs1 := run_str (P := Tryd.prog) hw 26 5 Tryd.underlying26 Tryd.underlying5 9 Tryd.underlying9; go_simp; rfl)); simp only [Act.put, List.setIfInBounds_toArray, List.set_cons_zero, List.set_cons_succ, List.getElem_toArray, List.getElem_cons_succ, List.getElem_cons_zero])
              iterate 5 (refine ord_ex rfl rfl S0 ?_; apply Exists.intro; refine ⟨fun _ _ => ?_, ?_⟩; (focus (rename_i w hw; skip; go_simp; rfl)); simp only [Act.put, List.setIfInBounds_toArray, List.set_cons_zero, List.set_cons_succ, List.getElem_toArray, List.getElem_cons_succ, List.getElem_cons_zero])
              refine ord_act rfl ?_
              go_wp2_with fail
              refine (part_any w0.drew n g k ct (some ⟨tb, to_ + 12, none⟩) (tc - 12) sz xb (HM.out.1.upd (Upd.refl [] w0).drew (by simp)) HM.out.2 (by omega) hg (by omega) hct hs52).mono ?_
              rintro e2 w2 ⟨q2, rfl, bq, u2⟩
              rw [HE.out.2.1] at bq
              have S1 : Bytes w2 (.slice (some ⟨tb, to_, none⟩) 64 tc) x := S0.upd u2 (by simp)
              have hbq : Bytes w2 (.slice (some ⟨q2, 0, none⟩) 64 64) sx := bq.bytes sx HE.out.2.2 (by unfold maxLen; omega) (fun j u h => by rw [Nat.zero_add]; simpa [bsArr] using h)
              have U2 : Upd [] w w2 := (HL.out.2.1.drew).trans u2 (by simp)
              have O2 := own_upd HL.out.2.2.2 ((Upd.refl [] w0).drew.trans u2 (by simp)) (by simp)
              have X2 := HM.out.1.upd ((Upd.refl [] w0).drew.trans u2 (by simp)) (by simp)
              have H2 := Lib.hid (And.intro U2 (And.intro O2 X2))
              clear U2 O2 X2 u2 bq
              go_wp2_with fail
              refine ⟨fun _ => S1, ?_⟩
              refine ord_act rfl ?_
              have hs2 := run_str (P := Tryd.prog) hbq 26 5 Tryd.underlying26 Tryd.underlying5 9 Tryd.underlying9
              go_wp2_with fail
              refine ⟨fun _ => S1, ?_⟩
              clear hs2
              (refine ord_ex rfl rfl S1 ?_; apply Exists.intro; refine ⟨fun _ _ => ?_, ?_⟩; (focus (rename_i w hw; skip; go_simp; rfl)); simp only [Act.put, List.setIfInBounds_toArray, List.set_cons_zero, List.set_cons_succ, List.getElem_toArray, List.getElem_cons_succ, List.getElem_cons_zero])
              first | (show Exit.inBlock _ _ Exit.normal _ _) | (show Exit.then _ _ Exit.normal _ _)
              clear S0 S1 hbq
              cases e with
              | false =>
                have hxy : ¬ x = sx := by simpa using HE.out.1
                have hR2 : R = ([], 0, 0) := by
                  have h := HG.out
                  rw [if_pos hxy] at h
                  have h2 := HZ.out.1
                  rw [← h] at h2
                  exact h2.symm
                have HY := Lib.hid hR2
                clear hR2 hxy
                go_wp2
                go_ret3
                rw [HY.out]
                exact stand_none w _ H2.out.1
              | true =>
                have hxy : x = sx := by simpa using HE.out.1
                have hgo := HG.out
                rw [if_neg (by rw [hxy]; simp)] at hgo
                have hxl := HM.out.2
                have hX := H2.out.2.2
                rw [hxl] at hX
                have HY := Lib.hid (And.intro hgo (And.intro hX H2.out.1.size))
                clear hgo hxy hX
                go_wp2_with (at_builtin; refine wpList_app _ rfl (.tmp 101) (.tmp 102) 26 rfl w.heap.size 5 (.int .u8 0) 1 1 Tryd.underlying26 info_byte rfl (by decide) (.slice ao all.length ac) all.length (all.map bv) rfl H2.out.2.1 (.slice (some ⟨tb, to_ + 12, none⟩) sz (tc - 12)) sz (xb.map bv) rfl HY.out.2.1 (bv_one xb) (by omega) (by decide) HY.out.2.2 ?_)
                intro ao4 c4 w4 h4
                have hu4 : Upd [] w w4 := H2.out.1.trans h4.upd (fun k hk => by
                  right
                  have := own_lt H2.out.2.1
                  rw [own_block] at hk
                  split at hk
                  · simp at hk
                  · simp at hk; omega)
                have ho4 := h4.own
                rw [← List.map_append] at ho4
                have hal : all.length + sz = (all ++ xb).length := by rw [List.length_append, hxl]
                rw [hal] at ho4 ⊢
                have H4 := Lib.hid (And.intro hu4 (And.intro ho4 hal))
                clear hu4 ho4 h4 hal hxl
                go_wp2
                go_roundw
                case rel => exact ⟨k + 1, all ++ xb, by omega, by go_num, ⟨ao4, c4, rfl⟩, by have := H4.out.2.2; omega, H4.out.2.1, H4.out.1, by
                  have := HK.out.2.2.2.1
                  rw [show ct - (k + 1) = f by omega]
                  exact HY.out.1⟩
                case measure => simp [intOf]; omega
        · obtain rfl : k = ct := by omega
          have hRe : R = (all, g, k) := by
            rw [Nat.sub_self, oneGo] at hgo
            rw [← HZ.out.1, ← hgo]; rfl
          have HY := Lib.hid (And.intro hRe (And.intro hown hu))
          clear hRe hown hu hgo
          go_wp2
          go_ret3
          rw [HY.out.1]
          exact ⟨ao, ac, rfl, HY.out.2.1, HY.out.2.2⟩
  · have hR2 : R = ([], 0, 0) := by
      have h := HS.out.2.2.2.2
      unfold oneR at h
      rw [if_pos (by rw [HS.out.2.2.2.1]; exact hge)] at h
      exact h.symm
    have HZ := Lib.hid hR2
    clear hR2
    go_enter Tryd.func33, Tryd.ntmps33
    go_wp2
    go_ret3
    rw [HZ.out]
    exact stand_none w _ (Upd.refl [] w)
end Go.Proofs.YtnfnaedoejgpiaaDoor
