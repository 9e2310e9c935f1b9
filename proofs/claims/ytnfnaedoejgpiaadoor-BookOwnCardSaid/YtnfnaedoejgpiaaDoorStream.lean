/- What a stream of package sha does. -/
import Derived.Test.YtnfnaedoejgpiaaDoorMix
import Derived.Test.YtnfnaedoejgpiaaDoorMid
namespace Go.Proofs.YtnfnaedoejgpiaaDoor
open Go.RowKit

/-- A stream: its engine's words, what is left, how many bytes came. -/
structure StreamS where
  h : List (BitVec 32)
  left : List UInt8
  size : Nat
def absorb (h : List (BitVec 32)) (l : List UInt8) : List (BitVec 32) × List UInt8 :=
  if 64 ≤ l.length then absorb (mixed h (l.take 64)) (l.drop 64) else (h, l)
termination_by l.length
decreasing_by simp; omega
def StreamS.take (S : StreamS) (b : List UInt8) : StreamS := ⟨(absorb S.h (S.left ++ b)).1, (absorb S.h (S.left ++ b)).2, (S.size + b.length) % 18446744073709551616⟩
theorem rounds_len' {v s : List (BitVec 32)} (n : Nat) : (rounds v s n).1.length = v.length := (rounds_len n).1
theorem mixed_len (h : List (BitVec 32)) (b : List UInt8) : (mixed h b).length = h.length := by unfold mixed; rw [addAll_len]
structure StreamAt (w : World) (p : Nat) (S : StreamS) (v : Value) : Prop where
  blk : Blk w p (eng S.h [v, .int .u64 S.size]) 137
  left : MidB w (p + 1) v S.left
  len : S.h.length = 8
  size : S.size < 18446744073709551616
theorem eng_rest {h : List (BitVec 32)} {rest : List Value} (hh : h.length = 8) (k : Nat) : (eng h rest)[8 + k]? = rest[k]? := by
  simp only [eng, List.getElem?_toArray]
  rw [List.getElem?_append_right (by simp [hh])]
  simp [hh]
theorem eng_put8 {h : List (BitVec 32)} {a b c : Value} (hh : h.length = 8) : (eng h [a, b]).setIfInBounds 8 c = eng h [c, b] := by
  simp [eng, List.set_append, hh]
theorem eng_put9 {h : List (BitVec 32)} {a b c : Value} (hh : h.length = 8) : (eng h [a, b]).setIfInBounds 9 c = eng h [a, c] := by
  simp [eng, List.set_append, hh]
def TakePost (W : World) (p : Nat) (S : StreamS) (e : Ending) (w : World) : Prop := e = .returned (.tuple #[]) ∧ (∃ v, StreamAt w p S v) ∧ Below p W w
def RelT (W : World) (p : Nat) (h : List (BitVec 32)) (l : List UInt8) (n : Nat) (w : World) : Prop :=
  ∃ h' l' v, absorb h l = absorb h' l' ∧ StreamAt w p ⟨h', l', n⟩ v ∧ Below p W w ∧ l'.length ≤ l.length
theorem Table.below {B : Nat} {w w' : World} (h : Table w) (hb : Below B w w') (h0 : 0 < B) : Table w' :=
  ⟨Nat.lt_of_lt_of_le h.1 hb.size, fun i hi => by
    have := h.2 i hi
    have he := hb.block 0 h0
    simp only [World.cell?] at this ⊢
    rw [he]; exact this⟩
def lenAt (w : World) (p : Nat) : Nat := match w.cell? ⟨p, 8, none⟩ with | some (.slice _ n _) => n | _ => 0
set_option maxHeartbeats 1000000 in
set_option maxRecDepth 4000 in
theorem take_any (w : World) (p : Nat) (S : StreamS) (v bvv : Value) (b : List UInt8) (hS : StreamAt w p S v) (hb : Bytes w bvv b) (hbp : blkOf bvv ≠ p + 1) (ht : Table w) (hp : p ≠ 0) (hl : S.left.length + b.length ≤ 100000000) :
    Calls Tryd.prog 79 #[.pointer (some ⟨p, 0, none⟩), bvv] w (TakePost w p (S.take b)) := by
  obtain ⟨bo, bc, rfl, hbc⟩ := id hb
  obtain ⟨h, l, n⟩ := S
  obtain ⟨H1, H2, H3, H4⟩ := hS
  dsimp only at H1 H2 H3 H4 hl
  obtain ⟨ao, ac, rfl, hac⟩ := id H2.sl
  have c8 := H1.cell (i := 8) (eng_rest H3 0)
  have c9 := H1.cell (i := 9) (eng_rest H3 1)
  have f9 := H1.frozen 9
  have c0 := eng_cell H1 (k := 0) (by omega)
  have hbl := hbc.1
  have hn0 : (0 : Int) ≤ n := by omega
  have hbs : (b.length : Int) ≤ 100000000 := by omega
  obtain ⟨nn, hnn⟩ : ∃ nn : Nat, (n + b.length) % 18446744073709551616 = nn := ⟨_, rfl⟩
  have e9 : IntKind.u64.wrap ((n : Int) + (b.length : Int)) = (nn : Int) := by rw [← hnn]; simp [IntKind.wrap, IntKind.bits, IntKind.signed]
  have hvp : blkOf (.slice ao l.length ac) ≠ p + 1 := by rcases H2.lt.2 with h | h <;> omega
  have u1 := upd_set (Upd.refl [p] w) (b := p) (i := 9) (.inl (by simp)) (.int .u64 (nn : Int))
  have M1 := H2.upd u1 (only hvp)
  have B1 := hb.upd u1 (only hbp)
  have S1 := H1.set 9 (.int .u64 (nn : Int))
  rw [eng_put9 H3] at S1
  have hsz := u1.size
  have hp1 := H1.lt
  have hnn' : nn < 18446744073709551616 := by omega
  have HS := Lib.hid (And.intro H3 (And.intro hnn (And.intro hvp (And.intro u1 (And.intro M1 (And.intro B1 (And.intro S1 (And.intro ht (And.intro hp (And.intro hl hnn'))))))))))
  have HP := Lib.hid (And.intro hp1 hsz)
  clear H1 H2 H3 H4 hb hbp ht hp hl hbc hac hnn hvp u1 M1 B1 S1 hsz hp1 hnn' hn0
  go_enter Tryd.func79, Tryd.ntmps79
  go_wp2_with (at_builtin; refine wpList_appB _ rfl (.tmp 21) (.tmp 22) rfl (p + 1) (.slice ao l.length ac) l rfl HS.out.2.2.2.2.1 (.slice bo b.length bc) b rfl HS.out.2.2.2.2.2.1 (by have := HS.out.2.2.2.2.2.2.2.2.2.1; omega) (by have := HP.out; omega) ?_)
  intro ao2 c2 w2 h2
  obtain ⟨L, hL⟩ : ∃ L, l ++ b = L := ⟨_, rfl⟩
  have hll : l.length + b.length = L.length := by rw [← hL]; simp
  obtain ⟨ho, hup, hbk⟩ := h2

  rw [hL, hll] at ho
  rw [hll] at hbk
  rw [hll]
  have hpw := HP.out.1
  have S2 := HS.out.2.2.2.2.2.2.1.upd hup (by have := HS.out.2.2.1; rw [own_block]; split <;> simp; omega)
  have c8' := S2.cell (i := 8) (eng_rest HS.out.1 0)
  have f8' := S2.frozen 8
  have S3 := S2.set 8 (.slice ao2 L.length c2)
  rw [eng_put8 HS.out.1] at S3
  have hv2 : blkOf (.slice ao2 L.length c2) ≠ p + 1 := by have := ho.lt.2; rcases this with h | h <;> omega
  have M3 := ho.upd (upd_set (Upd.refl [p] w2) (b := p) (i := 8) (.inl (by simp)) (.slice ao2 L.length c2)) (only hv2)
  have U1 : Below p w (w.setCell ⟨p, 9, none⟩ (.int .u64 (nn : Int))) := below_set (Below.refl _ _) (Nat.le_refl _) _
  have U2 : Below p (w.setCell ⟨p, 9, none⟩ (.int .u64 (nn : Int))) w2 := ⟨hup.os, hup.tape, hup.output, hup.size, fun k hk => hup.block k (by have := HP.out.2; omega) (by have := HS.out.2.2.2.2.1.lt.2; rw [own_block]; split <;> simp; omega)⟩
  have U3 : Below p w (w2.setCell ⟨p, 8, none⟩ (.slice ao2 L.length c2)) := below_set (U1.trans U2) (Nat.le_refl _) _
  have hLl : L.length ≤ 100000000 := by have := HS.out.2.2.2.2.2.2.2.2.2.1; omega
  have G := Lib.hid (And.intro S3 (And.intro M3 (And.intro U3 hLl)))
  clear S2 S3 hv2 M3 U1 U2 U3 ho hup hbk hpw hLl
  go_wp2
  have HL := Lib.hid hL
  clear hL hll e9 c0 c8 c9 f9
  generalize (w2.setCell ⟨p, 8, none⟩ (.slice ao2 L.length c2)) = w3 at *
  go_loopw [] (fun w' => RelT w p h L nn w') (fun w' => lenAt w' p)
  case atStart => exact ⟨h, L, _, rfl, ⟨G.out.1, G.out.2.1, HS.out.1, HS.out.2.2.2.2.2.2.2.2.2.2⟩, G.out.2.2.1, Nat.le_refl _⟩
  case round =>
    obtain ⟨h', l', v, hab, ⟨k1, k2, k3, k4⟩, hbe, hle⟩ := hrel
    dsimp only at k1 k2 k3 k4
    obtain ⟨ao3, c3, rfl, hc3⟩ := id k2.sl
    have c8 := k1.cell (i := 8) (eng_rest k3 0)
    have f8 := k1.frozen 8
    have hlc := hc3.1
    have hlL : l'.length ≤ 100000000 := Nat.le_trans hle G.out.2.2.2
    have hT := HS.out.2.2.2.2.2.2.2.1
    have hTr : Table wr := hT.below hbe (by have := HS.out.2.2.2.2.2.2.2.2.1; omega)
    have hvp : blkOf (.slice ao3 l'.length c3) ≠ p + 1 := by rcases k2.lt.2 with h | h <;> omega
    have HK := Lib.hid (And.intro k1 (And.intro k2 (And.intro k3 (And.intro k4 (And.intro hbe (And.intro hle (And.intro hab (And.intro hTr hvp))))))))
    clear k1 k2 k3 k4 hbe hle hab hc3 hT hTr hvp
    by_cases h64 : 64 ≤ l'.length
    · have g64 : (64 : Int) ≤ l'.length := by omega
      have c64 : (64 : Int) ≤ c3 := by omega
      have m64 : (l'.take 64).length = 64 := by simp; omega
      have hbt : Bytes wr (.slice ao3 (l'.take 64).length c3) (l'.take 64) := by rw [m64]; exact bytes_take HK.out.2.1.sl h64
      have HM := Lib.hid (And.intro m64 hbt)
      clear m64 hbt
      go_wp2_with fail
      have S0 : wr.cell? ⟨p, 8, none⟩ = some (.slice ao3 l'.length c3) := c8
      refine wp_region_ord (S := fun w => w.cell? ⟨p, 8, none⟩ = some (.slice ao3 l'.length c3)) (.take 0 (.take 1 (.take 2 (.take 3 (.take 4 (.take 5 (.take 6 (.take 7 (.take 8 (.act 9 .done)))))))))) (by kernel_rfl) (by kernel_rfl) (fun _ _ d _ _ h => by cases d <;> exact h) ?_
      repeat (refine ord_ex rfl rfl S0 ?_; apply Exists.intro; refine ⟨fun _ _ => ?_, ?_⟩; (focus (rename_i w hw; have c8 := hw; go_simp; rfl)); simp only [Act.put, List.setIfInBounds_toArray, List.set_cons_zero, List.set_cons_succ, List.getElem_toArray, List.getElem_cons_succ, List.getElem_cons_zero])
      refine ord_act rfl ?_
      go_wp2_with fail
      have hm := mix_any wr.drew p 137 h' [.slice ao3 l'.length c3, .int .u64 nn] ao3 c3 (l'.take 64) HK.out.2.2.1 HK.out.1 HM.out.2 HM.out.1 HK.out.2.2.2.2.2.2.2.1 (by rw [blkOf_len ao3 _ c3 l'.length c3]; exact HK.out.2.2.2.2.2.2.2.2) HS.out.2.2.2.2.2.2.2.2.1
      rw [HM.out.1] at hm
      refine hm.mono ?_
      rintro e w4 ⟨rfl, m1, m2⟩
      have e8 : (mixed h' (l'.take 64)).length = 8 := by rw [mixed_len]; exact HK.out.2.2.1
      have c8' := m1.cell (i := 8) (eng_rest e8 0)
      have f8' := m1.frozen 8
      have m3 : Upd [p] wr w4 := ⟨m2.os, m2.tape, m2.output, m2.size, m2.block⟩
      have M2 := HK.out.2.1.upd m3 (only HK.out.2.2.2.2.2.2.2.2)
      have fin : ∀ A, (A = if c3 = 64 then ao3 else ao3.map (fun x => x.add 64)) → RelT w p h L nn (w4.setCell ⟨p, 8, none⟩ (.slice A (l'.length - 64) (c3 - 64))) ∧ lenAt (w4.setCell ⟨p, 8, none⟩ (.slice A (l'.length - 64) (c3 - 64))) p < lenAt wr p := fun A hA => by
        have hd := M2.drop h64 hA
        have hS := m1.set 8 (.slice A (l'.length - 64) (c3 - 64))
        rw [eng_put8 e8] at hS
        have hdp : blkOf (.slice A (l'.length - 64) (c3 - 64)) ≠ p + 1 := by rcases hd.lt.2 with h | h <;> omega
        have hu := upd_set (Upd.refl [p] w4) (b := p) (i := 8) (.inl (by simp)) (.slice A (l'.length - 64) (c3 - 64))
        have hab : absorb h L = absorb (mixed h' (l'.take 64)) (l'.drop 64) := by
          rw [HK.out.2.2.2.2.2.2.1]
          conv => lhs; unfold absorb
          rw [if_pos h64]
        refine ⟨⟨_, _, _, hab, ⟨hS, hd.upd hu (only hdp), e8, HK.out.2.2.2.1⟩, ?_, by have := HK.out.2.2.2.2.2.1; simp; omega⟩, ?_⟩
        · exact below_set (HK.out.2.2.2.2.1.trans ⟨m3.os, m3.tape, m3.output, m3.size, fun k hk => m3.block k (by have := HP.out; have := HK.out.2.2.2.2.1.size; omega) (by simp; omega)⟩) (Nat.le_refl _) _
        · have h8 := hS.cell (i := 8) (eng_rest e8 0)
          have h9 : wr.cell? ⟨p, 8, none⟩ = some (.slice ao3 l'.length c3) := c8
          unfold lenAt
          rw [h8, h9]
          show l'.length - 64 < l'.length
          omega
      have FIN := Lib.hid fin
      clear fin M2 m3 m1 m2 hm S0
      go_wp2_with fail
      refine ⟨fun _ => c8', ?_⟩
      show Exit.then _ _ Exit.normal _ _
      by_cases hc : c3 = 64
      · have hc1 : (c3 : Int) = 64 := by omega
        go_wp2_with fail
        have hf := FIN.out ao3 (by rw [if_pos hc])
        rw [show c3 - 64 = 0 by omega] at hf
        exact hf
      · have hc1 : ¬ (c3 : Int) = 64 := by omega
        go_wp2_with fail
        exact FIN.out _ (by rw [if_neg hc]; cases ao3 <;> simp [Addr.add])
    · have g64 : ¬ (64 : Int) ≤ l'.length := by omega
      go_wp2_with fail
      go_end0
      have hab := HK.out.2.2.2.2.2.2.1
      have he : absorb h' l' = (h', l') := by unfold absorb; rw [if_neg h64]
      rw [he] at hab
      refine ⟨rfl, ⟨.slice ao3 l'.length c3, ?_⟩, HK.out.2.2.2.2.1⟩
      have h1 := HK.out.1
      have h2 := HK.out.2.1
      have hS : StreamS.take ⟨h, l, n⟩ b = ⟨h', l', nn⟩ := by
        unfold StreamS.take
        simp only [HL.out, hab, HS.out.2.1]
      rw [hS]
      exact ⟨h1, h2, HK.out.2.2.1, HK.out.2.2.2.1⟩
end Go.Proofs.YtnfnaedoejgpiaaDoor
