/- What a stream of package sha does. Streams, begun and written to. -/
import Derived.Test.YtnfnaedoejgpiaaDoorMix
import Derived.Test.YtnfnaedoejgpiaaDoorMid
import Derived.Test.YtnfnaedoejgpiaaDoorNew
namespace Go.Proofs.YtnfnaedoejgpiaaDoor
open Go.RowKit

/-- A stream: its engine's words, what is left, how many bytes came. -/
structure StreamS where
  h : List (BitVec 32)
  left : List UInt8
  size : Nat
def absorb (h : List (BitVec 32)) (l : List UInt8) : List (BitVec 32) × List UInt8 :=
  if 64 ≤ l.length then absorb (mixed h (l.take 64)) (l.drop 64) else (h, l)
termination_by l.length
decreasing_by simp; omega
def StreamS.take (S : StreamS) (b : List UInt8) : StreamS := ⟨(absorb S.h (S.left ++ b)).1, (absorb S.h (S.left ++ b)).2, (S.size + b.length) % 18446744073709551616⟩
theorem rounds_len' {v s : List (BitVec 32)} (n : Nat) : (rounds v s n).1.length = v.length := (rounds_len n).1
theorem mixed_len (h : List (BitVec 32)) (b : List UInt8) : (mixed h b).length = h.length := by unfold mixed; rw [addAll_len]
structure StreamAt (w : World) (p : Nat) (S : StreamS) (v : Value) : Prop where
  blk : Blk w p (eng S.h [v, .int .u64 S.size]) 137
  left : MidB w (p + 1) v S.left
  len : S.h.length = 8
  size : S.size < 18446744073709551616
theorem eng_rest {h : List (BitVec 32)} {rest : List Value} (hh : h.length = 8) (k : Nat) : (eng h rest)[8 + k]? = rest[k]? := by
  simp only [eng, List.getElem?_toArray]
  rw [List.getElem?_append_right (by simp [hh])]
  simp [hh]
theorem eng_put8 {h : List (BitVec 32)} {a b c : Value} (hh : h.length = 8) : (eng h [a, b]).setIfInBounds 8 c = eng h [c, b] := by
  simp [eng, List.set_append, hh]
theorem eng_put9 {h : List (BitVec 32)} {a b c : Value} (hh : h.length = 8) : (eng h [a, b]).setIfInBounds 9 c = eng h [a, c] := by
  simp [eng, List.set_append, hh]
def TakePost (W : World) (p : Nat) (S : StreamS) (e : Ending) (w : World) : Prop := e = .returned (.tuple #[]) ∧ (∃ v, StreamAt w p S v) ∧ Below p W w
def RelT (W : World) (p : Nat) (h : List (BitVec 32)) (l : List UInt8) (n : Nat) (w : World) : Prop :=
  ∃ h' l' v, absorb h l = absorb h' l' ∧ StreamAt w p ⟨h', l', n⟩ v ∧ Below p W w ∧ l'.length ≤ l.length
theorem Table.below {B : Nat} {w w' : World} (h : Table w) (hb : Below B w w') (h0 : 0 < B) : Table w' :=
  ⟨Nat.lt_of_lt_of_le h.1 hb.size, fun i hi => by
    have := h.2 i hi
    have he := hb.block 0 h0
    simp only [World.cell?] at this ⊢
    rw [he]; exact this⟩
def lenAt (w : World) (p : Nat) : Nat := match w.cell? ⟨p, 8, none⟩ with | some (.slice _ n _) => n | _ => 0
set_option maxHeartbeats 1000000 in
set_option maxRecDepth 4000 in
theorem take_any (w : World) (p : Nat) (S : StreamS) (v bvv : Value) (b : List UInt8) (hS : StreamAt w p S v) (hb : Bytes w bvv b) (hbp : blkE bvv ≠ p + 1) (ht : Table w) (hp : p ≠ 0) (hl : S.left.length + b.length ≤ 100000000) :
    Calls Tryd.prog 79 #[.pointer (some ⟨p, 0, none⟩), bvv] w (TakePost w p (S.take b)) := by
  obtain ⟨bo, bc, rfl, hbc⟩ := id hb
  obtain ⟨h, l, n⟩ := S
  obtain ⟨H1, H2, H3, H4⟩ := hS
  dsimp only at H1 H2 H3 H4 hl
  obtain ⟨ao, ac, rfl, hac⟩ := id H2.sl
  have c8 := H1.cell (i := 8) (eng_rest H3 0)
  have c9 := H1.cell (i := 9) (eng_rest H3 1)
  have f9 := H1.frozen 9
  have c0 := eng_cell H1 (k := 0) (by omega)
  have hbl := hbc.1
  have hn0 : (0 : Int) ≤ n := by omega
  have hbs : (b.length : Int) ≤ 100000000 := by omega
  obtain ⟨nn, hnn⟩ : ∃ nn : Nat, (n + b.length) % 18446744073709551616 = nn := ⟨_, rfl⟩
  have e9 : IntKind.u64.wrap ((n : Int) + (b.length : Int)) = (nn : Int) := by rw [← hnn]; simp [IntKind.wrap, IntKind.bits, IntKind.signed]
  have hvp : blkOf (.slice ao l.length ac) ≠ p + 1 := by rcases H2.lt.2 with h | h <;> omega
  have u1 := upd_set (Upd.refl [p] w) (b := p) (i := 9) (.inl (by simp)) (.int .u64 (nn : Int))
  have M1 := H2.upd u1 (only hvp)
  have B1 := hb.updE u1 (onlyE hbp)
  have S1 := H1.set 9 (.int .u64 (nn : Int))
  rw [eng_put9 H3] at S1
  have hsz := u1.size
  have hp1 := H1.lt
  have hnn' : nn < 18446744073709551616 := by omega
  have HS := Lib.hid (And.intro H3 (And.intro hnn (And.intro hvp (And.intro u1 (And.intro M1 (And.intro B1 (And.intro S1 (And.intro ht (And.intro hp (And.intro hl hnn'))))))))))
  have HP := Lib.hid (And.intro hp1 hsz)
  clear H1 H2 H3 H4 hb hbp ht hp hl hbc hac hnn hvp u1 M1 B1 S1 hsz hp1 hnn' hn0
  go_enter Tryd.func79, Tryd.ntmps79
  go_wp2_with (at_builtin; refine wpList_appB _ rfl (.tmp 21) (.tmp 22) rfl (p + 1) (.slice ao l.length ac) l rfl HS.out.2.2.2.2.1 (.slice bo b.length bc) b rfl HS.out.2.2.2.2.2.1 (by have := HS.out.2.2.2.2.2.2.2.2.2.1; omega) (by have := HP.out; omega) ?_)
  intro ao2 c2 w2 h2
  obtain ⟨L, hL⟩ : ∃ L, l ++ b = L := ⟨_, rfl⟩
  have hll : l.length + b.length = L.length := by rw [← hL]; simp
  obtain ⟨ho, hup, hbk⟩ := h2

  rw [hL, hll] at ho
  rw [hll] at hbk
  rw [hll]
  have hpw := HP.out.1
  have S2 := HS.out.2.2.2.2.2.2.1.upd hup (by have := HS.out.2.2.1; rw [own_block]; split <;> simp; omega)
  have c8' := S2.cell (i := 8) (eng_rest HS.out.1 0)
  have f8' := S2.frozen 8
  have S3 := S2.set 8 (.slice ao2 L.length c2)
  rw [eng_put8 HS.out.1] at S3
  have hv2 : blkOf (.slice ao2 L.length c2) ≠ p + 1 := by have := ho.lt.2; rcases this with h | h <;> omega
  have M3 := ho.upd (upd_set (Upd.refl [p] w2) (b := p) (i := 8) (.inl (by simp)) (.slice ao2 L.length c2)) (only hv2)
  have U1 : Below p w (w.setCell ⟨p, 9, none⟩ (.int .u64 (nn : Int))) := below_set (Below.refl _ _) (Nat.le_refl _) _
  have U2 : Below p (w.setCell ⟨p, 9, none⟩ (.int .u64 (nn : Int))) w2 := ⟨hup.os, hup.tape, hup.output, hup.size, fun k hk => hup.block k (by have := HP.out.2; omega) (by have := HS.out.2.2.2.2.1.lt.2; rw [own_block]; split <;> simp; omega)⟩
  have U3 : Below p w (w2.setCell ⟨p, 8, none⟩ (.slice ao2 L.length c2)) := below_set (U1.trans U2) (Nat.le_refl _) _
  have hLl : L.length ≤ 100000000 := by have := HS.out.2.2.2.2.2.2.2.2.2.1; omega
  have G := Lib.hid (And.intro S3 (And.intro M3 (And.intro U3 hLl)))
  clear S2 S3 hv2 M3 U1 U2 U3 ho hup hbk hpw hLl
  go_wp2
  have HL := Lib.hid hL
  clear hL hll e9 c0 c8 c9 f9
  generalize (w2.setCell ⟨p, 8, none⟩ (.slice ao2 L.length c2)) = w3 at *
  go_loopw [] (fun w' => RelT w p h L nn w') (fun w' => lenAt w' p)
  case atStart => exact ⟨h, L, _, rfl, ⟨G.out.1, G.out.2.1, HS.out.1, HS.out.2.2.2.2.2.2.2.2.2.2⟩, G.out.2.2.1, Nat.le_refl _⟩
  case round =>
    obtain ⟨h', l', v, hab, ⟨k1, k2, k3, k4⟩, hbe, hle⟩ := hrel
    dsimp only at k1 k2 k3 k4
    obtain ⟨ao3, c3, rfl, hc3⟩ := id k2.sl
    have c8 := k1.cell (i := 8) (eng_rest k3 0)
    have f8 := k1.frozen 8
    have hlc := hc3.1
    have hlL : l'.length ≤ 100000000 := Nat.le_trans hle G.out.2.2.2
    have hT := HS.out.2.2.2.2.2.2.2.1
    have hTr : Table wr := hT.below hbe (by have := HS.out.2.2.2.2.2.2.2.2.1; omega)
    have hvp : blkOf (.slice ao3 l'.length c3) ≠ p + 1 := by rcases k2.lt.2 with h | h <;> omega
    have HK := Lib.hid (And.intro k1 (And.intro k2 (And.intro k3 (And.intro k4 (And.intro hbe (And.intro hle (And.intro hab (And.intro hTr hvp))))))))
    clear k1 k2 k3 k4 hbe hle hab hc3 hT hTr hvp
    by_cases h64 : 64 ≤ l'.length
    · have g64 : (64 : Int) ≤ l'.length := by omega
      have c64 : (64 : Int) ≤ c3 := by omega
      have m64 : (l'.take 64).length = 64 := by simp; omega
      have hbt : Bytes wr (.slice ao3 (l'.take 64).length c3) (l'.take 64) := by rw [m64]; exact bytes_take HK.out.2.1.sl h64
      have HM := Lib.hid (And.intro m64 hbt)
      clear m64 hbt
      go_wp2_with fail
      have S0 : wr.cell? ⟨p, 8, none⟩ = some (.slice ao3 l'.length c3) := c8
      refine wp_region_ord (S := fun w => w.cell? ⟨p, 8, none⟩ = some (.slice ao3 l'.length c3)) (.take 0 (.take 1 (.take 2 (.take 3 (.take 4 (.take 5 (.take 6 (.take 7 (.take 8 (.act 9 .done)))))))))) (by kernel_rfl) (by kernel_rfl) (fun _ _ d _ _ h => by cases d <;> exact h) ?_
      repeat (refine ord_ex rfl rfl S0 ?_; apply Exists.intro; refine ⟨fun _ _ => ?_, ?_⟩; (focus (rename_i w hw; have c8 := hw; go_simp; rfl)); simp only [Act.put, List.setIfInBounds_toArray, List.set_cons_zero, List.set_cons_succ, List.getElem_toArray, List.getElem_cons_succ, List.getElem_cons_zero])
      refine ord_act rfl ?_
      go_wp2_with fail
      have hm := mix_any wr.drew p 137 h' [.slice ao3 l'.length c3, .int .u64 nn] ao3 c3 (l'.take 64) HK.out.2.2.1 HK.out.1 HM.out.2 HM.out.1 HK.out.2.2.2.2.2.2.2.1 (by rw [blkOf_len ao3 _ c3 l'.length c3]; exact HK.out.2.2.2.2.2.2.2.2) HS.out.2.2.2.2.2.2.2.2.1
      rw [HM.out.1] at hm
      refine hm.mono ?_
      rintro e w4 ⟨rfl, m1, m2⟩
      have e8 : (mixed h' (l'.take 64)).length = 8 := by rw [mixed_len]; exact HK.out.2.2.1
      have c8' := m1.cell (i := 8) (eng_rest e8 0)
      have f8' := m1.frozen 8
      have m3 : Upd [p] wr w4 := ⟨m2.os, m2.tape, m2.output, m2.size, m2.block⟩
      have M2 := HK.out.2.1.upd m3 (only HK.out.2.2.2.2.2.2.2.2)
      have fin : ∀ A, (A = if c3 = 64 then ao3 else ao3.map (fun x => x.add 64)) → RelT w p h L nn (w4.setCell ⟨p, 8, none⟩ (.slice A (l'.length - 64) (c3 - 64))) ∧ lenAt (w4.setCell ⟨p, 8, none⟩ (.slice A (l'.length - 64) (c3 - 64))) p < lenAt wr p := fun A hA => by
        have hd := M2.drop h64 hA
        have hS := m1.set 8 (.slice A (l'.length - 64) (c3 - 64))
        rw [eng_put8 e8] at hS
        have hdp : blkOf (.slice A (l'.length - 64) (c3 - 64)) ≠ p + 1 := by rcases hd.lt.2 with h | h <;> omega
        have hu := upd_set (Upd.refl [p] w4) (b := p) (i := 8) (.inl (by simp)) (.slice A (l'.length - 64) (c3 - 64))
        have hab : absorb h L = absorb (mixed h' (l'.take 64)) (l'.drop 64) := by
          rw [HK.out.2.2.2.2.2.2.1]
          conv => lhs; unfold absorb
          rw [if_pos h64]
        refine ⟨⟨_, _, _, hab, ⟨hS, hd.upd hu (only hdp), e8, HK.out.2.2.2.1⟩, ?_, by have := HK.out.2.2.2.2.2.1; simp; omega⟩, ?_⟩
        · exact below_set (HK.out.2.2.2.2.1.trans ⟨m3.os, m3.tape, m3.output, m3.size, fun k hk => m3.block k (by have := HP.out; have := HK.out.2.2.2.2.1.size; omega) (by simp; omega)⟩) (Nat.le_refl _) _
        · have h8 := hS.cell (i := 8) (eng_rest e8 0)
          have h9 : wr.cell? ⟨p, 8, none⟩ = some (.slice ao3 l'.length c3) := c8
          unfold lenAt
          rw [h8, h9]
          show l'.length - 64 < l'.length
          omega
      have FIN := Lib.hid fin
      clear fin M2 m3 m1 m2 hm S0
      go_wp2_with fail
      refine ⟨fun _ => c8', ?_⟩
      show Exit.then _ _ Exit.normal _ _
      by_cases hc : c3 = 64
      · have hc1 : (c3 : Int) = 64 := by omega
        go_wp2_with fail
        have hf := FIN.out ao3 (by rw [if_pos hc])
        rw [show c3 - 64 = 0 by omega] at hf
        exact hf
      · have hc1 : ¬ (c3 : Int) = 64 := by omega
        go_wp2_with fail
        exact FIN.out _ (by rw [if_neg hc]; cases ao3 <;> simp [Addr.add])
    · have g64 : ¬ (64 : Int) ≤ l'.length := by omega
      go_wp2_with fail
      go_end0
      have hab := HK.out.2.2.2.2.2.2.1
      have he : absorb h' l' = (h', l') := by unfold absorb; rw [if_neg h64]
      rw [he] at hab
      refine ⟨rfl, ⟨.slice ao3 l'.length c3, ?_⟩, HK.out.2.2.2.2.1⟩
      have h1 := HK.out.1
      have h2 := HK.out.2.1
      have hS : StreamS.take ⟨h, l, n⟩ b = ⟨h', l', nn⟩ := by
        unfold StreamS.take
        simp only [HL.out, hab, HS.out.2.1]
      rw [hS]
      exact ⟨h1, h2, HK.out.2.2.1, HK.out.2.2.2.1⟩
end Go.Proofs.YtnfnaedoejgpiaaDoor
namespace Go.Proofs.YtnfnaedoejgpiaaDoor
open Go.RowKit

/-- The words at the beginning. -/
def H0 : List (BitVec 32) := [0x6a09e667, 0xbb67ae85, 0x3c6ef372, 0xa54ff53a, 0x510e527f, 0x9b05688c, 0x1f83d9ab, 0x5be0cd19]
theorem eng_splice {h g : List (BitVec 32)} {rest : List Value} (hh : h.length = 8) (hg : g.length = 8) : splice (eng h rest) 0 (g.map wv) = eng g rest := by
  unfold splice eng
  simp [hg, List.drop_append, hh]
theorem begin_any (w : World) (p : Nat) (t : TypeId) (h : List (BitVec 32)) (rest : List Value) (hb : Blk w p (eng h rest) t) (hh : h.length = 8) :
    Calls Tryd.prog 78 #[.pointer (some ⟨p, 0, none⟩)] w fun e w' => e = .returned (.tuple #[]) ∧ Blk w' p (eng H0 rest) t ∧ Upd [p] w w' := by
  have c0 := eng_cell hb (k := 0) (by omega)
  have hs : 0 + (H0.map wv).length ≤ (eng h rest).size := by simp [H0, eng, hh]
  have HB := Lib.hid (And.intro hb (And.intro hh hs))
  clear hb hh hs
  go_enter Tryd.func78, Tryd.ntmps78
  go_wp2_with (with_reducible refine wpList_store_blk (o := ⟨none, .store 131 (.tmp 5) (.tmp 3), _, _, _, _⟩) rfl 131 (.tmp 5) (.tmp 3) rfl (b := p) 0 rfl HB.out.1 (.agg (H0.map wv).toArray) (by kernel_rfl) (H0.map wv) rfl HB.out.2.2 (by kernel_rfl) (by kernel_rfl) ?_)
  intro w1 b1 u1
  rw [eng_splice HB.out.2.1 rfl] at b1
  have G := Lib.hid (And.intro b1 u1)
  clear b1 u1
  go_wp2
  go_end0
  exact ⟨rfl, G.out.1, G.out.2⟩

def StreamS.new : StreamS := ⟨H0, [], 0⟩
def SNewPost (W : World) (e : Ending) (w : World) : Prop := ∃ p, e = .returned (.pointer (some ⟨p, 0, none⟩)) ∧ StreamAt w p StreamS.new (.slice none 0 0) ∧ Upd [] W w ∧ W.heap.size ≤ p
theorem eng_new : (#[.int .u32 0, .int .u32 0, .int .u32 0, .int .u32 0, .int .u32 0, .int .u32 0, .int .u32 0, .int .u32 0, .slice none 0 0, .int .u64 0] : Array Value) = eng (List.replicate 8 0) [.slice none 0 0, .int .u64 ((0 : Nat) : Int)] := by rfl
theorem snew_any (w : World) : Calls Tryd.prog 74 #[] w (SNewPost w) := by
  go_enter Tryd.func74, Tryd.ntmps74
  go_wp2_with fail
  have hb := Blk.new w (eng (List.replicate 8 0) [.slice none 0 0, .int .u64 ((0 : Nat) : Int)]) 137
  refine (begin_any _ w.heap.size 137 (List.replicate 8 0) [.slice none 0 0, .int .u64 ((0 : Nat) : Int)] hb rfl).mono ?_
  rintro e w1 ⟨rfl, b1, u1⟩
  have G := Lib.hid (And.intro b1 u1)
  clear b1 u1 hb
  go_wp2
  go_ret
  exact ⟨_, rfl, ⟨G.out.1, .inl ⟨rfl, rfl⟩, rfl, by decide⟩, Upd.fresh G.out.2, Nat.le_refl _⟩

theorem absorb_lt (h : List (BitVec 32)) (l : List UInt8) : (absorb h l).2.length < 64 := by
  fun_induction absorb h l with
  | case1 h l hl ih => exact ih
  | case2 h l hl => simpa using hl
/-- All parts, one behind the other. -/
def StreamS.takes (S : StreamS) : List (List UInt8) → StreamS
  | [] => S
  | b :: l => (S.take b).takes l
theorem takes_snoc (S : StreamS) (l : List (List UInt8)) (b : List UInt8) : S.takes (l ++ [b]) = (S.takes l).take b := by
  induction l generalizing S with
  | nil => rfl
  | cons x l ih => exact ih _
theorem takes_left {S : StreamS} (h : S.left.length ≤ 64) : ∀ l, (S.takes l).left.length ≤ 64
  | [] => h
  | b :: l => takes_left (S := S.take b) (Nat.le_of_lt (absorb_lt _ _)) l
def Parts (w : World) (p : Nat) (vs : List Value) (ls : List (List UInt8)) : Prop := vs.length = ls.length ∧ ∀ i (h : i < vs.length) (h' : i < ls.length), Bytes w vs[i] ls[i] ∧ blkE vs[i] ≤ p ∧ ls[i].length ≤ 10000000
def RelW (W : World) (p : Nat) (S : StreamS) (ls : List (List UInt8)) (i : Value) (w : World) : Prop :=
  ∃ n : Nat, n ≤ ls.length ∧ i = .int .i64 n ∧ (∃ v, StreamAt w p (S.takes (ls.take n)) v) ∧ Below p W w
theorem Bytes.below {B : Nat} {w w' : World} {v : Value} {l : List UInt8} (h : Bytes w v l) (hb : Below B w w') (hv : blkE v ≤ B) : Bytes w' v l := by
  obtain ⟨ao, c, rfl, h1, h2, h3, h4, h5⟩ := h
  refine ⟨ao, c, rfl, h1, h2, h3, h4, fun h0 => ?_⟩
  obtain ⟨b, o, rfl, hlt, hc⟩ := h5 h0
  refine ⟨b, o, rfl, Nat.lt_of_lt_of_le hlt hb.size, fun j u hj => ?_⟩
  have := hc j u hj
  simp only [blkE] at hv
  rw [if_neg (by omega)] at hv
  have he := hb.block b (by omega)
  simp only [World.cell?] at this ⊢
  rw [he]; exact this
set_option maxRecDepth 4000 in
theorem swrite_any (w : World) (p : Nat) (S : StreamS) (v : Value) (po : Option Addr) (pc : Nat) (vs : List Value) (ls : List (List UInt8)) (hS : StreamAt w p S v) (hv : Sl w (.slice po ls.length pc) ls.length 1 vs) (hvp : blkOf (.slice po ls.length pc) ≤ p) (hP : Parts w p vs ls) (ht : Table w) (hp : p ≠ 0) (hl : S.left.length ≤ 64) (hm : ls.length ≤ 1000000) :
    Calls Tryd.prog 75 #[.pointer (some ⟨p, 0, none⟩), .slice po ls.length pc] w (TakePost w p (S.takes ls)) := by
  have HS := Lib.hid (And.intro hS (And.intro hv (And.intro hvp (And.intro hP (And.intro ht (And.intro hp hl))))))
  clear hS hv hvp hP ht hp hl
  go_enter Tryd.func75, Tryd.ntmps75
  go_wp2
  go_loopw [8] (RelW w p S ls) (fun i _ => ((ls.length : Int) - intOf i).toNat)
  case atStart => exact ⟨0, Nat.zero_le _, rfl, ⟨v, HS.out.1⟩, Below.refl _ _⟩
  case round =>
    obtain ⟨n, hn, rfl, ⟨v', h1⟩, h2⟩ := hrel
    rcases Nat.lt_or_ge n ls.length with hlt | hge
    · have hvl : vs.length = ls.length := HS.out.2.2.2.1.1
      obtain ⟨b, o, hpo, hb, hc⟩ := Sl.addr HS.out.2.1 (by omega)
      subst hpo
      have hcn : w.cell? ⟨b, o + n, none⟩ = some (vs[n]'(by omega)) := hc n _ (by simp [hvl, hlt])
      have hcn' : wr.cell? ⟨b, o + n, none⟩ = some (vs[n]'(by omega)) := by
        have he := h2.block b (by have := HS.out.2.2.1; simp only [blkOf] at this; omega)
        simp only [World.cell?] at hcn ⊢
        rw [he]; exact hcn
      have hpn := HS.out.2.2.2.1.2 n (by omega) hlt
      have hB := Bytes.below hpn.1 h2 hpn.2.1
      have hstep : S.takes (ls.take (n + 1)) = (S.takes (ls.take n)).take ls[n] := by rw [← takes_snoc, List.take_append_getElem hlt]
      have hleft := takes_left HS.out.2.2.2.2.2.2 (ls.take n)
      have HX := Lib.hid (And.intro hB (And.intro hpn.2 (And.intro hstep (And.intro hleft (And.intro h1 h2)))))
      clear hB hpn hstep hleft h1 h2 hcn hc
      generalize vs[n]'(by omega) = x at *
      have hn1 : (n : Int) < ls.length := by omega
      go_wp2_with fail
      have hx := HX.out
      refine (take_any wr p (S.takes (ls.take n)) v' x ls[n] hx.2.2.2.2.1 hx.1 (by omega) (HS.out.2.2.2.2.1.below hx.2.2.2.2.2 (by have := HS.out.2.2.2.2.2.1; omega)) HS.out.2.2.2.2.2.1 (by omega)).mono ?_
      rintro e w2 ⟨rfl, h3, h4⟩
      have H3 := Lib.hid (And.intro h3 h4)
      clear h3 h4 hx
      go_wp2
      go_roundw
      case rel => exact ⟨n + 1, by omega, by go_num, HX.out.2.2.1 ▸ H3.out.1, HX.out.2.2.2.2.2.trans H3.out.2⟩
      case measure => simp [intOf]; omega
    · obtain rfl : n = ls.length := by omega
      go_wp2
      go_end0
      rw [List.take_length] at h1
      exact ⟨rfl, ⟨v', h1⟩, h2⟩

def ClonePost' (W : World) (S : StreamS) (e : Ending) (w : World) : Prop := ∃ p v, e = .returned (.pointer (some ⟨p, 0, none⟩)) ∧ StreamAt w p S v ∧ Upd [] W w ∧ W.heap.size ≤ p
set_option maxRecDepth 4000 in
theorem stclone_any (w : World) (p : Nat) (S : StreamS) (v : Value) (hS : StreamAt w p S v) (hl : S.left.length ≤ 1000) :
    Calls Tryd.prog 80 #[.pointer (some ⟨p, 0, none⟩)] w (ClonePost' w S) := by
  obtain ⟨h, l, n⟩ := S
  obtain ⟨h1, h2, h3, h4⟩ := hS
  dsimp only at h1 h2 h3 h4 hl
  obtain ⟨ao, ac, rfl, hac⟩ := id h2.sl
  have c0 := eng_cell h1 (k := 0) (by omega)
  have c8 := h1.cell (i := 8) (eng_rest h3 0)
  have hcs : ∀ j u, (h.map wv ++ [Value.slice ao l.length ac, Value.int .u64 (n : Int)])[j]? = some u → w.cell? (Addr.add ⟨p, 0, none⟩ j) = some u := fun j u hj => by
    have := h1.cell (i := j) (v := u) (by simpa [eng] using hj)
    rcases j with _ | j <;> simpa [Addr.add] using this
  have hln : (h.map wv ++ [Value.slice ao l.length ac, Value.int .u64 (n : Int)]).length = 10 := by simp [h3]
  have hsz : (Tryd.prog.info? 137).map (·.size) = some (h.map wv ++ [Value.slice ao l.length ac, Value.int .u64 (n : Int)]).length := by rw [hln]; kernel_rfl
  have hone : ((h.map wv ++ [Value.slice ao l.length ac, Value.int .u64 (n : Int)]).all fun u => u.oneCell') = true := by
    rw [List.all_append, List.all_eq_true.2 (wv_one h)]; rfl
  have HS := Lib.hid (And.intro h1 (And.intro h2 (And.intro h3 (And.intro h4 (And.intro hl (And.intro hcs (And.intro hln (And.intro hsz hone))))))))
  clear h1 h2 h3 h4 hl hcs hln hsz hone hac
  obtain ⟨q, hq⟩ : ∃ q, w.heap.size = q := ⟨_, rfl⟩
  have hQ := Lib.hid hq
  go_enter Tryd.func80, Tryd.ntmps80
  go_wp2_with (first | (with_reducible refine wpList_load_cells (o := ⟨some 6, _, _, _, _, _⟩) rfl 137 (.tmp 5) rfl ⟨p, 0, none⟩ rfl _ (h.map wv ++ [Value.slice ao l.length ac, Value.int .u64 (n : Int)]) HS.out.2.2.2.2.2.1 Tryd.underlying137 rfl HS.out.2.2.2.2.2.2.2.1 ?_) | (with_reducible refine wpList_store_blk (o := ⟨none, .store 137 (.tmp 3) (.tmp 6), _, _, _, _⟩) rfl 137 (.tmp 3) (.tmp 6) rfl (b := q) 0 rfl (Blk.newAt (w := w) hQ.out.symm _ _) (.agg (h.map wv ++ [Value.slice ao l.length ac, Value.int .u64 (n : Int)]).toArray) rfl (h.map wv ++ [Value.slice ao l.length ac, Value.int .u64 (n : Int)]) rfl ?_ HS.out.2.2.2.2.2.2.2.2 HS.out.2.2.2.2.2.2.2.1 ?_))
  · have := HS.out.2.2.2.2.2.2.1; rw [this]; simp
  intro w1 b1 u1
  rw [splice_all (by rw [HS.out.2.2.2.2.2.2.1]; rfl)] at b1
  have h8 := HS.out.2.2.1
  have u2 : Upd [] w w1 := Upd.fresh (by rw [hQ.out]; exact u1)
  have b2 : Blk w1 q (eng h [.slice ao l.length ac, .int .u64 n]) 137 := b1
  have s2 := HS.out.1.upd u2 (by simp)
  have c8p := (s2.alloc (.cells #[] 5)).cell (i := 8) (eng_rest h8 0)
  have m2 := HS.out.2.1.upd u2 (by simp)
  have hqs := b2.lt
  have hqp : p < q := by have := HS.out.1.lt; have := hQ.out; omega
  have B1 : Bytes (w1.alloc (.cells #[] 5)) (.slice ao l.length ac) l := m2.sl.upd ((Upd.refl [] w1).alloc _) (by simp)
  have M0 : MidB (w1.alloc (.cells #[] 5)) (q + 1) (.slice (some ⟨w1.heap.size, 0, none⟩) 0 0) [] := .inr ⟨w1.heap.size, 0, 0, #[], rfl, by omega, Blk.newAt rfl _ _, Nat.le_refl _, Nat.zero_le _, Nat.le_refl _, rfl⟩
  have G := Lib.hid (And.intro u2 (And.intro b2 (And.intro B1 (And.intro M0 (And.intro hqs hqp)))))
  clear b1 u1 u2 b2 s2 m2 hqs hqp c8 c0 h8 hq B1 M0
  go_wp2_with (at_builtin; refine wpList_appB _ rfl (.tmp 7) (.tmp 12) rfl (q + 1) (.slice (some ⟨w1.heap.size, 0, none⟩) 0 0) [] rfl G.out.2.2.2.1 (.slice ao l.length ac) l rfl G.out.2.2.1 (by have := HS.out.2.2.2.2.1; simp; omega) (by have := G.out.2.2.2.2.1; simp; omega) ?_)
  intro ao2 c2 w2 h2
  obtain ⟨ho, hu, hk⟩ := h2
  have u3 : Upd [] w1 w2 := ⟨hu.os, hu.tape, hu.output, Nat.le_trans (by simp) hu.size, fun k hk _ => (hu.block k (by simp; omega) (by simp [Value.ownBlock]; omega)).trans (heap_alloc_old w1 _ hk)⟩
  have b3 := G.out.2.1.upd u3 (by simp)
  have f8 := b3.frozen 8
  have b4 := b3.set 8 (.slice ao2 ([] ++ l).length c2)
  rw [eng_put8 HS.out.2.2.1] at b4
  have G3 := Lib.hid (And.intro u3 (And.intro b4 ho))
  have c8q := b3.cell (i := 8) (eng_rest HS.out.2.2.1 0)
  clear u3 b3 b4 ho hu hk
  go_wp2
  go_ret
  have e2 := G3.out.2.2
  have e1 := G3.out.2.1
  simp only [List.nil_append] at e1 e2
  have hu8 := upd_set (Upd.refl [q] w2) (b := q) (i := 8) (.inl (by simp)) (.slice ao2 l.length c2)
  have hv : blkOf (.slice ao2 l.length c2) ≠ q + 1 := by rcases e2.lt.2 with h | h <;> omega
  have hq := hQ.out
  exact ⟨q, .slice ao2 l.length c2, rfl, ⟨e1, e2.upd hu8 (only hv), HS.out.2.2.1, HS.out.2.2.2.1⟩, (G.out.1.trans G3.out.1 (by simp)).trans hu8 (by simp; omega), by omega⟩
end Go.Proofs.YtnfnaedoejgpiaaDoor
