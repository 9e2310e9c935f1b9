/- Streams, begun and written to. -/
import Derived.Test.YtnfnaedoejgpiaaDoorStream
import Derived.Test.YtnfnaedoejgpiaaDoorNew
namespace Go.Proofs.YtnfnaedoejgpiaaDoor
open Go.RowKit

/-- The words at the beginning. -/
def H0 : List (BitVec 32) := [0x6a09e667, 0xbb67ae85, 0x3c6ef372, 0xa54ff53a, 0x510e527f, 0x9b05688c, 0x1f83d9ab, 0x5be0cd19]
theorem eng_splice {h g : List (BitVec 32)} {rest : List Value} (hh : h.length = 8) (hg : g.length = 8) : splice (eng h rest) 0 (g.map wv) = eng g rest := by
  unfold splice eng
  simp [hg, List.drop_append, hh]
theorem begin_any (w : World) (p : Nat) (t : TypeId) (h : List (BitVec 32)) (rest : List Value) (hb : Blk w p (eng h rest) t) (hh : h.length = 8) :
    Calls Tryd.prog 78 #[.pointer (some ⟨p, 0, none⟩)] w fun e w' => e = .returned (.tuple #[]) ∧ Blk w' p (eng H0 rest) t ∧ Upd [p] w w' := by
  have c0 := eng_cell hb (k := 0) (by omega)
  have hs : 0 + (H0.map wv).length ≤ (eng h rest).size := by simp [H0, eng, hh]
  have HB := Lib.hid (And.intro hb (And.intro hh hs))
  clear hb hh hs
  go_enter Tryd.func78, Tryd.ntmps78
  go_wp2_with (with_reducible refine wpList_store_blk (o := ⟨none, .store 131 (.tmp 5) (.tmp 3), _, _, _, _⟩) rfl 131 (.tmp 5) (.tmp 3) rfl (b := p) 0 rfl HB.out.1 (.agg (H0.map wv).toArray) (by kernel_rfl) (H0.map wv) rfl HB.out.2.2 (by kernel_rfl) (by kernel_rfl) ?_)
  intro w1 b1 u1
  rw [eng_splice HB.out.2.1 rfl] at b1
  have G := Lib.hid (And.intro b1 u1)
  clear b1 u1
  go_wp2
  go_end0
  exact ⟨rfl, G.out.1, G.out.2⟩

def StreamS.new : StreamS := ⟨H0, [], 0⟩
def SNewPost (W : World) (e : Ending) (w : World) : Prop := ∃ p, e = .returned (.pointer (some ⟨p, 0, none⟩)) ∧ StreamAt w p StreamS.new (.slice none 0 0) ∧ Upd [] W w ∧ W.heap.size ≤ p
theorem eng_new : (#[.int .u32 0, .int .u32 0, .int .u32 0, .int .u32 0, .int .u32 0, .int .u32 0, .int .u32 0, .int .u32 0, .slice none 0 0, .int .u64 0] : Array Value) = eng (List.replicate 8 0) [.slice none 0 0, .int .u64 ((0 : Nat) : Int)] := by rfl
theorem snew_any (w : World) : Calls Tryd.prog 74 #[] w (SNewPost w) := by
  go_enter Tryd.func74, Tryd.ntmps74
  go_wp2_with fail
  have hb := Blk.new w (eng (List.replicate 8 0) [.slice none 0 0, .int .u64 ((0 : Nat) : Int)]) 137
  refine (begin_any _ w.heap.size 137 (List.replicate 8 0) [.slice none 0 0, .int .u64 ((0 : Nat) : Int)] hb rfl).mono ?_
  rintro e w1 ⟨rfl, b1, u1⟩
  have G := Lib.hid (And.intro b1 u1)
  clear b1 u1 hb
  go_wp2
  go_ret
  exact ⟨_, rfl, ⟨G.out.1, .inl ⟨rfl, rfl⟩, rfl, by decide⟩, Upd.fresh G.out.2, Nat.le_refl _⟩

theorem absorb_lt (h : List (BitVec 32)) (l : List UInt8) : (absorb h l).2.length < 64 := by
  fun_induction absorb h l with
  | case1 h l hl ih => exact ih
  | case2 h l hl => simpa using hl
/-- All parts, one behind the other. -/
def StreamS.takes (S : StreamS) : List (List UInt8) → StreamS
  | [] => S
  | b :: l => (S.take b).takes l
theorem takes_snoc (S : StreamS) (l : List (List UInt8)) (b : List UInt8) : S.takes (l ++ [b]) = (S.takes l).take b := by
  induction l generalizing S with
  | nil => rfl
  | cons x l ih => exact ih _
theorem takes_left {S : StreamS} (h : S.left.length ≤ 64) : ∀ l, (S.takes l).left.length ≤ 64
  | [] => h
  | b :: l => takes_left (S := S.take b) (Nat.le_of_lt (absorb_lt _ _)) l
def Parts (w : World) (p : Nat) (vs : List Value) (ls : List (List UInt8)) : Prop := vs.length = ls.length ∧ ∀ i (h : i < vs.length) (h' : i < ls.length), Bytes w vs[i] ls[i] ∧ blkOf vs[i] ≤ p ∧ ls[i].length ≤ 10000000
def RelW (W : World) (p : Nat) (S : StreamS) (ls : List (List UInt8)) (i : Value) (w : World) : Prop :=
  ∃ n : Nat, n ≤ ls.length ∧ i = .int .i64 n ∧ (∃ v, StreamAt w p (S.takes (ls.take n)) v) ∧ Below p W w
theorem Bytes.below {B : Nat} {w w' : World} {v : Value} {l : List UInt8} (h : Bytes w v l) (hb : Below B w w') (hv : blkOf v ≤ B) : Bytes w' v l := by
  obtain ⟨ao, c, rfl, h1, h2, h3, h4, h5⟩ := h
  refine ⟨ao, c, rfl, h1, h2, h3, h4, fun h0 => ?_⟩
  obtain ⟨b, o, rfl, hlt, hc⟩ := h5 h0
  refine ⟨b, o, rfl, Nat.lt_of_lt_of_le hlt hb.size, fun j u hj => ?_⟩
  have := hc j u hj
  simp only [blkOf] at hv
  have he := hb.block b (by omega)
  simp only [World.cell?] at this ⊢
  rw [he]; exact this
set_option maxRecDepth 4000 in
theorem swrite_any (w : World) (p : Nat) (S : StreamS) (v : Value) (po : Option Addr) (pc : Nat) (vs : List Value) (ls : List (List UInt8)) (hS : StreamAt w p S v) (hv : Sl w (.slice po ls.length pc) ls.length 1 vs) (hvp : blkOf (.slice po ls.length pc) ≤ p) (hP : Parts w p vs ls) (ht : Table w) (hp : p ≠ 0) (hl : S.left.length ≤ 64) (hm : ls.length ≤ 1000000) :
    Calls Tryd.prog 75 #[.pointer (some ⟨p, 0, none⟩), .slice po ls.length pc] w (TakePost w p (S.takes ls)) := by
  have HS := Lib.hid (And.intro hS (And.intro hv (And.intro hvp (And.intro hP (And.intro ht (And.intro hp hl))))))
  clear hS hv hvp hP ht hp hl
  go_enter Tryd.func75, Tryd.ntmps75
  go_wp2
  go_loopw [8] (RelW w p S ls) (fun i _ => ((ls.length : Int) - intOf i).toNat)
  case atStart => exact ⟨0, Nat.zero_le _, rfl, ⟨v, HS.out.1⟩, Below.refl _ _⟩
  case round =>
    obtain ⟨n, hn, rfl, ⟨v', h1⟩, h2⟩ := hrel
    rcases Nat.lt_or_ge n ls.length with hlt | hge
    · have hvl : vs.length = ls.length := HS.out.2.2.2.1.1
      obtain ⟨b, o, hpo, hb, hc⟩ := Sl.addr HS.out.2.1 (by omega)
      subst hpo
      have hcn : w.cell? ⟨b, o + n, none⟩ = some (vs[n]'(by omega)) := hc n _ (by simp [hvl, hlt])
      have hcn' : wr.cell? ⟨b, o + n, none⟩ = some (vs[n]'(by omega)) := by
        have he := h2.block b (by have := HS.out.2.2.1; simp only [blkOf] at this; omega)
        simp only [World.cell?] at hcn ⊢
        rw [he]; exact hcn
      have hpn := HS.out.2.2.2.1.2 n (by omega) hlt
      have hB := Bytes.below hpn.1 h2 hpn.2.1
      have hstep : S.takes (ls.take (n + 1)) = (S.takes (ls.take n)).take ls[n] := by rw [← takes_snoc, List.take_append_getElem hlt]
      have hleft := takes_left HS.out.2.2.2.2.2.2 (ls.take n)
      have HX := Lib.hid (And.intro hB (And.intro hpn.2 (And.intro hstep (And.intro hleft (And.intro h1 h2)))))
      clear hB hpn hstep hleft h1 h2 hcn hc
      generalize vs[n]'(by omega) = x at *
      have hn1 : (n : Int) < ls.length := by omega
      go_wp2_with fail
      have hx := HX.out
      refine (take_any wr p (S.takes (ls.take n)) v' x ls[n] hx.2.2.2.2.1 hx.1 (by omega) (HS.out.2.2.2.2.1.below hx.2.2.2.2.2 (by have := HS.out.2.2.2.2.2.1; omega)) HS.out.2.2.2.2.2.1 (by omega)).mono ?_
      rintro e w2 ⟨rfl, h3, h4⟩
      have H3 := Lib.hid (And.intro h3 h4)
      clear h3 h4 hx
      go_wp2
      go_roundw
      case rel => exact ⟨n + 1, by omega, by go_num, HX.out.2.2.1 ▸ H3.out.1, HX.out.2.2.2.2.2.trans H3.out.2⟩
      case measure => simp [intOf]; omega
    · obtain rfl : n = ls.length := by omega
      go_wp2
      go_end0
      rw [List.take_length] at h1
      exact ⟨rfl, ⟨v', h1⟩, h2⟩

def ClonePost' (W : World) (S : StreamS) (e : Ending) (w : World) : Prop := ∃ p v, e = .returned (.pointer (some ⟨p, 0, none⟩)) ∧ StreamAt w p S v ∧ Upd [] W w ∧ W.heap.size ≤ p
set_option maxRecDepth 4000 in
theorem stclone_any (w : World) (p : Nat) (S : StreamS) (v : Value) (hS : StreamAt w p S v) (hl : S.left.length ≤ 1000) :
    Calls Tryd.prog 80 #[.pointer (some ⟨p, 0, none⟩)] w (ClonePost' w S) := by
  obtain ⟨h, l, n⟩ := S
  obtain ⟨h1, h2, h3, h4⟩ := hS
  dsimp only at h1 h2 h3 h4 hl
  obtain ⟨ao, ac, rfl, hac⟩ := id h2.sl
  have c0 := eng_cell h1 (k := 0) (by omega)
  have c8 := h1.cell (i := 8) (eng_rest h3 0)
  have hcs : ∀ j u, (h.map wv ++ [Value.slice ao l.length ac, Value.int .u64 (n : Int)])[j]? = some u → w.cell? (Addr.add ⟨p, 0, none⟩ j) = some u := fun j u hj => by
    have := h1.cell (i := j) (v := u) (by simpa [eng] using hj)
    rcases j with _ | j <;> simpa [Addr.add] using this
  have hln : (h.map wv ++ [Value.slice ao l.length ac, Value.int .u64 (n : Int)]).length = 10 := by simp [h3]
  have hsz : (Tryd.prog.info? 137).map (·.size) = some (h.map wv ++ [Value.slice ao l.length ac, Value.int .u64 (n : Int)]).length := by rw [hln]; kernel_rfl
  have hone : ((h.map wv ++ [Value.slice ao l.length ac, Value.int .u64 (n : Int)]).all fun u => u.oneCell') = true := by
    rw [List.all_append, List.all_eq_true.2 (wv_one h)]; rfl
  have HS := Lib.hid (And.intro h1 (And.intro h2 (And.intro h3 (And.intro h4 (And.intro hl (And.intro hcs (And.intro hln (And.intro hsz hone))))))))
  clear h1 h2 h3 h4 hl hcs hln hsz hone hac
  obtain ⟨q, hq⟩ : ∃ q, w.heap.size = q := ⟨_, rfl⟩
  have hQ := Lib.hid hq
  go_enter Tryd.func80, Tryd.ntmps80
  go_wp2_with (first | (with_reducible refine wpList_load_cells (o := ⟨some 6, _, _, _, _, _⟩) rfl 137 (.tmp 5) rfl ⟨p, 0, none⟩ rfl _ (h.map wv ++ [Value.slice ao l.length ac, Value.int .u64 (n : Int)]) HS.out.2.2.2.2.2.1 Tryd.underlying137 rfl HS.out.2.2.2.2.2.2.2.1 ?_) | (with_reducible refine wpList_store_blk (o := ⟨none, .store 137 (.tmp 3) (.tmp 6), _, _, _, _⟩) rfl 137 (.tmp 3) (.tmp 6) rfl (b := q) 0 rfl (Blk.newAt (w := w) hQ.out.symm _ _) (.agg (h.map wv ++ [Value.slice ao l.length ac, Value.int .u64 (n : Int)]).toArray) rfl (h.map wv ++ [Value.slice ao l.length ac, Value.int .u64 (n : Int)]) rfl ?_ HS.out.2.2.2.2.2.2.2.2 HS.out.2.2.2.2.2.2.2.1 ?_))
  · have := HS.out.2.2.2.2.2.2.1; rw [this]; simp
  intro w1 b1 u1
  rw [splice_all (by rw [HS.out.2.2.2.2.2.2.1]; rfl)] at b1
  have h8 := HS.out.2.2.1
  have u2 : Upd [] w w1 := Upd.fresh (by rw [hQ.out]; exact u1)
  have b2 : Blk w1 q (eng h [.slice ao l.length ac, .int .u64 n]) 137 := b1
  have s2 := HS.out.1.upd u2 (by simp)
  have c8p := (s2.alloc (.cells #[] 5)).cell (i := 8) (eng_rest h8 0)
  have m2 := HS.out.2.1.upd u2 (by simp)
  have hqs := b2.lt
  have hqp : p < q := by have := HS.out.1.lt; have := hQ.out; omega
  have B1 : Bytes (w1.alloc (.cells #[] 5)) (.slice ao l.length ac) l := m2.sl.upd ((Upd.refl [] w1).alloc _) (by simp)
  have M0 : MidB (w1.alloc (.cells #[] 5)) (q + 1) (.slice (some ⟨w1.heap.size, 0, none⟩) 0 0) [] := .inr ⟨w1.heap.size, 0, 0, #[], rfl, by omega, Blk.newAt rfl _ _, Nat.le_refl _, Nat.zero_le _, Nat.le_refl _, rfl⟩
  have G := Lib.hid (And.intro u2 (And.intro b2 (And.intro B1 (And.intro M0 (And.intro hqs hqp)))))
  clear b1 u1 u2 b2 s2 m2 hqs hqp c8 c0 h8 hq B1 M0
  go_wp2_with (at_builtin; refine wpList_appB _ rfl (.tmp 7) (.tmp 12) rfl (q + 1) (.slice (some ⟨w1.heap.size, 0, none⟩) 0 0) [] rfl G.out.2.2.2.1 (.slice ao l.length ac) l rfl G.out.2.2.1 (by have := HS.out.2.2.2.2.1; simp; omega) (by have := G.out.2.2.2.2.1; simp; omega) ?_)
  intro ao2 c2 w2 h2
  obtain ⟨ho, hu, hk⟩ := h2
  have u3 : Upd [] w1 w2 := ⟨hu.os, hu.tape, hu.output, Nat.le_trans (by simp) hu.size, fun k hk _ => (hu.block k (by simp; omega) (by simp [Value.ownBlock]; omega)).trans (heap_alloc_old w1 _ hk)⟩
  have b3 := G.out.2.1.upd u3 (by simp)
  have f8 := b3.frozen 8
  have b4 := b3.set 8 (.slice ao2 ([] ++ l).length c2)
  rw [eng_put8 HS.out.2.2.1] at b4
  have G3 := Lib.hid (And.intro u3 (And.intro b4 ho))
  have c8q := b3.cell (i := 8) (eng_rest HS.out.2.2.1 0)
  clear u3 b3 b4 ho hu hk
  go_wp2
  go_ret
  have e2 := G3.out.2.2
  have e1 := G3.out.2.1
  simp only [List.nil_append] at e1 e2
  have hu8 := upd_set (Upd.refl [q] w2) (b := q) (i := 8) (.inl (by simp)) (.slice ao2 l.length c2)
  have hv : blkOf (.slice ao2 l.length c2) ≠ q + 1 := by rcases e2.lt.2 with h | h <;> omega
  have hq := hQ.out
  exact ⟨q, .slice ao2 l.length c2, rfl, ⟨e1, e2.upd hu8 (only hv), HS.out.2.2.1, HS.out.2.2.2.1⟩, (G.out.1.trans G3.out.1 (by simp)).trans hu8 (by simp; omega), by omega⟩
end Go.Proofs.YtnfnaedoejgpiaaDoor
