/- Words as 32 truths: what the reference's functions on them compute, said of words of 32 bits. What the reference's functions on words with one loop compute (printed by gen_bits.py). The reference's pick, digit and hex. (Printed by gen_pick.py.) -/
import Derived.Test.YtnfnaedoejgpiaaDoorCodec
import Derived.Test.YtnfnaedoejgpiaaDoorNew
import Derived.Test.YtnfnaedoejgpiaaDoorHeld
import Derived.Deep.DeepCutAuto
namespace Go.Proofs.YtnfnaedoejgpiaaDoor
open Go.RowKit

def bitArr (x : BitVec 32) : Array Value := ((List.range 32).map fun i => Value.bool (x.getLsbD i)).toArray
/-- The truths below k. -/
def halfArr (x : BitVec 32) (k : Nat) : Array Value := ((List.range 32).map fun i => Value.bool (decide (i < k) && x.getLsbD i)).toArray
theorem bit_at {x : BitVec 32} {i : Nat} (h : i < 32) : (bitArr x)[i]? = some (.bool (x.getLsbD i)) := by
  simp [bitArr, h]
theorem bit_size (x : BitVec 32) : (bitArr x).size = 32 := by simp [bitArr]
theorem half_at {x : BitVec 32} {k i : Nat} (h : i < 32) : (halfArr x k)[i]? = some (.bool (decide (i < k) && x.getLsbD i)) := by
  simp [halfArr, h]
theorem half_zero (x : BitVec 32) : halfArr x 0 = bitArr 0 := by
  unfold halfArr bitArr; exact congrArg List.toArray (List.map_congr_left fun i hi => by simp)
theorem half_all (x : BitVec 32) : halfArr x 32 = bitArr x := by
  unfold halfArr bitArr; exact congrArg List.toArray (List.map_congr_left fun i hi => by have := List.mem_range.1 hi; simp [this])
theorem half_set {x : BitVec 32} {k : Nat} {b : Bool} (hk : k < 32) (hb : b = x.getLsbD k) : (halfArr x k).setIfInBounds k (.bool b) = halfArr x (k + 1) := by
  subst hb
  unfold halfArr
  apply Array.ext'
  apply List.ext_getElem?
  intro i
  simp only [Array.toList_setIfInBounds, List.getElem?_set, List.length_map, List.length_range, List.getElem?_map]
  rcases Nat.lt_or_ge i 32 with h | h
  · rw [List.getElem?_range h]
    by_cases hik : k = i
    · subst hik; simp [h]
    · have : decide (i < k) = decide (i < k + 1) := by rw [decide_eq_decide]; omega
      simp [hik, this]
  · have hki : ¬ k = i := by omega
    simp [hki, List.getElem?_eq_none, h]
theorem bit_one (x : BitVec 32) : ((bitArr x).toList.all fun u => u.oneCell') = true := by
  rw [List.all_eq_true]; intro u hu
  simp only [bitArr, List.mem_map] at hu
  obtain ⟨i, _, rfl⟩ := hu; rfl
def BitPost (W : World) (x : BitVec 32) (e : Ending) (w : World) : Prop := e = .returned (.agg (bitArr x)) ∧ Upd [] W w
theorem size_bits : (Tryd.prog.info? 110).map (·.size) = some 32 := by kernel_rfl
/-- The blocks of a function on words: its arguments', its result's, its own. -/
structure Blks (w wr : World) (q : Nat) (l : List (Array Value)) : Prop where
  hq : w.heap.size = q
  at_ : ∀ i c, l[i]? = some c → Blk wr (q + i) c 110
  upd : Upd [] w wr
  size : q + l.length ≤ wr.heap.size
theorem Blks.nil (w : World) : Blks w w w.heap.size [] := ⟨rfl, by simp, Upd.refl _ _, by simp⟩
theorem Blks.more {w wr : World} {q : Nat} {l : List (Array Value)} (h : Blks w wr q l) (hs : q + l.length = wr.heap.size) (c : Array Value) : Blks w (wr.alloc (.cells c 110)) q (l ++ [c]) := by
  refine ⟨h.hq, fun i d hd => ?_, h.upd.alloc _, by simp; omega⟩
  rcases Nat.lt_or_ge i l.length with hi | hi
  · rw [List.getElem?_append_left hi] at hd
    exact (h.at_ i d hd).alloc _
  · rw [List.getElem?_append_right hi] at hd
    have h0 : i - l.length = 0 := by
      rcases Nat.eq_zero_or_pos (i - l.length) with h | h
      · exact h
      · rw [List.getElem?_eq_none (by simp; omega)] at hd; cases hd
    rw [h0] at hd
    simp only [List.getElem?_cons_zero, Option.some.injEq] at hd
    subst hd
    exact Blk.newAt (by omega) _ _
theorem Blks.drew {w wr : World} {q : Nat} {l : List (Array Value)} (h : Blks w wr q l) : Blks w wr.drew q l := ⟨h.hq, h.at_, h.upd.drew, h.size⟩
theorem Blks.set {w wr : World} {q n j : Nat} {l : List (Array Value)} {c d : Array Value} {u : Value} (h : Blks w wr q l) (hc : l[n]? = some c) (hd : c.setIfInBounds j u = d) : Blks w (wr.setCell ⟨q + n, j, none⟩ u) q (l.set n d) := by
  have hu := upd_set (Upd.refl [q + n] wr) (b := q + n) (i := j) (.inl (by simp)) u
  refine ⟨h.hq, fun i e he => ?_, h.upd.trans hu (by simp [h.hq]), by simpa [World.setCell] using Nat.le_trans h.size hu.size⟩
  by_cases hin : n = i
  · subst hin
    have hl := (List.getElem?_eq_some_iff.1 hc).1
    rw [List.getElem?_set_self hl] at he
    simp only [Option.some.injEq] at he
    subst he
    rw [← hd]; exact (h.at_ n c hc).set j u
  · rw [List.getElem?_set_ne hin] at he
    exact (h.at_ i e he).upd hu (by simp; omega)
def RelPlus (w : World) (q : Nat) (a b : BitVec 32) (c i : Value) (wr : World) : Prop :=
  ∃ k : Nat, k ≤ 32 ∧ i = .int .i64 k ∧ c = .bool (BitVec.carry k a b false) ∧ Blks w wr q [bitArr a, bitArr b, bitArr 0, halfArr (a + b) k]
set_option maxRecDepth 4000 in
set_option maxHeartbeats 1000000 in
theorem plus_any (w : World) (a b : BitVec 32) : Calls Tryd.prog 71 #[.agg (bitArr a), .agg (bitArr b)] w (BitPost w (a + b)) := by
  obtain ⟨q, hq⟩ : ∃ q, w.heap.size = q := ⟨_, rfl⟩
  have HQ := Lib.hid hq
  clear hq
  go_enter Tryd.func71, Tryd.ntmps71
  go_wp2_with fail
  have hq := HQ.out
  have b1 : Blks w (w.alloc (.cells (bitArr a) 110)) q [bitArr a] := by have := Blks.more (Blks.nil w) (by simp) (bitArr a); rw [hq] at this; exact this
  have b2 := b1.more (by simp; omega) (bitArr b)
  have b3 := b2.more (by simp; omega) (bitArr 0)
  have b4 := b3.more (by simp; omega) (bitArr 0)
  obtain ⟨w4, hw4⟩ : ∃ w4, (((w.alloc (.cells (bitArr a) 110)).alloc (.cells (bitArr b) 110)).alloc (.cells (bitArr 0) 110)).alloc (.cells (bitArr 0) 110) = w4 := ⟨_, rfl⟩
  have hw4' : (((w.alloc (.cells (bitArr a) 110)).alloc (.cells (bitArr b) 110)).alloc (.cells #[.bool false, .bool false, .bool false, .bool false, .bool false, .bool false, .bool false, .bool false, .bool false, .bool false, .bool false, .bool false, .bool false, .bool false, .bool false, .bool false, .bool false, .bool false, .bool false, .bool false, .bool false, .bool false, .bool false, .bool false, .bool false, .bool false, .bool false, .bool false, .bool false, .bool false, .bool false, .bool false] 110)).alloc (.cells #[.bool false, .bool false, .bool false, .bool false, .bool false, .bool false, .bool false, .bool false, .bool false, .bool false, .bool false, .bool false, .bool false, .bool false, .bool false, .bool false, .bool false, .bool false, .bool false, .bool false, .bool false, .bool false, .bool false, .bool false, .bool false, .bool false, .bool false, .bool false, .bool false, .bool false, .bool false, .bool false] 110) = w4 := hw4
  rw [hw4] at b4
  rw [hw4', hq]
  have B4 := Lib.hid b4
  clear b1 b2 b3 b4 hw4 hw4' hq
  go_loopw [6, 7] (RelPlus w q a b) (fun _ i _ => (32 - intOf i).toNat)
  case atStart => exact ⟨0, by omega, rfl, by simp, by rw [half_zero]; exact B4.out⟩
  case round =>
    obtain ⟨k, hk, rfl, rfl, hb⟩ := hrel
    rcases Nat.lt_or_ge k 32 with hlt | hge
    · have c1 : wr.cell? ⟨q, k, none⟩ = _ := (hb.at_ 0 _ rfl).cell (bit_at (x := a) hlt)
      have c2 : wr.cell? ⟨q + 1, k, none⟩ = _ := (hb.at_ 1 _ rfl).cell (bit_at (x := b) hlt)
      have f3 : wr.frozen? ⟨q + 1 + 1 + 1, k, none⟩ = false := (hb.at_ 3 _ rfl).frozen k
      obtain ⟨v3, c3⟩ : ∃ v, wr.cell? ⟨q + 1 + 1 + 1, k, none⟩ = some v := ⟨_, (hb.at_ 3 _ rfl).cell (half_at hlt)⟩
      have hadd := BitVec.getLsbD_add (w := 32) hlt a b
      have hcs := BitVec.carry_succ k a b false
      have hset : ∀ u : Bool, u = (a + b).getLsbD k → Blks w (wr.setCell ⟨q + 1 + 1 + 1, k, none⟩ (.bool u)) q [bitArr a, bitArr b, bitArr 0, halfArr (a + b) (k + 1)] := fun u hu => hb.set (n := 3) rfl (half_set hlt hu)
      rw [hadd] at hset
      have HX := Lib.hid (And.intro hset hcs)
      clear hset hadd hcs hb
      generalize a.getLsbD k = x at *
      generalize b.getLsbD k = y at *
      generalize BitVec.carry k a b false = z at *
      cases x <;> cases y <;> cases z
      all_goals
        go_wp2
        go_roundw
        case rel => exact ⟨k + 1, by omega, by go_num, by rw [HX.out.2]; rfl, HX.out.1 _ rfl⟩
        case measure => simp [intOf]; omega
    · obtain rfl : k = 32 := by omega
      rw [half_all] at hb
      have hld : (Tryd.prog.info? 110).map (·.size) = some (bitArr (a + b)).toList.length := by rw [size_bits]; simp [bit_size]
      have HX := Lib.hid (And.intro hb (And.intro hld (bit_one (a + b))))
      clear hb hld
      go_wp2_with (first | (with_reducible refine wpList_load_blk (o := ⟨some 33, _, _, _, _, _⟩) rfl 110 (.tmp 5) rfl (b := q + 1 + 1 + 1) 0 rfl (HX.out.1.at_ 3 _ rfl) _ (bitArr (a + b)).toList (fun j u hj => by rw [Nat.zero_add]; simpa using hj) Tryd.underlying110 rfl HX.out.2.1 ?_) | (with_reducible refine wpList_store_blk (o := ⟨none, .store 110 (.tmp 4) (.tmp 33), _, _, _, _⟩) rfl 110 (.tmp 4) (.tmp 33) rfl (b := q + 1 + 1) 0 rfl (HX.out.1.at_ 2 _ rfl) (.agg (bitArr (a + b)).toList.toArray) rfl (bitArr (a + b)).toList rfl ?_ HX.out.2.2 HX.out.2.1 ?_))
      · simp [bit_size]
      intro w2 b2 u2
      rw [splice_all (by simp [bit_size])] at b2
      have H2 := Lib.hid (And.intro b2 (HX.out.1.upd.trans u2 (by have := HX.out.1.hq; simp; omega)))
      clear b2 u2
      go_wp2
      refine bodyPost_ret (results_blk rfl _ H2.out.1 _ rfl Tryd.underlying110 rfl (by simpa [bit_size] using size_bits)) rfl ?_
      exact ⟨by simp, H2.out.2⟩
end Go.Proofs.YtnfnaedoejgpiaaDoor
namespace Go.Proofs.YtnfnaedoejgpiaaDoor
open Go.RowKit

def Relodd (w : World) (q : Nat) (a b c x : BitVec 32) (i : Value) (wr : World) : Prop :=
  ∃ k : Nat, k ≤ 32 ∧ i = .int .i64 k ∧ Blks w wr q [bitArr a, bitArr b, bitArr c, bitArr 0, halfArr x k]
set_option maxRecDepth 4000 in
set_option maxHeartbeats 2000000 in
theorem odd_any (w : World) (a b c : BitVec 32) : Calls Tryd.prog 69 #[.agg (bitArr a), .agg (bitArr b), .agg (bitArr c)] w (BitPost w (a ^^^ b ^^^ c)) := by
  obtain ⟨X, hX⟩ : ∃ X, a ^^^ b ^^^ c = X := ⟨_, rfl⟩
  rw [hX]
  have HXX := Lib.hid hX
  clear hX
  obtain ⟨q, hq⟩ : ∃ q, w.heap.size = q := ⟨_, rfl⟩
  have HQ := Lib.hid hq
  clear hq
  go_enter Tryd.func69, Tryd.ntmps69
  go_wp2_with fail
  have hq := HQ.out
  have b1 : Blks w (w.alloc (.cells (bitArr a) 110)) q [bitArr a] := by have := Blks.more (Blks.nil w) (by simp) (bitArr a); rw [hq] at this; exact this
  have b2 := b1.more (by simp; omega) (bitArr b)
  have b3 := b2.more (by simp; omega) (bitArr c)
  have b4 := b3.more (by simp; omega) (bitArr 0)
  have b5 := b4.more (by simp; omega) (bitArr 0)
  obtain ⟨w4, hw4⟩ : ∃ w4, (((((w.alloc (.cells (bitArr a) 110)).alloc (.cells (bitArr b) 110)).alloc (.cells (bitArr c) 110)).alloc (.cells (bitArr 0) 110)).alloc (.cells (bitArr 0) 110)) = w4 := ⟨_, rfl⟩
  have hw4' : (((((w.alloc (.cells (bitArr a) 110)).alloc (.cells (bitArr b) 110)).alloc (.cells (bitArr c) 110)).alloc (.cells #[.bool false, .bool false, .bool false, .bool false, .bool false, .bool false, .bool false, .bool false, .bool false, .bool false, .bool false, .bool false, .bool false, .bool false, .bool false, .bool false, .bool false, .bool false, .bool false, .bool false, .bool false, .bool false, .bool false, .bool false, .bool false, .bool false, .bool false, .bool false, .bool false, .bool false, .bool false, .bool false] 110)).alloc (.cells #[.bool false, .bool false, .bool false, .bool false, .bool false, .bool false, .bool false, .bool false, .bool false, .bool false, .bool false, .bool false, .bool false, .bool false, .bool false, .bool false, .bool false, .bool false, .bool false, .bool false, .bool false, .bool false, .bool false, .bool false, .bool false, .bool false, .bool false, .bool false, .bool false, .bool false, .bool false, .bool false] 110)) = w4 := hw4
  rw [hw4] at b5
  rw [hw4', hq]
  have B4 := Lib.hid b5
  clear b1 b2 b3 b4 b5 hw4 hw4' hq
  go_loopw [8] (Relodd w q a b c X) (fun i _ => (32 - intOf i).toNat)
  case atStart => exact ⟨0, by omega, rfl, by rw [half_zero]; exact B4.out⟩
  case round =>
    obtain ⟨k, hk, rfl, hb⟩ := hrel
    rcases Nat.lt_or_ge k 32 with hlt | hge
    · have f3 : wr.frozen? ⟨q + 1 + 1 + 1 + 1, k, none⟩ = false := (hb.at_ 4 _ rfl).frozen k
      obtain ⟨v3, c3⟩ : ∃ v, wr.cell? ⟨q + 1 + 1 + 1 + 1, k, none⟩ = some v := ⟨_, (hb.at_ 4 _ rfl).cell (half_at hlt)⟩
      have hset : ∀ u : Bool, u = X.getLsbD k → Blks w (wr.setCell ⟨q + 1 + 1 + 1 + 1, k, none⟩ (.bool u)) q [bitArr a, bitArr b, bitArr c, bitArr 0, halfArr X (k + 1)] := fun u hu => hb.set (n := 4) rfl (half_set hlt hu)
      have hval : X.getLsbD k = (a ^^^ b ^^^ c).getLsbD k := by rw [HXX.out]
      have c0 : wr.cell? ⟨q, k, none⟩ = _ := (hb.at_ 0 _ rfl).cell (bit_at (x := a) hlt)
      have c1 : wr.cell? ⟨q + 1, k, none⟩ = _ := (hb.at_ 1 _ rfl).cell (bit_at (x := b) hlt)
      have c2 : wr.cell? ⟨q + 1 + 1, k, none⟩ = _ := (hb.at_ 2 _ rfl).cell (bit_at (x := c) hlt)
      rw [BitVec.getLsbD_xor, BitVec.getLsbD_xor] at hval
      rw [hval] at hset
      have HX := Lib.hid hset
      clear hset hval hb
      generalize a.getLsbD k = x at *
      generalize b.getLsbD k = y at *
      generalize c.getLsbD k = z at *
      have S0 : wr.drew.cell? ⟨q, k, none⟩ = some (.bool x) ∧ wr.drew.cell? ⟨q + 1, k, none⟩ = some (.bool y) ∧ wr.drew.cell? ⟨q + 1 + 1, k, none⟩ = some (.bool z) := ⟨c0, c1, c2⟩
      clear c0 c1 c2
      go_wp2_with fail
      refine wp_region_ord (S := (fun w => w.cell? ⟨q, k, none⟩ = some (.bool x) ∧ w.cell? ⟨q + 1, k, none⟩ = some (.bool y) ∧ w.cell? ⟨q + 1 + 1, k, none⟩ = some (.bool z))) (.take 0 (.take 1 (.take 2 (.take 3 (.take 4 (.take 5 (.take 6 (.take 7 (.take 8 (.take 9 (.take 10 (.take 11 (.take 12 (.act 13 .done)))))))))))))) (by kernel_rfl) (by kernel_rfl) (fun _ _ d _ _ h => by cases d <;> exact h) ?_
      iterate 13 (refine ord_ex rfl rfl S0 ?_; apply Exists.intro; refine ⟨fun _ _ => ?_, ?_⟩; (focus (rename_i w hw; obtain ⟨c0, c1, c2⟩ := hw; go_simp; rfl)); simp only [Act.put, List.setIfInBounds_toArray, List.set_cons_zero, List.set_cons_succ, List.getElem_toArray, List.getElem_cons_succ, List.getElem_cons_zero])
      refine ord_act rfl ?_
      go_wp2_with fail
      refine ⟨fun h => Bool.noConfusion (h.symm.trans (by kernel_rfl : waitsAll _ _ _ = true)), ?_⟩
      show Exit.inBlock _ _ Exit.normal _ _
      go_wp2
      go_roundw
      case rel => exact ⟨k + 1, by omega, by go_num, (HX.out _ (by cases x <;> cases y <;> cases z <;> rfl)).drew⟩
      case measure => simp [intOf]; omega
    · obtain rfl : k = 32 := by omega
      rw [half_all] at hb
      have hld : (Tryd.prog.info? 110).map (·.size) = some (bitArr X).toList.length := by rw [size_bits]; simp [bit_size]
      have HX := Lib.hid (And.intro hb (And.intro hld (bit_one X)))
      clear hb hld
      go_wp2_with (first | (with_reducible refine wpList_load_blk (o := ⟨some 26, _, _, _, _, _⟩) rfl 110 (.tmp 7) rfl (b := q + 1 + 1 + 1 + 1) 0 rfl (HX.out.1.at_ 4 _ rfl) _ (bitArr X).toList (fun j u hj => by rw [Nat.zero_add]; simpa using hj) Tryd.underlying110 rfl HX.out.2.1 ?_) | (with_reducible refine wpList_store_blk (o := ⟨none, .store 110 (.tmp 6) (.tmp 26), _, _, _, _⟩) rfl 110 (.tmp 6) (.tmp 26) rfl (b := q + 1 + 1 + 1) 0 rfl (HX.out.1.at_ 3 _ rfl) (.agg (bitArr X).toList.toArray) rfl (bitArr X).toList rfl ?_ HX.out.2.2 HX.out.2.1 ?_))
      · simp [bit_size]
      intro w2 b2 u2
      rw [splice_all (by simp [bit_size])] at b2
      have H2 := Lib.hid (And.intro b2 (HX.out.1.upd.trans u2 (by have := HX.out.1.hq; simp; omega)))
      clear b2 u2
      go_wp2
      refine bodyPost_ret (results_blk rfl _ H2.out.1 _ rfl Tryd.underlying110 rfl (by simpa [bit_size] using size_bits)) rfl ?_
      exact ⟨by simp, H2.out.2⟩

def Relmost (w : World) (q : Nat) (a b c x : BitVec 32) (i : Value) (wr : World) : Prop :=
  ∃ k : Nat, k ≤ 32 ∧ i = .int .i64 k ∧ Blks w wr q [bitArr a, bitArr b, bitArr c, bitArr 0, halfArr x k]
set_option maxRecDepth 4000 in
set_option maxHeartbeats 2000000 in
theorem most_any (w : World) (a b c : BitVec 32) : Calls Tryd.prog 73 #[.agg (bitArr a), .agg (bitArr b), .agg (bitArr c)] w (BitPost w ((a &&& b) ||| (a &&& c) ||| (b &&& c))) := by
  obtain ⟨X, hX⟩ : ∃ X, (a &&& b) ||| (a &&& c) ||| (b &&& c) = X := ⟨_, rfl⟩
  rw [hX]
  have HXX := Lib.hid hX
  clear hX
  obtain ⟨q, hq⟩ : ∃ q, w.heap.size = q := ⟨_, rfl⟩
  have HQ := Lib.hid hq
  clear hq
  go_enter Tryd.func73, Tryd.ntmps73
  go_wp2_with fail
  have hq := HQ.out
  have b1 : Blks w (w.alloc (.cells (bitArr a) 110)) q [bitArr a] := by have := Blks.more (Blks.nil w) (by simp) (bitArr a); rw [hq] at this; exact this
  have b2 := b1.more (by simp; omega) (bitArr b)
  have b3 := b2.more (by simp; omega) (bitArr c)
  have b4 := b3.more (by simp; omega) (bitArr 0)
  have b5 := b4.more (by simp; omega) (bitArr 0)
  obtain ⟨w4, hw4⟩ : ∃ w4, (((((w.alloc (.cells (bitArr a) 110)).alloc (.cells (bitArr b) 110)).alloc (.cells (bitArr c) 110)).alloc (.cells (bitArr 0) 110)).alloc (.cells (bitArr 0) 110)) = w4 := ⟨_, rfl⟩
  have hw4' : (((((w.alloc (.cells (bitArr a) 110)).alloc (.cells (bitArr b) 110)).alloc (.cells (bitArr c) 110)).alloc (.cells #[.bool false, .bool false, .bool false, .bool false, .bool false, .bool false, .bool false, .bool false, .bool false, .bool false, .bool false, .bool false, .bool false, .bool false, .bool false, .bool false, .bool false, .bool false, .bool false, .bool false, .bool false, .bool false, .bool false, .bool false, .bool false, .bool false, .bool false, .bool false, .bool false, .bool false, .bool false, .bool false] 110)).alloc (.cells #[.bool false, .bool false, .bool false, .bool false, .bool false, .bool false, .bool false, .bool false, .bool false, .bool false, .bool false, .bool false, .bool false, .bool false, .bool false, .bool false, .bool false, .bool false, .bool false, .bool false, .bool false, .bool false, .bool false, .bool false, .bool false, .bool false, .bool false, .bool false, .bool false, .bool false, .bool false, .bool false] 110)) = w4 := hw4
  rw [hw4] at b5
  rw [hw4', hq]
  have B4 := Lib.hid b5
  clear b1 b2 b3 b4 b5 hw4 hw4' hq
  go_loopw [8] (Relmost w q a b c X) (fun i _ => (32 - intOf i).toNat)
  case atStart => exact ⟨0, by omega, rfl, by rw [half_zero]; exact B4.out⟩
  case round =>
    obtain ⟨k, hk, rfl, hb⟩ := hrel
    rcases Nat.lt_or_ge k 32 with hlt | hge
    · have f3 : wr.frozen? ⟨q + 1 + 1 + 1 + 1, k, none⟩ = false := (hb.at_ 4 _ rfl).frozen k
      obtain ⟨v3, c3⟩ : ∃ v, wr.cell? ⟨q + 1 + 1 + 1 + 1, k, none⟩ = some v := ⟨_, (hb.at_ 4 _ rfl).cell (half_at hlt)⟩
      have hset : ∀ u : Bool, u = X.getLsbD k → Blks w (wr.setCell ⟨q + 1 + 1 + 1 + 1, k, none⟩ (.bool u)) q [bitArr a, bitArr b, bitArr c, bitArr 0, halfArr X (k + 1)] := fun u hu => hb.set (n := 4) rfl (half_set hlt hu)
      have hval : X.getLsbD k = ((a &&& b) ||| (a &&& c) ||| (b &&& c)).getLsbD k := by rw [HXX.out]
      have c0 : wr.cell? ⟨q, k, none⟩ = _ := (hb.at_ 0 _ rfl).cell (bit_at (x := a) hlt)
      have c1 : wr.cell? ⟨q + 1, k, none⟩ = _ := (hb.at_ 1 _ rfl).cell (bit_at (x := b) hlt)
      have c2 : wr.cell? ⟨q + 1 + 1, k, none⟩ = _ := (hb.at_ 2 _ rfl).cell (bit_at (x := c) hlt)
      rw [BitVec.getLsbD_or, BitVec.getLsbD_or, BitVec.getLsbD_and, BitVec.getLsbD_and, BitVec.getLsbD_and] at hval
      rw [hval] at hset
      have HX := Lib.hid hset
      clear hset hval hb
      generalize a.getLsbD k = x at *
      generalize b.getLsbD k = y at *
      generalize c.getLsbD k = z at *
      cases x <;> cases y <;> cases z
      all_goals
        go_wp2
        go_roundw
        case rel => exact ⟨k + 1, by omega, by go_num, HX.out _ rfl⟩
        case measure => simp [intOf]; omega
    · obtain rfl : k = 32 := by omega
      rw [half_all] at hb
      have hld : (Tryd.prog.info? 110).map (·.size) = some (bitArr X).toList.length := by rw [size_bits]; simp [bit_size]
      have HX := Lib.hid (And.intro hb (And.intro hld (bit_one X)))
      clear hb hld
      go_wp2_with (first | (with_reducible refine wpList_load_blk (o := ⟨some 43, _, _, _, _, _⟩) rfl 110 (.tmp 7) rfl (b := q + 1 + 1 + 1 + 1) 0 rfl (HX.out.1.at_ 4 _ rfl) _ (bitArr X).toList (fun j u hj => by rw [Nat.zero_add]; simpa using hj) Tryd.underlying110 rfl HX.out.2.1 ?_) | (with_reducible refine wpList_store_blk (o := ⟨none, .store 110 (.tmp 6) (.tmp 43), _, _, _, _⟩) rfl 110 (.tmp 6) (.tmp 43) rfl (b := q + 1 + 1 + 1) 0 rfl (HX.out.1.at_ 3 _ rfl) (.agg (bitArr X).toList.toArray) rfl (bitArr X).toList rfl ?_ HX.out.2.2 HX.out.2.1 ?_))
      · simp [bit_size]
      intro w2 b2 u2
      rw [splice_all (by simp [bit_size])] at b2
      have H2 := Lib.hid (And.intro b2 (HX.out.1.upd.trans u2 (by have := HX.out.1.hq; simp; omega)))
      clear b2 u2
      go_wp2
      refine bodyPost_ret (results_blk rfl _ H2.out.1 _ rfl Tryd.underlying110 rfl (by simpa [bit_size] using size_bits)) rfl ?_
      exact ⟨by simp, H2.out.2⟩

/-- A word turned right by n, or (r = false) moved. -/
def rightB (a : BitVec 32) (n : Nat) (r : Bool) : BitVec 32 := if r then a.rotateRight n else a >>> n
theorem right_lo {a : BitVec 32} {n k : Nat} {r : Bool} (h : k + n < 32) : (rightB a n r).getLsbD k = a.getLsbD (k + n) := by
  unfold rightB; split
  · rw [BitVec.getLsbD_rotateRight]
    have : n % 32 = n := Nat.mod_eq_of_lt (by omega)
    have h2 : decide (k < 32 - n) = true := by rw [decide_eq_true_eq]; omega
    rw [this, h2, Nat.add_comm]; rfl
  · rw [BitVec.getLsbD_ushiftRight, Nat.add_comm]
theorem right_hi {a : BitVec 32} {n k : Nat} {r : Bool} (h : k + n ≥ 32) (hk : k < 32) (hn : n < 32) : (rightB a n r).getLsbD k = (r && a.getLsbD (k + n - 32)) := by
  unfold rightB; cases r
  · show (a >>> n).getLsbD k = _
    rw [BitVec.getLsbD_ushiftRight, BitVec.getLsbD_of_ge _ _ (by omega)]; rfl
  · simp only [if_true, Bool.true_and]
    rw [BitVec.getLsbD_rotateRight]
    have : n % 32 = n := Nat.mod_eq_of_lt hn
    have h2 : decide (k < 32 - n) = false := by rw [decide_eq_false_iff_not]; omega
    have e : k - (32 - n) = k + n - 32 := by omega
    rw [this, h2, e]; simp [hk]
theorem half_same {x : BitVec 32} {k : Nat} (h : x.getLsbD k = false) : halfArr x (k + 1) = halfArr x k := by
  unfold halfArr
  exact congrArg List.toArray (List.map_congr_left fun i _ => by
    by_cases hik : i = k
    · subst hik; simp [h]
    · have : decide (i < k + 1) = decide (i < k) := by rw [decide_eq_decide]; omega
      rw [this])
def Relright (w : World) (q : Nat) (a x : BitVec 32) (i : Value) (wr : World) : Prop :=
  ∃ k : Nat, k ≤ 32 ∧ i = .int .i64 k ∧ Blks w wr q [bitArr a, bitArr 0, halfArr x k]
set_option maxRecDepth 4000 in
set_option maxHeartbeats 2000000 in
theorem right_any (w : World) (a : BitVec 32) (n : Nat) (r : Bool) (hn : n < 32) : Calls Tryd.prog 70 #[.agg (bitArr a), .int .i64 n, .bool r] w (BitPost w (rightB a n r)) := by
  obtain ⟨X, hX⟩ : ∃ X, rightB a n r = X := ⟨_, rfl⟩
  rw [hX]
  have HXX := Lib.hid hX
  clear hX
  obtain ⟨q, hq⟩ : ∃ q, w.heap.size = q := ⟨_, rfl⟩
  have HQ := Lib.hid hq
  clear hq
  go_enter Tryd.func70, Tryd.ntmps70
  go_wp2_with fail
  have hq := HQ.out
  have b1 : Blks w (w.alloc (.cells (bitArr a) 110)) q [bitArr a] := by have := Blks.more (Blks.nil w) (by simp) (bitArr a); rw [hq] at this; exact this
  have b2 := b1.more (by simp; omega) (bitArr 0)
  have b3 := b2.more (by simp; omega) (bitArr 0)
  obtain ⟨w4, hw4⟩ : ∃ w4, (((w.alloc (.cells (bitArr a) 110)).alloc (.cells (bitArr 0) 110)).alloc (.cells (bitArr 0) 110)) = w4 := ⟨_, rfl⟩
  have hw4' : (((w.alloc (.cells (bitArr a) 110)).alloc (.cells #[.bool false, .bool false, .bool false, .bool false, .bool false, .bool false, .bool false, .bool false, .bool false, .bool false, .bool false, .bool false, .bool false, .bool false, .bool false, .bool false, .bool false, .bool false, .bool false, .bool false, .bool false, .bool false, .bool false, .bool false, .bool false, .bool false, .bool false, .bool false, .bool false, .bool false, .bool false, .bool false] 110)).alloc (.cells #[.bool false, .bool false, .bool false, .bool false, .bool false, .bool false, .bool false, .bool false, .bool false, .bool false, .bool false, .bool false, .bool false, .bool false, .bool false, .bool false, .bool false, .bool false, .bool false, .bool false, .bool false, .bool false, .bool false, .bool false, .bool false, .bool false, .bool false, .bool false, .bool false, .bool false, .bool false, .bool false] 110)) = w4 := hw4
  rw [hw4] at b3
  rw [hw4', hq]
  have B4 := Lib.hid b3
  clear b1 b2 b3 hw4 hw4' hq
  go_loopw [8] (Relright w q a X) (fun i _ => (32 - intOf i).toNat)
  case atStart => exact ⟨0, by omega, rfl, by rw [half_zero]; exact B4.out⟩
  case round =>
    obtain ⟨k, hk, rfl, hb⟩ := hrel
    rcases Nat.lt_or_ge k 32 with hlt | hge
    · have f3 : wr.frozen? ⟨q + 1 + 1, k, none⟩ = false := (hb.at_ 2 _ rfl).frozen k
      obtain ⟨v3, c3⟩ : ∃ v, wr.cell? ⟨q + 1 + 1, k, none⟩ = some v := ⟨_, (hb.at_ 2 _ rfl).cell (half_at hlt)⟩
      have hset : ∀ u : Bool, u = X.getLsbD k → Blks w (wr.setCell ⟨q + 1 + 1, k, none⟩ (.bool u)) q [bitArr a, bitArr 0, halfArr X (k + 1)] := fun u hu => hb.set (n := 2) rfl (half_set hlt hu)
      have hval : X.getLsbD k = (rightB a n r).getLsbD k := by rw [HXX.out]
      have hn0 : (0 : Int) ≤ (n : Int) := by omega
      rcases Nat.lt_or_ge (k + n) 32 with h1 | h1
      · have c0 : wr.cell? ⟨q, k + n, none⟩ = _ := (hb.at_ 0 _ rfl).cell (bit_at (x := a) h1)
        have hbit : X.getLsbD k = a.getLsbD (k + n) := by rw [hval]; exact right_lo h1
        have e1 : ((k : Int) + (n : Int)).toNat = k + n := by omega
        rw [hbit] at hset
        have HX := Lib.hid hset
        clear hset hval hb hbit
        generalize a.getLsbD (k + n) = x at *
        go_wp2
        go_roundw
        case rel => exact ⟨k + 1, by omega, by go_num, HX.out _ rfl⟩
        case measure => simp [intOf]; omega
      · have c0 : wr.cell? ⟨q, k + n - 32, none⟩ = _ := (hb.at_ 0 _ rfl).cell (bit_at (x := a) (by omega))
        have hbit : X.getLsbD k = (r && a.getLsbD (k + n - 32)) := by rw [hval]; exact right_hi h1 hlt hn
        have e1 : ((k : Int) + (n : Int) - 32).toNat = k + n - 32 := by omega
        cases r with
        | true =>
          rw [hbit] at hset
          have HX := Lib.hid hset
          clear hset hval hb hbit
          generalize a.getLsbD (k + n - 32) = x at *
          go_wp2
          go_roundw
          case rel => exact ⟨k + 1, by omega, by go_num, HX.out _ (by cases x <;> rfl)⟩
          case measure => simp [intOf]; omega
        | false =>
          have hk1 : halfArr X (k + 1) = halfArr X k := half_same (by simpa using hbit)
          rw [← hk1] at hb
          have HX := Lib.hid hb
          clear hset hval hb hbit hk1 c0
          go_wp2
          go_roundw
          case rel => exact ⟨k + 1, by omega, by go_num, HX.out⟩
          case measure => simp [intOf]; omega
    · obtain rfl : k = 32 := by omega
      rw [half_all] at hb
      have hld : (Tryd.prog.info? 110).map (·.size) = some (bitArr X).toList.length := by rw [size_bits]; simp [bit_size]
      have HX := Lib.hid (And.intro hb (And.intro hld (bit_one X)))
      clear hb hld
      go_wp2_with (first | (with_reducible refine wpList_load_blk (o := ⟨some 33, _, _, _, _, _⟩) rfl 110 (.tmp 7) rfl (b := q + 1 + 1) 0 rfl (HX.out.1.at_ 2 _ rfl) _ (bitArr X).toList (fun j u hj => by rw [Nat.zero_add]; simpa using hj) Tryd.underlying110 rfl HX.out.2.1 ?_) | (with_reducible refine wpList_store_blk (o := ⟨none, .store 110 (.tmp 6) (.tmp 33), _, _, _, _⟩) rfl 110 (.tmp 6) (.tmp 33) rfl (b := q + 1) 0 rfl (HX.out.1.at_ 1 _ rfl) (.agg (bitArr X).toList.toArray) rfl (bitArr X).toList rfl ?_ HX.out.2.2 HX.out.2.1 ?_))
      · simp [bit_size]
      intro w2 b2 u2
      rw [splice_all (by simp [bit_size])] at b2
      have H2 := Lib.hid (And.intro b2 (HX.out.1.upd.trans u2 (by have := HX.out.1.hq; simp; omega)))
      clear b2 u2
      go_wp2
      refine bodyPost_ret (results_blk rfl _ H2.out.1 _ rfl Tryd.underlying110 rfl (by simpa [bit_size] using size_bits)) rfl ?_
      exact ⟨by simp, H2.out.2⟩

end Go.Proofs.YtnfnaedoejgpiaaDoor
namespace Go.Proofs.YtnfnaedoejgpiaaDoor
open Go.RowKit

/-- The truths of x below k, those of y from k on. -/
def mixArr (x y : BitVec 32) (k : Nat) : Array Value := ((List.range 32).map fun i => Value.bool (if i < k then x.getLsbD i else y.getLsbD i)).toArray
theorem mix_zero (x y : BitVec 32) : mixArr x y 0 = bitArr y := by
  unfold mixArr bitArr; exact congrArg List.toArray (List.map_congr_left fun i hi => by simp)
theorem mix_all (x y : BitVec 32) : mixArr x y 32 = bitArr x := by
  unfold mixArr bitArr; exact congrArg List.toArray (List.map_congr_left fun i hi => by have := List.mem_range.1 hi; simp [this])
theorem mix_at {x y : BitVec 32} {k i : Nat} (h : i < 32) : ∃ v, (mixArr x y k)[i]? = some v := by
  simp [mixArr, h]
theorem mix_set {x y : BitVec 32} {k : Nat} {b : Bool} (hk : k < 32) (hb : b = x.getLsbD k) : (mixArr x y k).setIfInBounds k (.bool b) = mixArr x y (k + 1) := by
  subst hb
  unfold mixArr
  apply Array.ext'
  apply List.ext_getElem?
  intro i
  simp only [Array.toList_setIfInBounds, List.getElem?_set, List.length_map, List.length_range, List.getElem?_map]
  rcases Nat.lt_or_ge i 32 with h | h
  · rw [List.getElem?_range h]
    by_cases hik : k = i
    · subst hik; simp [h]
    · have : (i < k) ↔ (i < k + 1) := by omega
      simp only [hik, this, if_false, Option.map_some]
  · have hki : ¬ k = i := by omega
    simp [hki, List.getElem?_eq_none, h]
theorem mix_same {x y : BitVec 32} {k : Nat} (h : x.getLsbD k = y.getLsbD k) : mixArr x y (k + 1) = mixArr x y k := by
  unfold mixArr
  exact congrArg List.toArray (List.map_congr_left fun i _ => by
    by_cases hik : i = k
    · subst hik; simp [h]
    · have : (i < k + 1) ↔ (i < k) := by omega
      simp only [this])
def RelPick (w : World) (q : Nat) (a b c x : BitVec 32) (i : Value) (wr : World) : Prop :=
  ∃ k : Nat, k ≤ 32 ∧ i = .int .i64 k ∧ Blks w wr q [bitArr a, bitArr b, bitArr c, bitArr 0, mixArr x c k]
set_option maxRecDepth 4000 in
set_option maxHeartbeats 2000000 in
theorem pick_any (w : World) (a b c : BitVec 32) : Calls Tryd.prog 72 #[.agg (bitArr a), .agg (bitArr b), .agg (bitArr c)] w (BitPost w ((a &&& b) ||| (~~~a &&& c))) := by
  obtain ⟨X, hX⟩ : ∃ X, (a &&& b) ||| (~~~a &&& c) = X := ⟨_, rfl⟩
  rw [hX]
  have HXX := Lib.hid hX
  clear hX
  obtain ⟨q, hq⟩ : ∃ q, w.heap.size = q := ⟨_, rfl⟩
  have HQ := Lib.hid hq
  clear hq
  have hlc : (Tryd.prog.info? 110).map (·.size) = some (bitArr c).toList.length := by rw [size_bits]; simp [bit_size]
  have HLC := Lib.hid (And.intro hlc (bit_one c))
  clear hlc
  have hq := HQ.out
  have b1 : Blks w (w.alloc (.cells (bitArr a) 110)) q [bitArr a] := by have := Blks.more (Blks.nil w) (by simp) (bitArr a); rw [hq] at this; exact this
  have b2 := b1.more (by simp; omega) (bitArr b)
  have b3 := b2.more (by simp; omega) (bitArr c)
  have b4 := b3.more (by simp; omega) (bitArr 0)
  obtain ⟨w4, hw4⟩ : ∃ w4, (((w.alloc (.cells (bitArr a) 110)).alloc (.cells (bitArr b) 110)).alloc (.cells (bitArr c) 110)).alloc (.cells (bitArr 0) 110) = w4 := ⟨_, rfl⟩
  rw [hw4] at b4
  have b5 := b4.more (by rw [← hw4]; simp; omega) (bitArr 0)
  have hs4 : w4.heap.size = q + 1 + 1 + 1 + 1 := by rw [← hw4]; simp; omega
  have B4 := Lib.hid (And.intro b4 hs4)
  have B5 := Lib.hid b5
  have HW4 := Lib.hid hw4
  clear b1 b2 b3 b4 b5 hq hs4 hw4
  go_enter Tryd.func72, Tryd.ntmps72
  go_upto_region 1 with (fail)
  have hw4' : (((w.alloc (.cells (bitArr a) 110)).alloc (.cells (bitArr b) 110)).alloc (.cells (bitArr c) 110)).alloc (.cells #[.bool false, .bool false, .bool false, .bool false, .bool false, .bool false, .bool false, .bool false, .bool false, .bool false, .bool false, .bool false, .bool false, .bool false, .bool false, .bool false, .bool false, .bool false, .bool false, .bool false, .bool false, .bool false, .bool false, .bool false, .bool false, .bool false, .bool false, .bool false, .bool false, .bool false, .bool false, .bool false] 110) = w4 := HW4.out
  rw [hw4', HQ.out]
  clear hw4'
  go_wp2_with (first | (with_reducible refine wpList_load_blk (o := ⟨some 9, _, _, _, _, _⟩) rfl 110 (.tmp 5) rfl (b := q + 1 + 1) 0 rfl (B4.out.1.at_ 2 _ rfl) _ (bitArr c).toList (fun j u hj => by rw [Nat.zero_add]; simpa using hj) Tryd.underlying110 rfl HLC.out.1 ?_) | (with_reducible refine wpList_store_blk (o := ⟨none, .store 110 (.tmp 7) (.tmp 9), _, _, _, _⟩) rfl 110 (.tmp 7) (.tmp 9) rfl (b := w4.heap.size) 0 rfl (Blk.new w4 _ _) (.agg (bitArr c).toList.toArray) rfl (bitArr c).toList rfl ?_ HLC.out.2 HLC.out.1 ?_))
  · simp [bit_size]
  intro w6 b6 u6
  rw [splice_all (by simp [bit_size])] at b6
  have hu6 := u6.fresh
  rw [B4.out.2] at b6 ⊢
  have hB : Blks w w6 q [bitArr a, bitArr b, bitArr c, bitArr 0, mixArr X c 0] := by
    have hq := HQ.out
    have hs := B4.out.2
    have hz := u6.size
    refine ⟨HQ.out, fun i d hd => ?_, B4.out.1.upd.trans hu6 (by simp), by simp at hz ⊢; omega⟩
    have hi : i = 0 ∨ i = 1 ∨ i = 2 ∨ i = 3 ∨ i = 4 := by
      have := (List.getElem?_eq_some_iff.1 hd).1
      simp at this; omega
    rcases hi with rfl | rfl | rfl | rfl | rfl
    · exact (B4.out.1.at_ 0 d hd).upd hu6 (by simp)
    · exact (B4.out.1.at_ 1 d hd).upd hu6 (by simp)
    · exact (B4.out.1.at_ 2 d hd).upd hu6 (by simp)
    · exact (B4.out.1.at_ 3 d hd).upd hu6 (by simp)
    · simp only [List.getElem?_cons_succ, List.getElem?_cons_zero, Option.some.injEq] at hd
      rw [← hd, mix_zero]; exact b6
  have HB := Lib.hid hB
  clear hB b6 u6 hu6
  go_wp2_with fail
  go_loopw [8] (RelPick w q a b c X) (fun i _ => (32 - intOf i).toNat)
  case atStart => exact ⟨0, by omega, rfl, HB.out⟩
  case round =>
    obtain ⟨k, hk, rfl, hb⟩ := hrel
    rcases Nat.lt_or_ge k 32 with hlt | hge
    · have f3 : wr.frozen? ⟨q + 1 + 1 + 1 + 1, k, none⟩ = false := (hb.at_ 4 _ rfl).frozen k
      obtain ⟨v3, c3⟩ : ∃ v, wr.cell? ⟨q + 1 + 1 + 1 + 1, k, none⟩ = some v := by
        obtain ⟨v, hv⟩ := mix_at (x := X) (y := c) (k := k) hlt
        exact ⟨v, (hb.at_ 4 _ rfl).cell hv⟩
      have c0 : wr.cell? ⟨q, k, none⟩ = _ := (hb.at_ 0 _ rfl).cell (bit_at (x := a) hlt)
      have c1 : wr.cell? ⟨q + 1, k, none⟩ = _ := (hb.at_ 1 _ rfl).cell (bit_at (x := b) hlt)
      have hset : ∀ u : Bool, u = X.getLsbD k → Blks w (wr.setCell ⟨q + 1 + 1 + 1 + 1, k, none⟩ (.bool u)) q [bitArr a, bitArr b, bitArr c, bitArr 0, mixArr X c (k + 1)] := fun u hu => hb.set (n := 4) rfl (mix_set hlt hu)
      have hval : X.getLsbD k = (if a.getLsbD k then b.getLsbD k else c.getLsbD k) := by
        rw [← HXX.out, BitVec.getLsbD_or, BitVec.getLsbD_and, BitVec.getLsbD_and, BitVec.getLsbD_not]
        cases a.getLsbD k <;> simp [hlt]
      cases hx : a.getLsbD k with
      | true =>
        rw [hx] at c0 hval
        rw [hval] at hset
        have HX := Lib.hid hset
        clear hset hval hb hx
        generalize b.getLsbD k = y at *
        go_wp2
        go_roundw
        case rel => exact ⟨k + 1, by omega, by go_num, HX.out _ rfl⟩
        case measure => simp [intOf]; omega
      | false =>
        rw [hx] at c0 hval
        rw [← mix_same (by simpa using hval)] at hb
        have HX := Lib.hid hb
        clear hset hval hb hx
        go_wp2
        go_roundw
        case rel => exact ⟨k + 1, by omega, by go_num, HX.out⟩
        case measure => simp [intOf]; omega
    · obtain rfl : k = 32 := by omega
      rw [mix_all] at hb
      have hld : (Tryd.prog.info? 110).map (·.size) = some (bitArr X).toList.length := by rw [size_bits]; simp [bit_size]
      have HX := Lib.hid (And.intro hb (And.intro hld (bit_one X)))
      clear hb hld
      go_wp2_with (first | (with_reducible refine wpList_load_blk (o := ⟨some 22, _, _, _, _, _⟩) rfl 110 (.tmp 7) rfl (b := q + 1 + 1 + 1 + 1) 0 rfl (HX.out.1.at_ 4 _ rfl) _ (bitArr X).toList (fun j u hj => by rw [Nat.zero_add]; simpa using hj) Tryd.underlying110 rfl HX.out.2.1 ?_) | (with_reducible refine wpList_store_blk (o := ⟨none, .store 110 (.tmp 6) (.tmp 22), _, _, _, _⟩) rfl 110 (.tmp 6) (.tmp 22) rfl (b := q + 1 + 1 + 1) 0 rfl (HX.out.1.at_ 3 _ rfl) (.agg (bitArr X).toList.toArray) rfl (bitArr X).toList rfl ?_ HX.out.2.2 HX.out.2.1 ?_))
      · simp [bit_size]
      intro w2 b2 u2
      rw [splice_all (by simp [bit_size])] at b2
      have H2 := Lib.hid (And.intro b2 (HX.out.1.upd.trans u2 (by have := HX.out.1.hq; simp; omega)))
      clear b2 u2
      go_wp2
      refine bodyPost_ret (results_blk rfl _ H2.out.1 _ rfl Tryd.underlying110 rfl (by simpa [bit_size] using size_bits)) rfl ?_
      exact ⟨by simp, H2.out.2⟩

/-- A hexadecimal digit. -/
def digS (c : UInt8) : Nat := if c.toNat ≤ 57 then c.toNat - 48 else c.toNat - 97 + 10
theorem ret_intB {k : IntKind} {a b : Int} (h : a = b) : Ending.returned (.int k a) = .returned (.int k b) := by rw [h]
theorem digit_any (w : World) (c : UInt8) (h : (48 ≤ c.toNat ∧ c.toNat ≤ 57) ∨ (97 ≤ c.toNat ∧ c.toNat ≤ 102)) :
    Calls Tryd.prog 67 #[bv c] w fun e w' => e = .returned (.int .i64 (digS c)) ∧ w = w' := by
  unfold bv digS
  have hc := c.toNat_lt
  generalize c.toNat = n at *
  rcases Nat.lt_or_ge 57 n with h1 | h1
  · rw [if_neg (by omega)]
    have e : ((n : Int) - 97) % 256 = (n : Int) - 97 := by omega
    have h97 : (97 : Int) ≤ (n : Int) := by omega
    go_enter Tryd.func67, Tryd.ntmps67
    go_wp2
    go_ret
    exact ⟨ret_intB (by omega), rfl⟩
  · rw [if_pos (by omega)]
    have h48 : (48 : Int) ≤ (n : Int) := by omega
    go_enter Tryd.func67, Tryd.ntmps67
    go_wp2
    go_ret
    exact ⟨ret_intB (by omega), rfl⟩
end Go.Proofs.YtnfnaedoejgpiaaDoor
