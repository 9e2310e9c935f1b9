/- The reference's eight words behind a block. (Printed by gen_blk.py.) -/
import Derived.Test.YtnfnaedoejgpiaaDoorRefB
import Derived.Deep.DeepCutAuto
namespace Go.Proofs.YtnfnaedoejgpiaaDoor
open Go.RowKit

theorem eight_of {l : List (BitVec 32)} (h : l.length = 8) : ∃ x0 x1 x2 x3 x4 x5 x6 x7, l = [x0, x1, x2, x3, x4, x5, x6, x7] := by
  match l, h with
  | [x0, x1, x2, x3, x4, x5, x6, x7], _ => exact ⟨_, _, _, _, _, _, _, _, rfl⟩
theorem zeros8 : Tryd.zeroCells111 = (eight [0, 0, 0, 0, 0, 0, 0, 0]) := by kernel_rfl
section
variable {P : Program} {md : Region.Mode} {ops : Array Oper} {S : World → Prop} {Q : Exit → Act → World → Prop}
theorem ord_build8 {i : Nat} {o : Oper} {r : Ord} {a : Act} {w : World} (ho : ops[i]? = some o) (hg : o.guard = none) {y0 y1 y2 y3 y4 y5 y6 y7 : Operand}
    (hop : o.op = .build 111 #[(0, y0), (1, y1), (2, y2), (3, y3), (4, y4), (5, y5), (6, y6), (7, y7)]) (x0 x1 x2 x3 x4 x5 x6 x7 : BitVec 32)
    (h0 : a.eval y0 = .agg (bitArr x0)) (h1 : a.eval y1 = .agg (bitArr x1)) (h2 : a.eval y2 = .agg (bitArr x2)) (h3 : a.eval y3 = .agg (bitArr x3)) (h4 : a.eval y4 = .agg (bitArr x4)) (h5 : a.eval y5 = .agg (bitArr x5)) (h6 : a.eval y6 = .agg (bitArr x6)) (h7 : a.eval y7 = .agg (bitArr x7))
    (hS : S w) (h : wpOrd Tryd.prog md ops S Q r (a.put o.dst (.agg (eight [x0, x1, x2, x3, x4, x5, x6, x7]))) w) : wpOrd Tryd.prog md ops S Q (.take i r) a w :=
  ord_take ho hg hS (fun w _ => by unfold execOp; simp only [hop, List.map_toArray, List.map_cons, List.map_nil, h0, h1, h2, h3, h4, h5, h6, h7, Sem.run_bind, run_build8, Result.andThen_ok, Sem.run_pure]) h
end
def BlockPost (W : World) (h : List (BitVec 32)) (b : List UInt8) (e : Ending) (w : World) : Prop := e = .returned (.agg (eight (blockB h b))) ∧ Upd [] W w
def RelBlk (w : World) (h : List (BitVec 32)) (b : List UInt8) (q g6 g5 : Nat) (cur5 : Array Value) (i : Value) (wr : World) : Prop :=
  ∃ k : Nat, k ≤ 64 ∧ i = .int .i64 k ∧ Blk wr g6 (eight (roundsB b h k)) 111 ∧ Blk wr q (eight h) 111 ∧ Blk wr (q + 1) (eight [0, 0, 0, 0, 0, 0, 0, 0]) 111 ∧ Blk wr g5 cur5 110 ∧ Upd [] w wr
def RelBlk2 (w : World) (h v : List (BitVec 32)) (q g6 : Nat) (i : Value) (wr : World) : Prop :=
  ∃ k : Nat, k ≤ 8 ∧ i = .int .i64 k ∧ Blk wr g6 (eight v) 111 ∧ Blk wr q (eight (addTo h v k)) 111 ∧ Blk wr (q + 1) (eight [0, 0, 0, 0, 0, 0, 0, 0]) 111 ∧ Upd [] w wr
set_option maxRecDepth 4000 in
set_option maxHeartbeats 40000000 in
theorem block_any (w : World) (h : List (BitVec 32)) (hl : h.length = 8) (bo : Option Addr) (n c : Nat) (b : List UInt8) (hb : Bytes w (.slice bo n c) b) (hbl : b.length = 64) :
    Calls Tryd.prog 62 #[.agg (eight h), .slice bo n c] w (BlockPost w h b) := by
  have hld : ∀ X : BitVec 32, (Tryd.prog.info? 110).map (·.size) = some (bitArr X).toList.length := fun X => by rw [size_bits]; simp [bit_size]
  have hld8 : ∀ l : List (BitVec 32), l.length = 8 → (Tryd.prog.info? 111).map (·.size) = some (eight l).toList.length := fun l hl => by rw [size_eight]; simp [eight_size l hl]
  obtain ⟨q, hq⟩ : ∃ q, w.heap.size = q := ⟨_, rfl⟩
  have HS := Lib.hid (And.intro hl (And.intro hb (And.intro hbl hq)))
  have HL := Lib.hid hld
  have HL8 := Lib.hid (hld8 h hl)
  clear hl hb hbl hld hld8 hq
  go_enter Tryd.func62, Tryd.ntmps62
  go_wp2_with fail
  rw [zeros8]
  obtain ⟨w1, hw1⟩ : ∃ w1, (w.alloc (.cells (eight h) 111)).alloc (.cells (eight [0, 0, 0, 0, 0, 0, 0, 0]) 111) = w1 := ⟨_, rfl⟩
  have hq := HS.out.2.2.2
  have b2 : Blk w1 q (eight h) 111 := by rw [← hw1]; exact (Blk.newAt hq.symm _ _).alloc _
  have b4 : Blk w1 (q + 1) (eight [0, 0, 0, 0, 0, 0, 0, 0]) 111 := by rw [← hw1]; exact Blk.newAt (by simp; omega) _ _
  have u1 : Upd [] w w1 := by rw [← hw1]; exact ((Upd.refl [] w).alloc _).alloc _
  have hB : Bytes w1 (.slice bo n c) b := HS.out.2.1.upd u1 (by simp)
  rw [hw1]
  refine (row_any w1 bo n c b hB HS.out.2.2.1).mono ?_
  rintro e w2 ⟨ao, c2, rfl, W2, u2⟩
  obtain ⟨g5, c5, cur5, hv5, -, hb5, hg5, he5⟩ := W2.blk (by rw [rowTo_len]; decide)
  rw [rowTo_len] at hv5 he5
  simp only [Value.slice.injEq] at hv5
  obtain ⟨rfl, -, rfl⟩ := hv5
  have b2' := b2.upd u2 (by simp)
  have b4' := b4.upd u2 (by simp)
  have u2' := u1.trans u2 (by simp)
  have l4 := b4'.lt
  have l5 := hb5.lt
  have l41 := b4.lt
  have H2 := Lib.hid (And.intro b2' (And.intro b4' (And.intro u2' (And.intro l4 (And.intro l5 (And.intro hb5 (And.intro hg5 l41)))))))
  have H5 := Lib.hid (And.intro hq he5)
  have hone := eight_one h
  have hsz8 := eight_size h HS.out.1
  have H8 := Lib.hid (And.intro hone hsz8)
  clear hone hsz8 b2 b4 u1 hB hw1 W2 u2 b2' b4' u2' l4 l5 hb5 hg5 he5 l41
  rw [hq]
  clear hq
  go_upto_region 2 with (fail)
  go_wp2_with (first | (with_reducible refine wpList_load_blk (o := ⟨some 14, _, _, _, _, _⟩) rfl 111 (.tmp 2) rfl (b := q) 0 rfl H2.out.1 _ (eight h).toList (fun j u hj => by rw [Nat.zero_add]; simpa using hj) Tryd.underlying111 rfl HL8.out ?_) | (with_reducible refine wpList_store_blk (o := ⟨none, .store 111 (.tmp 6) (.tmp 14), _, _, _, _⟩) rfl 111 (.tmp 6) (.tmp 14) rfl (b := w2.heap.size) 0 rfl (Blk.new w2 _ _) (.agg (eight h).toList.toArray) rfl (eight h).toList rfl ?_ H8.out.1 HL8.out ?_))
  · rw [zeros8]; simp [H8.out.2, eight_size]
  intro w3 b3 u3
  rw [zeros8, splice_all (by simp [H8.out.2, eight_size])] at b3
  have hu3 := u3.fresh
  obtain ⟨g6, hg6⟩ : ∃ g, w2.heap.size = g := ⟨_, rfl⟩
  rw [hg6] at b3 ⊢
  have c2 := H2.out.1.upd hu3 (by simp)
  have c4 := H2.out.2.1.upd hu3 (by simp)
  have c5 := H2.out.2.2.2.2.2.1.upd hu3 (by simp)
  have cu := H2.out.2.2.1.trans hu3 (by simp)
  have hn6 : q < g6 ∧ q + 1 < g6 ∧ g5 < g6 ∧ w.heap.size ≤ g6 := by
    have := H2.out.2.2.2.1
    have := H2.out.2.2.2.2.1
    have := H5.out.1
    omega
  have H6 := Lib.hid hn6
  have H3 := Lib.hid (And.intro b3 (And.intro c2 (And.intro c4 (And.intro c5 cu))))
  clear b3 c2 c4 c5 cu hn6 hg6 hu3 u3
  go_wp2_with fail
  go_loopw [7] (RelBlk w h b q g6 g5 cur5) (fun i _ => (64 - intOf i).toNat)
  case atStart => exact ⟨0, by omega, rfl, H3.out.1, H3.out.2.1, H3.out.2.2.1, H3.out.2.2.2.1, H3.out.2.2.2.2⟩
  case round =>
    obtain ⟨k, hk, rfl, hb6, hb2, hb4, hb5, hu⟩ := hrel
    rcases Nat.lt_or_ge k 64 with hlt | hge
    · obtain ⟨x0, x1, x2, x3, x4, x5, x6, x7, hv⟩ := eight_of (roundsB_len b h HS.out.1 k)
      rw [hv] at hb6
      obtain ⟨W, hW⟩ : ∃ W, (rowTo b 64).getD k 0 = W := ⟨_, rfl⟩
      have eW := H5.out.2 k hlt
      rw [hW] at eW
      have hnew : roundsB b h (k + 1) = stepB (conB k) W [x0, x1, x2, x3, x4, x5, x6, x7] := by rw [roundsB, hv, hW]
      have e0 := eight_at (h := [x0, x1, x2, x3, x4, x5, x6, x7]) (i := 0) (by simp)
      have e1 := eight_at (h := [x0, x1, x2, x3, x4, x5, x6, x7]) (i := 1) (by simp)
      have e2 := eight_at (h := [x0, x1, x2, x3, x4, x5, x6, x7]) (i := 2) (by simp)
      have e3 := eight_at (h := [x0, x1, x2, x3, x4, x5, x6, x7]) (i := 3) (by simp)
      have e4 := eight_at (h := [x0, x1, x2, x3, x4, x5, x6, x7]) (i := 4) (by simp)
      have e5 := eight_at (h := [x0, x1, x2, x3, x4, x5, x6, x7]) (i := 5) (by simp)
      have e6 := eight_at (h := [x0, x1, x2, x3, x4, x5, x6, x7]) (i := 6) (by simp)
      have e7 := eight_at (h := [x0, x1, x2, x3, x4, x5, x6, x7]) (i := 7) (by simp)
      have HE := Lib.hid (And.intro e0 (And.intro e1 (And.intro e2 (And.intro e3 (And.intro e4 (And.intro e5 (And.intro e6 (And.intro e7 (And.intro eW hnew)))))))))
      clear e0 e1 e2 e3 e4 e5 e6 e7 eW hnew hW hv
      have HU := Lib.hid (And.intro hb2 (And.intro hb4 hu))
      clear hb2 hb4 hu
      go_upto_region 6 with (fail)
      obtain ⟨w0, hw0⟩ : ∃ x : World, x = wr := ⟨_, rfl⟩
      subst hw0
      go_cut [7, 8] (fun s7 s8 wx => s7 = .int .i64 k ∧ ∃ gs, s8 = .pointer (some ⟨gs, 0, none⟩) ∧ Blk wx gs (bitArr (rightB x4 6 true ^^^ rightB x4 11 true ^^^ rightB x4 25 true)) 110 ∧ Upd [] w0 wx ∧ w0.heap.size ≤ gs)
      case first =>
        have S0 : Blk w0.drew g6 (eight [x0, x1, x2, x3, x4, x5, x6, x7]) 111 := hb6
        have U0 := (Upd.refl [] w0).drew
        refine wp_region_ord (S := fun w => Blk w g6 (eight [x0, x1, x2, x3, x4, x5, x6, x7]) 111) (.take 0 (.take 1 (.take 3 (.take 4 (.take 6 (.take 7 (.alt 2 (.alt 5 (.alt 8 (.alt 9 (.act 10 (.act 11 .done)) 10 (.act 9 (.act 11 .done))) 10 (.act 8 (.act 9 (.act 11 .done)))) 10 (.act 5 (.act 8 (.act 9 (.act 11 .done))))) 10 (.act 2 (.act 5 (.act 8 (.act 9 (.act 11 .done)))))))))))) (by kernel_rfl) (by kernel_rfl) (fun _ _ d _ _ h => by cases d <;> exact h) ?_
        refine ord_index rfl rfl rfl (.pointer (some ⟨g6, 0, none⟩)) (.int .i64 4) (.pointer (some ⟨g6, 128, none⟩)) (by first | rfl | (simp [Act.eval]; done)) (by first | rfl | (simp [Act.eval]; done)) S0 (fun w => run_idx8 w g6 4 (by decide)) ?_
        simp only [Act.put, List.setIfInBounds_toArray, List.set_cons_zero, List.set_cons_succ, List.getElem_toArray, List.getElem_cons_succ, List.getElem_cons_zero]
        refine ord_load_blk rfl rfl rfl g6 128 (by first | rfl | (simp [Act.eval]; done)) (eight [x0, x1, x2, x3, x4, x5, x6, x7]) 111 (fun _ h => h) _ (bitArr x4).toList (HE.out.2.2.2.2.1) Tryd.underlying110 rfl (HL.out x4) S0 ?_
        simp only [Act.put, List.setIfInBounds_toArray, List.set_cons_zero, List.set_cons_succ, List.getElem_toArray, List.getElem_cons_succ, List.getElem_cons_zero]
        refine ord_index rfl rfl rfl (.pointer (some ⟨g6, 0, none⟩)) (.int .i64 4) (.pointer (some ⟨g6, 128, none⟩)) (by first | rfl | (simp [Act.eval]; done)) (by first | rfl | (simp [Act.eval]; done)) S0 (fun w => run_idx8 w g6 4 (by decide)) ?_
        simp only [Act.put, List.setIfInBounds_toArray, List.set_cons_zero, List.set_cons_succ, List.getElem_toArray, List.getElem_cons_succ, List.getElem_cons_zero]
        refine ord_load_blk rfl rfl rfl g6 128 (by first | rfl | (simp [Act.eval]; done)) (eight [x0, x1, x2, x3, x4, x5, x6, x7]) 111 (fun _ h => h) _ (bitArr x4).toList (HE.out.2.2.2.2.1) Tryd.underlying110 rfl (HL.out x4) S0 ?_
        simp only [Act.put, List.setIfInBounds_toArray, List.set_cons_zero, List.set_cons_succ, List.getElem_toArray, List.getElem_cons_succ, List.getElem_cons_zero]
        refine ord_index rfl rfl rfl (.pointer (some ⟨g6, 0, none⟩)) (.int .i64 4) (.pointer (some ⟨g6, 128, none⟩)) (by first | rfl | (simp [Act.eval]; done)) (by first | rfl | (simp [Act.eval]; done)) S0 (fun w => run_idx8 w g6 4 (by decide)) ?_
        simp only [Act.put, List.setIfInBounds_toArray, List.set_cons_zero, List.set_cons_succ, List.getElem_toArray, List.getElem_cons_succ, List.getElem_cons_zero]
        refine ord_load_blk rfl rfl rfl g6 128 (by first | rfl | (simp [Act.eval]; done)) (eight [x0, x1, x2, x3, x4, x5, x6, x7]) 111 (fun _ h => h) _ (bitArr x4).toList (HE.out.2.2.2.2.1) Tryd.underlying110 rfl (HL.out x4) S0 ?_
        simp only [Act.put, List.setIfInBounds_toArray, List.set_cons_zero, List.set_cons_succ, List.getElem_toArray, List.getElem_cons_succ, List.getElem_cons_zero]
        refine ord_alt rfl rfl ?_ ?_
        · go_wp2_with fail
          refine (right_any _ x4 6 true (by decide)).mono ?_
          rintro e w1 ⟨rfl, u1⟩
          have S1 := S0.upd u1 (by simp)
          have U1 := U0.trans u1 (by simp)
          go_wp2_with fail
          refine ⟨fun _ => S1, ?_⟩
          refine ord_alt rfl rfl ?_ ?_
          · go_wp2_with fail
            refine (right_any _ x4 11 true (by decide)).mono ?_
            rintro e w2 ⟨rfl, u2⟩
            have S2 := S1.upd u2 (by simp)
            have U2 := U1.trans u2 (by simp)
            go_wp2_with fail
            refine ⟨fun _ => S2, ?_⟩
            refine ord_alt rfl rfl ?_ ?_
            · go_wp2_with fail
              refine (right_any _ x4 25 true (by decide)).mono ?_
              rintro e w3 ⟨rfl, u3⟩
              have S3 := S2.upd u3 (by simp)
              have U3 := U2.trans u3 (by simp)
              go_wp2_with fail
              refine ⟨fun _ => S3, ?_⟩
              refine ord_alt rfl rfl ?_ ?_
              · go_wp2_with fail
                refine (odd_any _ _ _ _).mono ?_
                rintro e w4 ⟨rfl, u4⟩
                have S4 := S3.upd u4 (by simp)
                have U4 := U3.trans u4 (by simp)
                go_wp2_with fail
                refine ⟨fun _ => S4, ?_⟩
                refine ord_act rfl ?_
                refine wpList_alloc_bits (o := ⟨some 8, _, _, _, _, _⟩) rfl rfl ?_
                intro g5 w5 bg5 u5 hg5
                simp only [Act.put, List.setIfInBounds_toArray, List.set_cons_zero, List.set_cons_succ, List.getElem_toArray, List.getElem_cons_succ, List.getElem_cons_zero]
                have hz5 := Nat.le_trans U4.size hg5
                have S5 := S4.upd u5 (by simp)
                have U5 := U4.trans u5 (by simp)
                refine ⟨fun _ => S5, ?_⟩
                refine ord_act rfl ?_
                refine wpList_store_blk (by rfl) 110 (.tmp 8) (.tmp 28) (by rfl) (b := g5) 0 (by rfl) bg5 (.agg (bitArr (rightB x4 6 true ^^^ rightB x4 11 true ^^^ rightB x4 25 true))) (by rfl) (bitArr (rightB x4 6 true ^^^ rightB x4 11 true ^^^ rightB x4 25 true)).toList (by rfl) (by simp [bit_size]) (bit_one (rightB x4 6 true ^^^ rightB x4 11 true ^^^ rightB x4 25 true)) (HL.out (rightB x4 6 true ^^^ rightB x4 11 true ^^^ rightB x4 25 true)) ?_
                intro wf bf uf
                rw [splice_all (by simp [bit_size])] at bf
                refine ⟨fun h => Bool.noConfusion (h.symm.trans (by kernel_rfl : waitsAll _ _ _ = true)), ?_⟩
                show Exit.then _ _ Exit.normal _ _
                have UF := U5.trans uf (by simp; exact hz5)
                go_wp2
                go_meet
                case rel => exact ⟨rfl,  g5, rfl, bf, UF, hz5⟩
              · refine wpList_alloc_bits (o := ⟨some 8, _, _, _, _, _⟩) rfl rfl ?_
                intro g6 w6 bg6 u6 hg6
                simp only [Act.put, List.setIfInBounds_toArray, List.set_cons_zero, List.set_cons_succ, List.getElem_toArray, List.getElem_cons_succ, List.getElem_cons_zero]
                have hz6 := Nat.le_trans U3.size hg6
                have S6 := S3.upd u6 (by simp)
                have U6 := U3.trans u6 (by simp)
                refine ⟨fun _ => S6, ?_⟩
                refine ord_act rfl ?_
                go_wp2_with fail
                refine (odd_any _ _ _ _).mono ?_
                rintro e w7 ⟨rfl, u7⟩
                have S7 := S6.upd u7 (by simp)
                have U7 := U6.trans u7 (by simp)
                go_wp2_with fail
                refine ⟨fun _ => S7, ?_⟩
                refine ord_act rfl ?_
                refine wpList_store_blk (by rfl) 110 (.tmp 8) (.tmp 28) (by rfl) (b := g6) 0 (by rfl) (bg6.upd u7 (by simp)) (.agg (bitArr (rightB x4 6 true ^^^ rightB x4 11 true ^^^ rightB x4 25 true))) (by rfl) (bitArr (rightB x4 6 true ^^^ rightB x4 11 true ^^^ rightB x4 25 true)).toList (by rfl) (by simp [bit_size]) (bit_one (rightB x4 6 true ^^^ rightB x4 11 true ^^^ rightB x4 25 true)) (HL.out (rightB x4 6 true ^^^ rightB x4 11 true ^^^ rightB x4 25 true)) ?_
                intro wf bf uf
                rw [splice_all (by simp [bit_size])] at bf
                refine ⟨fun h => Bool.noConfusion (h.symm.trans (by kernel_rfl : waitsAll _ _ _ = true)), ?_⟩
                show Exit.then _ _ Exit.normal _ _
                have UF := U7.trans uf (by simp; exact hz6)
                go_wp2
                go_meet
                case rel => exact ⟨rfl,  g6, rfl, bf, UF, hz6⟩
            · refine wpList_alloc_bits (o := ⟨some 8, _, _, _, _, _⟩) rfl rfl ?_
              intro g8 w8 bg8 u8 hg8
              simp only [Act.put, List.setIfInBounds_toArray, List.set_cons_zero, List.set_cons_succ, List.getElem_toArray, List.getElem_cons_succ, List.getElem_cons_zero]
              have hz8 := Nat.le_trans U2.size hg8
              have S8 := S2.upd u8 (by simp)
              have U8 := U2.trans u8 (by simp)
              refine ⟨fun _ => S8, ?_⟩
              refine ord_act rfl ?_
              go_wp2_with fail
              refine (right_any _ x4 25 true (by decide)).mono ?_
              rintro e w9 ⟨rfl, u9⟩
              have S9 := S8.upd u9 (by simp)
              have U9 := U8.trans u9 (by simp)
              go_wp2_with fail
              refine ⟨fun _ => S9, ?_⟩
              refine ord_act rfl ?_
              go_wp2_with fail
              refine (odd_any _ _ _ _).mono ?_
              rintro e w10 ⟨rfl, u10⟩
              have S10 := S9.upd u10 (by simp)
              have U10 := U9.trans u10 (by simp)
              go_wp2_with fail
              refine ⟨fun _ => S10, ?_⟩
              refine ord_act rfl ?_
              refine wpList_store_blk (by rfl) 110 (.tmp 8) (.tmp 28) (by rfl) (b := g8) 0 (by rfl) ((bg8.upd u9 (by simp)).upd u10 (by simp)) (.agg (bitArr (rightB x4 6 true ^^^ rightB x4 11 true ^^^ rightB x4 25 true))) (by rfl) (bitArr (rightB x4 6 true ^^^ rightB x4 11 true ^^^ rightB x4 25 true)).toList (by rfl) (by simp [bit_size]) (bit_one (rightB x4 6 true ^^^ rightB x4 11 true ^^^ rightB x4 25 true)) (HL.out (rightB x4 6 true ^^^ rightB x4 11 true ^^^ rightB x4 25 true)) ?_
              intro wf bf uf
              rw [splice_all (by simp [bit_size])] at bf
              refine ⟨fun h => Bool.noConfusion (h.symm.trans (by kernel_rfl : waitsAll _ _ _ = true)), ?_⟩
              show Exit.then _ _ Exit.normal _ _
              have UF := U10.trans uf (by simp; exact hz8)
              go_wp2
              go_meet
              case rel => exact ⟨rfl,  g8, rfl, bf, UF, hz8⟩
          · refine wpList_alloc_bits (o := ⟨some 8, _, _, _, _, _⟩) rfl rfl ?_
            intro g11 w11 bg11 u11 hg11
            simp only [Act.put, List.setIfInBounds_toArray, List.set_cons_zero, List.set_cons_succ, List.getElem_toArray, List.getElem_cons_succ, List.getElem_cons_zero]
            have hz11 := Nat.le_trans U1.size hg11
            have S11 := S1.upd u11 (by simp)
            have U11 := U1.trans u11 (by simp)
            refine ⟨fun _ => S11, ?_⟩
            refine ord_act rfl ?_
            go_wp2_with fail
            refine (right_any _ x4 11 true (by decide)).mono ?_
            rintro e w12 ⟨rfl, u12⟩
            have S12 := S11.upd u12 (by simp)
            have U12 := U11.trans u12 (by simp)
            go_wp2_with fail
            refine ⟨fun _ => S12, ?_⟩
            refine ord_act rfl ?_
            go_wp2_with fail
            refine (right_any _ x4 25 true (by decide)).mono ?_
            rintro e w13 ⟨rfl, u13⟩
            have S13 := S12.upd u13 (by simp)
            have U13 := U12.trans u13 (by simp)
            go_wp2_with fail
            refine ⟨fun _ => S13, ?_⟩
            refine ord_act rfl ?_
            go_wp2_with fail
            refine (odd_any _ _ _ _).mono ?_
            rintro e w14 ⟨rfl, u14⟩
            have S14 := S13.upd u14 (by simp)
            have U14 := U13.trans u14 (by simp)
            go_wp2_with fail
            refine ⟨fun _ => S14, ?_⟩
            refine ord_act rfl ?_
            refine wpList_store_blk (by rfl) 110 (.tmp 8) (.tmp 28) (by rfl) (b := g11) 0 (by rfl) (((bg11.upd u12 (by simp)).upd u13 (by simp)).upd u14 (by simp)) (.agg (bitArr (rightB x4 6 true ^^^ rightB x4 11 true ^^^ rightB x4 25 true))) (by rfl) (bitArr (rightB x4 6 true ^^^ rightB x4 11 true ^^^ rightB x4 25 true)).toList (by rfl) (by simp [bit_size]) (bit_one (rightB x4 6 true ^^^ rightB x4 11 true ^^^ rightB x4 25 true)) (HL.out (rightB x4 6 true ^^^ rightB x4 11 true ^^^ rightB x4 25 true)) ?_
            intro wf bf uf
            rw [splice_all (by simp [bit_size])] at bf
            refine ⟨fun h => Bool.noConfusion (h.symm.trans (by kernel_rfl : waitsAll _ _ _ = true)), ?_⟩
            show Exit.then _ _ Exit.normal _ _
            have UF := U14.trans uf (by simp; exact hz11)
            go_wp2
            go_meet
            case rel => exact ⟨rfl,  g11, rfl, bf, UF, hz11⟩
        · refine wpList_alloc_bits (o := ⟨some 8, _, _, _, _, _⟩) rfl rfl ?_
          intro g15 w15 bg15 u15 hg15
          simp only [Act.put, List.setIfInBounds_toArray, List.set_cons_zero, List.set_cons_succ, List.getElem_toArray, List.getElem_cons_succ, List.getElem_cons_zero]
          have hz15 := Nat.le_trans U0.size hg15
          have S15 := S0.upd u15 (by simp)
          have U15 := U0.trans u15 (by simp)
          refine ⟨fun _ => S15, ?_⟩
          refine ord_act rfl ?_
          go_wp2_with fail
          refine (right_any _ x4 6 true (by decide)).mono ?_
          rintro e w16 ⟨rfl, u16⟩
          have S16 := S15.upd u16 (by simp)
          have U16 := U15.trans u16 (by simp)
          go_wp2_with fail
          refine ⟨fun _ => S16, ?_⟩
          refine ord_act rfl ?_
          go_wp2_with fail
          refine (right_any _ x4 11 true (by decide)).mono ?_
          rintro e w17 ⟨rfl, u17⟩
          have S17 := S16.upd u17 (by simp)
          have U17 := U16.trans u17 (by simp)
          go_wp2_with fail
          refine ⟨fun _ => S17, ?_⟩
          refine ord_act rfl ?_
          go_wp2_with fail
          refine (right_any _ x4 25 true (by decide)).mono ?_
          rintro e w18 ⟨rfl, u18⟩
          have S18 := S17.upd u18 (by simp)
          have U18 := U17.trans u18 (by simp)
          go_wp2_with fail
          refine ⟨fun _ => S18, ?_⟩
          refine ord_act rfl ?_
          go_wp2_with fail
          refine (odd_any _ _ _ _).mono ?_
          rintro e w19 ⟨rfl, u19⟩
          have S19 := S18.upd u19 (by simp)
          have U19 := U18.trans u19 (by simp)
          go_wp2_with fail
          refine ⟨fun _ => S19, ?_⟩
          refine ord_act rfl ?_
          refine wpList_store_blk (by rfl) 110 (.tmp 8) (.tmp 28) (by rfl) (b := g15) 0 (by rfl) ((((bg15.upd u16 (by simp)).upd u17 (by simp)).upd u18 (by simp)).upd u19 (by simp)) (.agg (bitArr (rightB x4 6 true ^^^ rightB x4 11 true ^^^ rightB x4 25 true))) (by rfl) (bitArr (rightB x4 6 true ^^^ rightB x4 11 true ^^^ rightB x4 25 true)).toList (by rfl) (by simp [bit_size]) (bit_one (rightB x4 6 true ^^^ rightB x4 11 true ^^^ rightB x4 25 true)) (HL.out (rightB x4 6 true ^^^ rightB x4 11 true ^^^ rightB x4 25 true)) ?_
          intro wf bf uf
          rw [splice_all (by simp [bit_size])] at bf
          refine ⟨fun h => Bool.noConfusion (h.symm.trans (by kernel_rfl : waitsAll _ _ _ = true)), ?_⟩
          show Exit.then _ _ Exit.normal _ _
          have UF := U19.trans uf (by simp; exact hz15)
          go_wp2
          go_meet
          case rel => exact ⟨rfl,  g15, rfl, bf, UF, hz15⟩
      case rest =>
        obtain ⟨rfl, gs, rfl, bs, us, ls⟩ := hcut
        have b6' := hb6.upd us (by simp)
        have c5' := hb5.upd us (by simp)
        clear ls
        go_upto_region 7 with (fail)
        obtain ⟨w1, hw1⟩ : ∃ x : World, x = wc := ⟨_, rfl⟩
        subst hw1
        go_cut [7, 9] (fun s7 s9 wx => s7 = .int .i64 k ∧ ∃ gt, s9 = .pointer (some ⟨gt, 0, none⟩) ∧ Blk wx gt (bitArr (x7 + (rightB x4 6 true ^^^ rightB x4 11 true ^^^ rightB x4 25 true) + ((x4 &&& x5) ||| (~~~x4 &&& x6)) + conB k + W)) 110 ∧ Upd [] w1 wx ∧ w1.heap.size ≤ gt)
        case first =>
          have S0 : Blk w1.drew g6 (eight [x0, x1, x2, x3, x4, x5, x6, x7]) 111 ∧ Blk w1.drew gs (bitArr (rightB x4 6 true ^^^ rightB x4 11 true ^^^ rightB x4 25 true)) 110 ∧ Blk w1.drew g5 cur5 110 := ⟨b6', bs, c5'⟩
          have U0 := (Upd.refl [] w1).drew
          refine wp_region_ord (S := fun w => Blk w g6 (eight [x0, x1, x2, x3, x4, x5, x6, x7]) 111 ∧ Blk w gs (bitArr (rightB x4 6 true ^^^ rightB x4 11 true ^^^ rightB x4 25 true)) 110 ∧ Blk w g5 cur5 110) (.take 0 (.take 1 (.take 2 (.take 4 (.take 5 (.take 6 (.take 7 (.take 8 (.take 9 (.take 12 (.take 15 (.take 16 (.take 17 (.take 18 (.alt 3 (.alt 10 (.alt 11 (.alt 13 (.alt 14 (.alt 19 (.act 20 (.act 21 .done)) 20 (.act 19 (.act 21 .done))) 20 (.act 14 (.act 19 (.act 21 .done)))) 20 (.act 13 (.act 14 (.act 19 (.act 21 .done))))) 20 (.act 11 (.act 13 (.act 14 (.act 19 (.act 21 .done)))))) 20 (.act 10 (.act 11 (.act 13 (.act 14 (.act 19 (.act 21 .done))))))) 20 (.act 3 (.act 10 (.act 11 (.act 13 (.act 14 (.act 19 (.act 21 .done)))))))))))))))))))))) (by kernel_rfl) (by kernel_rfl) (fun _ _ d _ _ h => by cases d <;> exact h) ?_
          refine ord_index rfl rfl rfl (.pointer (some ⟨g6, 0, none⟩)) (.int .i64 7) (.pointer (some ⟨g6, 224, none⟩)) (by first | rfl | (simp [Act.eval]; done)) (by first | rfl | (simp [Act.eval]; done)) S0 (fun w => run_idx8 w g6 7 (by decide)) ?_
          simp only [Act.put, List.setIfInBounds_toArray, List.set_cons_zero, List.set_cons_succ, List.getElem_toArray, List.getElem_cons_succ, List.getElem_cons_zero]
          refine ord_load_blk rfl rfl rfl g6 224 (by first | rfl | (simp [Act.eval]; done)) (eight [x0, x1, x2, x3, x4, x5, x6, x7]) 111 (fun _ h => h.1) _ (bitArr x7).toList (HE.out.2.2.2.2.2.2.2.1) Tryd.underlying110 rfl (HL.out x7) S0 ?_
          simp only [Act.put, List.setIfInBounds_toArray, List.set_cons_zero, List.set_cons_succ, List.getElem_toArray, List.getElem_cons_succ, List.getElem_cons_zero]
          refine ord_load_blk rfl rfl rfl gs 0 (by first | rfl | (simp [Act.eval]; done)) (bitArr (rightB x4 6 true ^^^ rightB x4 11 true ^^^ rightB x4 25 true)) 110 (fun _ h => h.2.1) _ (bitArr (rightB x4 6 true ^^^ rightB x4 11 true ^^^ rightB x4 25 true)).toList (fun j u hj => by rw [Nat.zero_add]; simpa using hj) Tryd.underlying110 rfl (HL.out (rightB x4 6 true ^^^ rightB x4 11 true ^^^ rightB x4 25 true)) S0 ?_
          simp only [Act.put, List.setIfInBounds_toArray, List.set_cons_zero, List.set_cons_succ, List.getElem_toArray, List.getElem_cons_succ, List.getElem_cons_zero]
          refine ord_index rfl rfl rfl (.pointer (some ⟨g6, 0, none⟩)) (.int .i64 4) (.pointer (some ⟨g6, 128, none⟩)) (by first | rfl | (simp [Act.eval]; done)) (by first | rfl | (simp [Act.eval]; done)) S0 (fun w => run_idx8 w g6 4 (by decide)) ?_
          simp only [Act.put, List.setIfInBounds_toArray, List.set_cons_zero, List.set_cons_succ, List.getElem_toArray, List.getElem_cons_succ, List.getElem_cons_zero]
          refine ord_load_blk rfl rfl rfl g6 128 (by first | rfl | (simp [Act.eval]; done)) (eight [x0, x1, x2, x3, x4, x5, x6, x7]) 111 (fun _ h => h.1) _ (bitArr x4).toList (HE.out.2.2.2.2.1) Tryd.underlying110 rfl (HL.out x4) S0 ?_
          simp only [Act.put, List.setIfInBounds_toArray, List.set_cons_zero, List.set_cons_succ, List.getElem_toArray, List.getElem_cons_succ, List.getElem_cons_zero]
          refine ord_index rfl rfl rfl (.pointer (some ⟨g6, 0, none⟩)) (.int .i64 5) (.pointer (some ⟨g6, 160, none⟩)) (by first | rfl | (simp [Act.eval]; done)) (by first | rfl | (simp [Act.eval]; done)) S0 (fun w => run_idx8 w g6 5 (by decide)) ?_
          simp only [Act.put, List.setIfInBounds_toArray, List.set_cons_zero, List.set_cons_succ, List.getElem_toArray, List.getElem_cons_succ, List.getElem_cons_zero]
          refine ord_load_blk rfl rfl rfl g6 160 (by first | rfl | (simp [Act.eval]; done)) (eight [x0, x1, x2, x3, x4, x5, x6, x7]) 111 (fun _ h => h.1) _ (bitArr x5).toList (HE.out.2.2.2.2.2.1) Tryd.underlying110 rfl (HL.out x5) S0 ?_
          simp only [Act.put, List.setIfInBounds_toArray, List.set_cons_zero, List.set_cons_succ, List.getElem_toArray, List.getElem_cons_succ, List.getElem_cons_zero]
          refine ord_index rfl rfl rfl (.pointer (some ⟨g6, 0, none⟩)) (.int .i64 6) (.pointer (some ⟨g6, 192, none⟩)) (by first | rfl | (simp [Act.eval]; done)) (by first | rfl | (simp [Act.eval]; done)) S0 (fun w => run_idx8 w g6 6 (by decide)) ?_
          simp only [Act.put, List.setIfInBounds_toArray, List.set_cons_zero, List.set_cons_succ, List.getElem_toArray, List.getElem_cons_succ, List.getElem_cons_zero]
          refine ord_load_blk rfl rfl rfl g6 192 (by first | rfl | (simp [Act.eval]; done)) (eight [x0, x1, x2, x3, x4, x5, x6, x7]) 111 (fun _ h => h.1) _ (bitArr x6).toList (HE.out.2.2.2.2.2.2.1) Tryd.underlying110 rfl (HL.out x6) S0 ?_
          simp only [Act.put, List.setIfInBounds_toArray, List.set_cons_zero, List.set_cons_succ, List.getElem_toArray, List.getElem_cons_succ, List.getElem_cons_zero]
          iterate 4 (refine ord_ex rfl rfl S0 ?_; apply Exists.intro; refine ⟨fun _ _ => ?_, ?_⟩; (focus (rename_i w hw; skip; go_simp; rfl)); simp only [Act.put, List.setIfInBounds_toArray, List.set_cons_zero, List.set_cons_succ, List.getElem_toArray, List.getElem_cons_succ, List.getElem_cons_zero])
          refine ord_load_blk rfl rfl rfl g5 (k * 32) (by first | rfl | (simp [Act.eval]; done)) cur5 110 (fun _ h => h.2.2) _ (bitArr W).toList (HE.out.2.2.2.2.2.2.2.2.1) Tryd.underlying110 rfl (HL.out W) S0 ?_
          simp only [Act.put, List.setIfInBounds_toArray, List.set_cons_zero, List.set_cons_succ, List.getElem_toArray, List.getElem_cons_succ, List.getElem_cons_zero]
          refine ord_alt rfl rfl ?_ ?_
          · go_wp2_with fail
            refine (plus_any _ x7 (rightB x4 6 true ^^^ rightB x4 11 true ^^^ rightB x4 25 true)).mono ?_
            rintro e w20 ⟨rfl, u20⟩
            have S20 := And.intro (S0.1.upd u20 (by simp)) (And.intro (S0.2.1.upd u20 (by simp)) (S0.2.2.upd u20 (by simp)))
            have U20 := U0.trans u20 (by simp)
            go_wp2_with fail
            refine ⟨fun _ => S20, ?_⟩
            refine ord_alt rfl rfl ?_ ?_
            · go_wp2_with fail
              refine (pick_any _ x4 x5 x6).mono ?_
              rintro e w21 ⟨rfl, u21⟩
              have S21 := And.intro (S20.1.upd u21 (by simp)) (And.intro (S20.2.1.upd u21 (by simp)) (S20.2.2.upd u21 (by simp)))
              have U21 := U20.trans u21 (by simp)
              go_wp2_with fail
              refine ⟨fun _ => S21, ?_⟩
              refine ord_alt rfl rfl ?_ ?_
              · go_wp2_with fail
                refine (plus_any _ _ _).mono ?_
                rintro e w22 ⟨rfl, u22⟩
                have S22 := And.intro (S21.1.upd u22 (by simp)) (And.intro (S21.2.1.upd u22 (by simp)) (S21.2.2.upd u22 (by simp)))
                have U22 := U21.trans u22 (by simp)
                go_wp2_with fail
                refine ⟨fun _ => S22, ?_⟩
                refine ord_alt rfl rfl ?_ ?_
                · go_wp2_with fail
                  refine (conB_any _ _ (by kernel_rfl) k hlt).mono ?_
                  rintro e w23 ⟨rfl, u23⟩
                  have S23 := And.intro (S22.1.upd u23 (by simp)) (And.intro (S22.2.1.upd u23 (by simp)) (S22.2.2.upd u23 (by simp)))
                  have U23 := U22.trans u23 (by simp)
                  go_wp2_with fail
                  refine ⟨fun _ => S23, ?_⟩
                  refine ord_alt rfl rfl ?_ ?_
                  · go_wp2_with fail
                    refine (plus_any _ _ _).mono ?_
                    rintro e w24 ⟨rfl, u24⟩
                    have S24 := And.intro (S23.1.upd u24 (by simp)) (And.intro (S23.2.1.upd u24 (by simp)) (S23.2.2.upd u24 (by simp)))
                    have U24 := U23.trans u24 (by simp)
                    go_wp2_with fail
                    refine ⟨fun _ => S24, ?_⟩
                    refine ord_alt rfl rfl ?_ ?_
                    · go_wp2_with fail
                      refine (plus_any _ _ _).mono ?_
                      rintro e w25 ⟨rfl, u25⟩
                      have S25 := And.intro (S24.1.upd u25 (by simp)) (And.intro (S24.2.1.upd u25 (by simp)) (S24.2.2.upd u25 (by simp)))
                      have U25 := U24.trans u25 (by simp)
                      go_wp2_with fail
                      refine ⟨fun _ => S25, ?_⟩
                      refine ord_act rfl ?_
                      refine wpList_alloc_bits (o := ⟨some 9, _, _, _, _, _⟩) rfl rfl ?_
                      intro g26 w26 bg26 u26 hg26
                      simp only [Act.put, List.setIfInBounds_toArray, List.set_cons_zero, List.set_cons_succ, List.getElem_toArray, List.getElem_cons_succ, List.getElem_cons_zero]
                      have hz26 := Nat.le_trans U25.size hg26
                      have S26 := And.intro (S25.1.upd u26 (by simp)) (And.intro (S25.2.1.upd u26 (by simp)) (S25.2.2.upd u26 (by simp)))
                      have U26 := U25.trans u26 (by simp)
                      refine ⟨fun _ => S26, ?_⟩
                      refine ord_act rfl ?_
                      refine wpList_store_blk (by rfl) 110 (.tmp 9) (.tmp 48) (by rfl) (b := g26) 0 (by rfl) bg26 (.agg (bitArr (x7 + (rightB x4 6 true ^^^ rightB x4 11 true ^^^ rightB x4 25 true) + ((x4 &&& x5) ||| (~~~x4 &&& x6)) + conB k + W))) (by rfl) (bitArr (x7 + (rightB x4 6 true ^^^ rightB x4 11 true ^^^ rightB x4 25 true) + ((x4 &&& x5) ||| (~~~x4 &&& x6)) + conB k + W)).toList (by rfl) (by simp [bit_size]) (bit_one (x7 + (rightB x4 6 true ^^^ rightB x4 11 true ^^^ rightB x4 25 true) + ((x4 &&& x5) ||| (~~~x4 &&& x6)) + conB k + W)) (HL.out (x7 + (rightB x4 6 true ^^^ rightB x4 11 true ^^^ rightB x4 25 true) + ((x4 &&& x5) ||| (~~~x4 &&& x6)) + conB k + W)) ?_
                      intro wf bf uf
                      rw [splice_all (by simp [bit_size])] at bf
                      refine ⟨fun h => Bool.noConfusion (h.symm.trans (by kernel_rfl : waitsAll _ _ _ = true)), ?_⟩
                      show Exit.then _ _ Exit.normal _ _
                      have UF := U26.trans uf (by simp; exact hz26)
                      go_wp2
                      go_meet
                      case rel => exact ⟨rfl,  g26, rfl, bf, UF, hz26⟩
                    · refine wpList_alloc_bits (o := ⟨some 9, _, _, _, _, _⟩) rfl rfl ?_
                      intro g27 w27 bg27 u27 hg27
                      simp only [Act.put, List.setIfInBounds_toArray, List.set_cons_zero, List.set_cons_succ, List.getElem_toArray, List.getElem_cons_succ, List.getElem_cons_zero]
                      have hz27 := Nat.le_trans U24.size hg27
                      have S27 := And.intro (S24.1.upd u27 (by simp)) (And.intro (S24.2.1.upd u27 (by simp)) (S24.2.2.upd u27 (by simp)))
                      have U27 := U24.trans u27 (by simp)
                      refine ⟨fun _ => S27, ?_⟩
                      refine ord_act rfl ?_
                      go_wp2_with fail
                      refine (plus_any _ _ _).mono ?_
                      rintro e w28 ⟨rfl, u28⟩
                      have S28 := And.intro (S27.1.upd u28 (by simp)) (And.intro (S27.2.1.upd u28 (by simp)) (S27.2.2.upd u28 (by simp)))
                      have U28 := U27.trans u28 (by simp)
                      go_wp2_with fail
                      refine ⟨fun _ => S28, ?_⟩
                      refine ord_act rfl ?_
                      refine wpList_store_blk (by rfl) 110 (.tmp 9) (.tmp 48) (by rfl) (b := g27) 0 (by rfl) (bg27.upd u28 (by simp)) (.agg (bitArr (x7 + (rightB x4 6 true ^^^ rightB x4 11 true ^^^ rightB x4 25 true) + ((x4 &&& x5) ||| (~~~x4 &&& x6)) + conB k + W))) (by rfl) (bitArr (x7 + (rightB x4 6 true ^^^ rightB x4 11 true ^^^ rightB x4 25 true) + ((x4 &&& x5) ||| (~~~x4 &&& x6)) + conB k + W)).toList (by rfl) (by simp [bit_size]) (bit_one (x7 + (rightB x4 6 true ^^^ rightB x4 11 true ^^^ rightB x4 25 true) + ((x4 &&& x5) ||| (~~~x4 &&& x6)) + conB k + W)) (HL.out (x7 + (rightB x4 6 true ^^^ rightB x4 11 true ^^^ rightB x4 25 true) + ((x4 &&& x5) ||| (~~~x4 &&& x6)) + conB k + W)) ?_
                      intro wf bf uf
                      rw [splice_all (by simp [bit_size])] at bf
                      refine ⟨fun h => Bool.noConfusion (h.symm.trans (by kernel_rfl : waitsAll _ _ _ = true)), ?_⟩
                      show Exit.then _ _ Exit.normal _ _
                      have UF := U28.trans uf (by simp; exact hz27)
                      go_wp2
                      go_meet
                      case rel => exact ⟨rfl,  g27, rfl, bf, UF, hz27⟩
                  · refine wpList_alloc_bits (o := ⟨some 9, _, _, _, _, _⟩) rfl rfl ?_
                    intro g29 w29 bg29 u29 hg29
                    simp only [Act.put, List.setIfInBounds_toArray, List.set_cons_zero, List.set_cons_succ, List.getElem_toArray, List.getElem_cons_succ, List.getElem_cons_zero]
                    have hz29 := Nat.le_trans U23.size hg29
                    have S29 := And.intro (S23.1.upd u29 (by simp)) (And.intro (S23.2.1.upd u29 (by simp)) (S23.2.2.upd u29 (by simp)))
                    have U29 := U23.trans u29 (by simp)
                    refine ⟨fun _ => S29, ?_⟩
                    refine ord_act rfl ?_
                    go_wp2_with fail
                    refine (plus_any _ _ _).mono ?_
                    rintro e w30 ⟨rfl, u30⟩
                    have S30 := And.intro (S29.1.upd u30 (by simp)) (And.intro (S29.2.1.upd u30 (by simp)) (S29.2.2.upd u30 (by simp)))
                    have U30 := U29.trans u30 (by simp)
                    go_wp2_with fail
                    refine ⟨fun _ => S30, ?_⟩
                    refine ord_act rfl ?_
                    go_wp2_with fail
                    refine (plus_any _ _ _).mono ?_
                    rintro e w31 ⟨rfl, u31⟩
                    have S31 := And.intro (S30.1.upd u31 (by simp)) (And.intro (S30.2.1.upd u31 (by simp)) (S30.2.2.upd u31 (by simp)))
                    have U31 := U30.trans u31 (by simp)
                    go_wp2_with fail
                    refine ⟨fun _ => S31, ?_⟩
                    refine ord_act rfl ?_
                    refine wpList_store_blk (by rfl) 110 (.tmp 9) (.tmp 48) (by rfl) (b := g29) 0 (by rfl) ((bg29.upd u30 (by simp)).upd u31 (by simp)) (.agg (bitArr (x7 + (rightB x4 6 true ^^^ rightB x4 11 true ^^^ rightB x4 25 true) + ((x4 &&& x5) ||| (~~~x4 &&& x6)) + conB k + W))) (by rfl) (bitArr (x7 + (rightB x4 6 true ^^^ rightB x4 11 true ^^^ rightB x4 25 true) + ((x4 &&& x5) ||| (~~~x4 &&& x6)) + conB k + W)).toList (by rfl) (by simp [bit_size]) (bit_one (x7 + (rightB x4 6 true ^^^ rightB x4 11 true ^^^ rightB x4 25 true) + ((x4 &&& x5) ||| (~~~x4 &&& x6)) + conB k + W)) (HL.out (x7 + (rightB x4 6 true ^^^ rightB x4 11 true ^^^ rightB x4 25 true) + ((x4 &&& x5) ||| (~~~x4 &&& x6)) + conB k + W)) ?_
                    intro wf bf uf
                    rw [splice_all (by simp [bit_size])] at bf
                    refine ⟨fun h => Bool.noConfusion (h.symm.trans (by kernel_rfl : waitsAll _ _ _ = true)), ?_⟩
                    show Exit.then _ _ Exit.normal _ _
                    have UF := U31.trans uf (by simp; exact hz29)
                    go_wp2
                    go_meet
                    case rel => exact ⟨rfl,  g29, rfl, bf, UF, hz29⟩
                · refine wpList_alloc_bits (o := ⟨some 9, _, _, _, _, _⟩) rfl rfl ?_
                  intro g32 w32 bg32 u32 hg32
                  simp only [Act.put, List.setIfInBounds_toArray, List.set_cons_zero, List.set_cons_succ, List.getElem_toArray, List.getElem_cons_succ, List.getElem_cons_zero]
                  have hz32 := Nat.le_trans U22.size hg32
                  have S32 := And.intro (S22.1.upd u32 (by simp)) (And.intro (S22.2.1.upd u32 (by simp)) (S22.2.2.upd u32 (by simp)))
                  have U32 := U22.trans u32 (by simp)
                  refine ⟨fun _ => S32, ?_⟩
                  refine ord_act rfl ?_
                  go_wp2_with fail
                  refine (conB_any _ _ (by kernel_rfl) k hlt).mono ?_
                  rintro e w33 ⟨rfl, u33⟩
                  have S33 := And.intro (S32.1.upd u33 (by simp)) (And.intro (S32.2.1.upd u33 (by simp)) (S32.2.2.upd u33 (by simp)))
                  have U33 := U32.trans u33 (by simp)
                  go_wp2_with fail
                  refine ⟨fun _ => S33, ?_⟩
                  refine ord_act rfl ?_
                  go_wp2_with fail
                  refine (plus_any _ _ _).mono ?_
                  rintro e w34 ⟨rfl, u34⟩
                  have S34 := And.intro (S33.1.upd u34 (by simp)) (And.intro (S33.2.1.upd u34 (by simp)) (S33.2.2.upd u34 (by simp)))
                  have U34 := U33.trans u34 (by simp)
                  go_wp2_with fail
                  refine ⟨fun _ => S34, ?_⟩
                  refine ord_act rfl ?_
                  go_wp2_with fail
                  refine (plus_any _ _ _).mono ?_
                  rintro e w35 ⟨rfl, u35⟩
                  have S35 := And.intro (S34.1.upd u35 (by simp)) (And.intro (S34.2.1.upd u35 (by simp)) (S34.2.2.upd u35 (by simp)))
                  have U35 := U34.trans u35 (by simp)
                  go_wp2_with fail
                  refine ⟨fun _ => S35, ?_⟩
                  refine ord_act rfl ?_
                  refine wpList_store_blk (by rfl) 110 (.tmp 9) (.tmp 48) (by rfl) (b := g32) 0 (by rfl) (((bg32.upd u33 (by simp)).upd u34 (by simp)).upd u35 (by simp)) (.agg (bitArr (x7 + (rightB x4 6 true ^^^ rightB x4 11 true ^^^ rightB x4 25 true) + ((x4 &&& x5) ||| (~~~x4 &&& x6)) + conB k + W))) (by rfl) (bitArr (x7 + (rightB x4 6 true ^^^ rightB x4 11 true ^^^ rightB x4 25 true) + ((x4 &&& x5) ||| (~~~x4 &&& x6)) + conB k + W)).toList (by rfl) (by simp [bit_size]) (bit_one (x7 + (rightB x4 6 true ^^^ rightB x4 11 true ^^^ rightB x4 25 true) + ((x4 &&& x5) ||| (~~~x4 &&& x6)) + conB k + W)) (HL.out (x7 + (rightB x4 6 true ^^^ rightB x4 11 true ^^^ rightB x4 25 true) + ((x4 &&& x5) ||| (~~~x4 &&& x6)) + conB k + W)) ?_
                  intro wf bf uf
                  rw [splice_all (by simp [bit_size])] at bf
                  refine ⟨fun h => Bool.noConfusion (h.symm.trans (by kernel_rfl : waitsAll _ _ _ = true)), ?_⟩
                  show Exit.then _ _ Exit.normal _ _
                  have UF := U35.trans uf (by simp; exact hz32)
                  go_wp2
                  go_meet
                  case rel => exact ⟨rfl,  g32, rfl, bf, UF, hz32⟩
              · refine wpList_alloc_bits (o := ⟨some 9, _, _, _, _, _⟩) rfl rfl ?_
                intro g36 w36 bg36 u36 hg36
                simp only [Act.put, List.setIfInBounds_toArray, List.set_cons_zero, List.set_cons_succ, List.getElem_toArray, List.getElem_cons_succ, List.getElem_cons_zero]
                have hz36 := Nat.le_trans U21.size hg36
                have S36 := And.intro (S21.1.upd u36 (by simp)) (And.intro (S21.2.1.upd u36 (by simp)) (S21.2.2.upd u36 (by simp)))
                have U36 := U21.trans u36 (by simp)
                refine ⟨fun _ => S36, ?_⟩
                refine ord_act rfl ?_
                go_wp2_with fail
                refine (plus_any _ _ _).mono ?_
                rintro e w37 ⟨rfl, u37⟩
                have S37 := And.intro (S36.1.upd u37 (by simp)) (And.intro (S36.2.1.upd u37 (by simp)) (S36.2.2.upd u37 (by simp)))
                have U37 := U36.trans u37 (by simp)
                go_wp2_with fail
                refine ⟨fun _ => S37, ?_⟩
                refine ord_act rfl ?_
                go_wp2_with fail
                refine (conB_any _ _ (by kernel_rfl) k hlt).mono ?_
                rintro e w38 ⟨rfl, u38⟩
                have S38 := And.intro (S37.1.upd u38 (by simp)) (And.intro (S37.2.1.upd u38 (by simp)) (S37.2.2.upd u38 (by simp)))
                have U38 := U37.trans u38 (by simp)
                go_wp2_with fail
                refine ⟨fun _ => S38, ?_⟩
                refine ord_act rfl ?_
                go_wp2_with fail
                refine (plus_any _ _ _).mono ?_
                rintro e w39 ⟨rfl, u39⟩
                have S39 := And.intro (S38.1.upd u39 (by simp)) (And.intro (S38.2.1.upd u39 (by simp)) (S38.2.2.upd u39 (by simp)))
                have U39 := U38.trans u39 (by simp)
                go_wp2_with fail
                refine ⟨fun _ => S39, ?_⟩
                refine ord_act rfl ?_
                go_wp2_with fail
                refine (plus_any _ _ _).mono ?_
                rintro e w40 ⟨rfl, u40⟩
                have S40 := And.intro (S39.1.upd u40 (by simp)) (And.intro (S39.2.1.upd u40 (by simp)) (S39.2.2.upd u40 (by simp)))
                have U40 := U39.trans u40 (by simp)
                go_wp2_with fail
                refine ⟨fun _ => S40, ?_⟩
                refine ord_act rfl ?_
                refine wpList_store_blk (by rfl) 110 (.tmp 9) (.tmp 48) (by rfl) (b := g36) 0 (by rfl) ((((bg36.upd u37 (by simp)).upd u38 (by simp)).upd u39 (by simp)).upd u40 (by simp)) (.agg (bitArr (x7 + (rightB x4 6 true ^^^ rightB x4 11 true ^^^ rightB x4 25 true) + ((x4 &&& x5) ||| (~~~x4 &&& x6)) + conB k + W))) (by rfl) (bitArr (x7 + (rightB x4 6 true ^^^ rightB x4 11 true ^^^ rightB x4 25 true) + ((x4 &&& x5) ||| (~~~x4 &&& x6)) + conB k + W)).toList (by rfl) (by simp [bit_size]) (bit_one (x7 + (rightB x4 6 true ^^^ rightB x4 11 true ^^^ rightB x4 25 true) + ((x4 &&& x5) ||| (~~~x4 &&& x6)) + conB k + W)) (HL.out (x7 + (rightB x4 6 true ^^^ rightB x4 11 true ^^^ rightB x4 25 true) + ((x4 &&& x5) ||| (~~~x4 &&& x6)) + conB k + W)) ?_
                intro wf bf uf
                rw [splice_all (by simp [bit_size])] at bf
                refine ⟨fun h => Bool.noConfusion (h.symm.trans (by kernel_rfl : waitsAll _ _ _ = true)), ?_⟩
                show Exit.then _ _ Exit.normal _ _
                have UF := U40.trans uf (by simp; exact hz36)
                go_wp2
                go_meet
                case rel => exact ⟨rfl,  g36, rfl, bf, UF, hz36⟩
            · refine wpList_alloc_bits (o := ⟨some 9, _, _, _, _, _⟩) rfl rfl ?_
              intro g41 w41 bg41 u41 hg41
              simp only [Act.put, List.setIfInBounds_toArray, List.set_cons_zero, List.set_cons_succ, List.getElem_toArray, List.getElem_cons_succ, List.getElem_cons_zero]
              have hz41 := Nat.le_trans U20.size hg41
              have S41 := And.intro (S20.1.upd u41 (by simp)) (And.intro (S20.2.1.upd u41 (by simp)) (S20.2.2.upd u41 (by simp)))
              have U41 := U20.trans u41 (by simp)
              refine ⟨fun _ => S41, ?_⟩
              refine ord_act rfl ?_
              go_wp2_with fail
              refine (pick_any _ x4 x5 x6).mono ?_
              rintro e w42 ⟨rfl, u42⟩
              have S42 := And.intro (S41.1.upd u42 (by simp)) (And.intro (S41.2.1.upd u42 (by simp)) (S41.2.2.upd u42 (by simp)))
              have U42 := U41.trans u42 (by simp)
              go_wp2_with fail
              refine ⟨fun _ => S42, ?_⟩
              refine ord_act rfl ?_
              go_wp2_with fail
              refine (plus_any _ _ _).mono ?_
              rintro e w43 ⟨rfl, u43⟩
              have S43 := And.intro (S42.1.upd u43 (by simp)) (And.intro (S42.2.1.upd u43 (by simp)) (S42.2.2.upd u43 (by simp)))
              have U43 := U42.trans u43 (by simp)
              go_wp2_with fail
              refine ⟨fun _ => S43, ?_⟩
              refine ord_act rfl ?_
              go_wp2_with fail
              refine (conB_any _ _ (by kernel_rfl) k hlt).mono ?_
              rintro e w44 ⟨rfl, u44⟩
              have S44 := And.intro (S43.1.upd u44 (by simp)) (And.intro (S43.2.1.upd u44 (by simp)) (S43.2.2.upd u44 (by simp)))
              have U44 := U43.trans u44 (by simp)
              go_wp2_with fail
              refine ⟨fun _ => S44, ?_⟩
              refine ord_act rfl ?_
              go_wp2_with fail
              refine (plus_any _ _ _).mono ?_
              rintro e w45 ⟨rfl, u45⟩
              have S45 := And.intro (S44.1.upd u45 (by simp)) (And.intro (S44.2.1.upd u45 (by simp)) (S44.2.2.upd u45 (by simp)))
              have U45 := U44.trans u45 (by simp)
              go_wp2_with fail
              refine ⟨fun _ => S45, ?_⟩
              refine ord_act rfl ?_
              go_wp2_with fail
              refine (plus_any _ _ _).mono ?_
              rintro e w46 ⟨rfl, u46⟩
              have S46 := And.intro (S45.1.upd u46 (by simp)) (And.intro (S45.2.1.upd u46 (by simp)) (S45.2.2.upd u46 (by simp)))
              have U46 := U45.trans u46 (by simp)
              go_wp2_with fail
              refine ⟨fun _ => S46, ?_⟩
              refine ord_act rfl ?_
              refine wpList_store_blk (by rfl) 110 (.tmp 9) (.tmp 48) (by rfl) (b := g41) 0 (by rfl) (((((bg41.upd u42 (by simp)).upd u43 (by simp)).upd u44 (by simp)).upd u45 (by simp)).upd u46 (by simp)) (.agg (bitArr (x7 + (rightB x4 6 true ^^^ rightB x4 11 true ^^^ rightB x4 25 true) + ((x4 &&& x5) ||| (~~~x4 &&& x6)) + conB k + W))) (by rfl) (bitArr (x7 + (rightB x4 6 true ^^^ rightB x4 11 true ^^^ rightB x4 25 true) + ((x4 &&& x5) ||| (~~~x4 &&& x6)) + conB k + W)).toList (by rfl) (by simp [bit_size]) (bit_one (x7 + (rightB x4 6 true ^^^ rightB x4 11 true ^^^ rightB x4 25 true) + ((x4 &&& x5) ||| (~~~x4 &&& x6)) + conB k + W)) (HL.out (x7 + (rightB x4 6 true ^^^ rightB x4 11 true ^^^ rightB x4 25 true) + ((x4 &&& x5) ||| (~~~x4 &&& x6)) + conB k + W)) ?_
              intro wf bf uf
              rw [splice_all (by simp [bit_size])] at bf
              refine ⟨fun h => Bool.noConfusion (h.symm.trans (by kernel_rfl : waitsAll _ _ _ = true)), ?_⟩
              show Exit.then _ _ Exit.normal _ _
              have UF := U46.trans uf (by simp; exact hz41)
              go_wp2
              go_meet
              case rel => exact ⟨rfl,  g41, rfl, bf, UF, hz41⟩
          · refine wpList_alloc_bits (o := ⟨some 9, _, _, _, _, _⟩) rfl rfl ?_
            intro g47 w47 bg47 u47 hg47
            simp only [Act.put, List.setIfInBounds_toArray, List.set_cons_zero, List.set_cons_succ, List.getElem_toArray, List.getElem_cons_succ, List.getElem_cons_zero]
            have hz47 := Nat.le_trans U0.size hg47
            have S47 := And.intro (S0.1.upd u47 (by simp)) (And.intro (S0.2.1.upd u47 (by simp)) (S0.2.2.upd u47 (by simp)))
            have U47 := U0.trans u47 (by simp)
            refine ⟨fun _ => S47, ?_⟩
            refine ord_act rfl ?_
            go_wp2_with fail
            refine (plus_any _ x7 (rightB x4 6 true ^^^ rightB x4 11 true ^^^ rightB x4 25 true)).mono ?_
            rintro e w48 ⟨rfl, u48⟩
            have S48 := And.intro (S47.1.upd u48 (by simp)) (And.intro (S47.2.1.upd u48 (by simp)) (S47.2.2.upd u48 (by simp)))
            have U48 := U47.trans u48 (by simp)
            go_wp2_with fail
            refine ⟨fun _ => S48, ?_⟩
            refine ord_act rfl ?_
            go_wp2_with fail
            refine (pick_any _ x4 x5 x6).mono ?_
            rintro e w49 ⟨rfl, u49⟩
            have S49 := And.intro (S48.1.upd u49 (by simp)) (And.intro (S48.2.1.upd u49 (by simp)) (S48.2.2.upd u49 (by simp)))
            have U49 := U48.trans u49 (by simp)
            go_wp2_with fail
            refine ⟨fun _ => S49, ?_⟩
            refine ord_act rfl ?_
            go_wp2_with fail
            refine (plus_any _ _ _).mono ?_
            rintro e w50 ⟨rfl, u50⟩
            have S50 := And.intro (S49.1.upd u50 (by simp)) (And.intro (S49.2.1.upd u50 (by simp)) (S49.2.2.upd u50 (by simp)))
            have U50 := U49.trans u50 (by simp)
            go_wp2_with fail
            refine ⟨fun _ => S50, ?_⟩
            refine ord_act rfl ?_
            go_wp2_with fail
            refine (conB_any _ _ (by kernel_rfl) k hlt).mono ?_
            rintro e w51 ⟨rfl, u51⟩
            have S51 := And.intro (S50.1.upd u51 (by simp)) (And.intro (S50.2.1.upd u51 (by simp)) (S50.2.2.upd u51 (by simp)))
            have U51 := U50.trans u51 (by simp)
            go_wp2_with fail
            refine ⟨fun _ => S51, ?_⟩
            refine ord_act rfl ?_
            go_wp2_with fail
            refine (plus_any _ _ _).mono ?_
            rintro e w52 ⟨rfl, u52⟩
            have S52 := And.intro (S51.1.upd u52 (by simp)) (And.intro (S51.2.1.upd u52 (by simp)) (S51.2.2.upd u52 (by simp)))
            have U52 := U51.trans u52 (by simp)
            go_wp2_with fail
            refine ⟨fun _ => S52, ?_⟩
            refine ord_act rfl ?_
            go_wp2_with fail
            refine (plus_any _ _ _).mono ?_
            rintro e w53 ⟨rfl, u53⟩
            have S53 := And.intro (S52.1.upd u53 (by simp)) (And.intro (S52.2.1.upd u53 (by simp)) (S52.2.2.upd u53 (by simp)))
            have U53 := U52.trans u53 (by simp)
            go_wp2_with fail
            refine ⟨fun _ => S53, ?_⟩
            refine ord_act rfl ?_
            refine wpList_store_blk (by rfl) 110 (.tmp 9) (.tmp 48) (by rfl) (b := g47) 0 (by rfl) ((((((bg47.upd u48 (by simp)).upd u49 (by simp)).upd u50 (by simp)).upd u51 (by simp)).upd u52 (by simp)).upd u53 (by simp)) (.agg (bitArr (x7 + (rightB x4 6 true ^^^ rightB x4 11 true ^^^ rightB x4 25 true) + ((x4 &&& x5) ||| (~~~x4 &&& x6)) + conB k + W))) (by rfl) (bitArr (x7 + (rightB x4 6 true ^^^ rightB x4 11 true ^^^ rightB x4 25 true) + ((x4 &&& x5) ||| (~~~x4 &&& x6)) + conB k + W)).toList (by rfl) (by simp [bit_size]) (bit_one (x7 + (rightB x4 6 true ^^^ rightB x4 11 true ^^^ rightB x4 25 true) + ((x4 &&& x5) ||| (~~~x4 &&& x6)) + conB k + W)) (HL.out (x7 + (rightB x4 6 true ^^^ rightB x4 11 true ^^^ rightB x4 25 true) + ((x4 &&& x5) ||| (~~~x4 &&& x6)) + conB k + W)) ?_
            intro wf bf uf
            rw [splice_all (by simp [bit_size])] at bf
            refine ⟨fun h => Bool.noConfusion (h.symm.trans (by kernel_rfl : waitsAll _ _ _ = true)), ?_⟩
            show Exit.then _ _ Exit.normal _ _
            have UF := U53.trans uf (by simp; exact hz47)
            go_wp2
            go_meet
            case rel => exact ⟨rfl,  g47, rfl, bf, UF, hz47⟩
        case rest =>
          obtain ⟨rfl, gt, rfl, bt, ut, lt⟩ := hcut
          have U7 := us.trans ut (by simp)
          have b6 := b6'.upd ut (by simp)
          have lt0 := Nat.le_trans us.size lt
          clear b6' c5' bs us ut lt
          go_upto_region 8 with (fail)
          obtain ⟨w2, hw2⟩ : ∃ x : World, x = wc := ⟨_, rfl⟩
          subst hw2
          go_cut [7, 9, 10] (fun s7 s9 s10 wx => s7 = .int .i64 k ∧ s9 = .pointer (some ⟨gt, 0, none⟩) ∧ ∃ gu, s10 = .pointer (some ⟨gu, 0, none⟩) ∧ Blk wx gu (bitArr (rightB x0 2 true ^^^ rightB x0 13 true ^^^ rightB x0 22 true)) 110 ∧ Upd [] w2 wx ∧ w2.heap.size ≤ gu)
          case first =>
            have S0 : Blk w2.drew g6 (eight [x0, x1, x2, x3, x4, x5, x6, x7]) 111 := b6
            have U0 := (Upd.refl [] w2).drew
            refine wp_region_ord (S := fun w => Blk w g6 (eight [x0, x1, x2, x3, x4, x5, x6, x7]) 111) (.take 0 (.take 1 (.take 3 (.take 4 (.take 6 (.take 7 (.alt 2 (.alt 5 (.alt 8 (.alt 9 (.act 10 (.act 11 .done)) 10 (.act 9 (.act 11 .done))) 10 (.act 8 (.act 9 (.act 11 .done)))) 10 (.act 5 (.act 8 (.act 9 (.act 11 .done))))) 10 (.act 2 (.act 5 (.act 8 (.act 9 (.act 11 .done)))))))))))) (by kernel_rfl) (by kernel_rfl) (fun _ _ d _ _ h => by cases d <;> exact h) ?_
            refine ord_index rfl rfl rfl (.pointer (some ⟨g6, 0, none⟩)) (.int .i64 0) (.pointer (some ⟨g6, 0, none⟩)) (by first | rfl | (simp [Act.eval]; done)) (by first | rfl | (simp [Act.eval]; done)) S0 (fun w => run_idx8 w g6 0 (by decide)) ?_
            simp only [Act.put, List.setIfInBounds_toArray, List.set_cons_zero, List.set_cons_succ, List.getElem_toArray, List.getElem_cons_succ, List.getElem_cons_zero]
            refine ord_load_blk rfl rfl rfl g6 0 (by first | rfl | (simp [Act.eval]; done)) (eight [x0, x1, x2, x3, x4, x5, x6, x7]) 111 (fun _ h => h) _ (bitArr x0).toList (HE.out.1) Tryd.underlying110 rfl (HL.out x0) S0 ?_
            simp only [Act.put, List.setIfInBounds_toArray, List.set_cons_zero, List.set_cons_succ, List.getElem_toArray, List.getElem_cons_succ, List.getElem_cons_zero]
            refine ord_index rfl rfl rfl (.pointer (some ⟨g6, 0, none⟩)) (.int .i64 0) (.pointer (some ⟨g6, 0, none⟩)) (by first | rfl | (simp [Act.eval]; done)) (by first | rfl | (simp [Act.eval]; done)) S0 (fun w => run_idx8 w g6 0 (by decide)) ?_
            simp only [Act.put, List.setIfInBounds_toArray, List.set_cons_zero, List.set_cons_succ, List.getElem_toArray, List.getElem_cons_succ, List.getElem_cons_zero]
            refine ord_load_blk rfl rfl rfl g6 0 (by first | rfl | (simp [Act.eval]; done)) (eight [x0, x1, x2, x3, x4, x5, x6, x7]) 111 (fun _ h => h) _ (bitArr x0).toList (HE.out.1) Tryd.underlying110 rfl (HL.out x0) S0 ?_
            simp only [Act.put, List.setIfInBounds_toArray, List.set_cons_zero, List.set_cons_succ, List.getElem_toArray, List.getElem_cons_succ, List.getElem_cons_zero]
            refine ord_index rfl rfl rfl (.pointer (some ⟨g6, 0, none⟩)) (.int .i64 0) (.pointer (some ⟨g6, 0, none⟩)) (by first | rfl | (simp [Act.eval]; done)) (by first | rfl | (simp [Act.eval]; done)) S0 (fun w => run_idx8 w g6 0 (by decide)) ?_
            simp only [Act.put, List.setIfInBounds_toArray, List.set_cons_zero, List.set_cons_succ, List.getElem_toArray, List.getElem_cons_succ, List.getElem_cons_zero]
            refine ord_load_blk rfl rfl rfl g6 0 (by first | rfl | (simp [Act.eval]; done)) (eight [x0, x1, x2, x3, x4, x5, x6, x7]) 111 (fun _ h => h) _ (bitArr x0).toList (HE.out.1) Tryd.underlying110 rfl (HL.out x0) S0 ?_
            simp only [Act.put, List.setIfInBounds_toArray, List.set_cons_zero, List.set_cons_succ, List.getElem_toArray, List.getElem_cons_succ, List.getElem_cons_zero]
            refine ord_alt rfl rfl ?_ ?_
            · go_wp2_with fail
              refine (right_any _ x0 2 true (by decide)).mono ?_
              rintro e w54 ⟨rfl, u54⟩
              have S54 := S0.upd u54 (by simp)
              have U54 := U0.trans u54 (by simp)
              go_wp2_with fail
              refine ⟨fun _ => S54, ?_⟩
              refine ord_alt rfl rfl ?_ ?_
              · go_wp2_with fail
                refine (right_any _ x0 13 true (by decide)).mono ?_
                rintro e w55 ⟨rfl, u55⟩
                have S55 := S54.upd u55 (by simp)
                have U55 := U54.trans u55 (by simp)
                go_wp2_with fail
                refine ⟨fun _ => S55, ?_⟩
                refine ord_alt rfl rfl ?_ ?_
                · go_wp2_with fail
                  refine (right_any _ x0 22 true (by decide)).mono ?_
                  rintro e w56 ⟨rfl, u56⟩
                  have S56 := S55.upd u56 (by simp)
                  have U56 := U55.trans u56 (by simp)
                  go_wp2_with fail
                  refine ⟨fun _ => S56, ?_⟩
                  refine ord_alt rfl rfl ?_ ?_
                  · go_wp2_with fail
                    refine (odd_any _ _ _ _).mono ?_
                    rintro e w57 ⟨rfl, u57⟩
                    have S57 := S56.upd u57 (by simp)
                    have U57 := U56.trans u57 (by simp)
                    go_wp2_with fail
                    refine ⟨fun _ => S57, ?_⟩
                    refine ord_act rfl ?_
                    refine wpList_alloc_bits (o := ⟨some 10, _, _, _, _, _⟩) rfl rfl ?_
                    intro g58 w58 bg58 u58 hg58
                    simp only [Act.put, List.setIfInBounds_toArray, List.set_cons_zero, List.set_cons_succ, List.getElem_toArray, List.getElem_cons_succ, List.getElem_cons_zero]
                    have hz58 := Nat.le_trans U57.size hg58
                    have S58 := S57.upd u58 (by simp)
                    have U58 := U57.trans u58 (by simp)
                    refine ⟨fun _ => S58, ?_⟩
                    refine ord_act rfl ?_
                    refine wpList_store_blk (by rfl) 110 (.tmp 10) (.tmp 58) (by rfl) (b := g58) 0 (by rfl) bg58 (.agg (bitArr (rightB x0 2 true ^^^ rightB x0 13 true ^^^ rightB x0 22 true))) (by rfl) (bitArr (rightB x0 2 true ^^^ rightB x0 13 true ^^^ rightB x0 22 true)).toList (by rfl) (by simp [bit_size]) (bit_one (rightB x0 2 true ^^^ rightB x0 13 true ^^^ rightB x0 22 true)) (HL.out (rightB x0 2 true ^^^ rightB x0 13 true ^^^ rightB x0 22 true)) ?_
                    intro wf bf uf
                    rw [splice_all (by simp [bit_size])] at bf
                    refine ⟨fun h => Bool.noConfusion (h.symm.trans (by kernel_rfl : waitsAll _ _ _ = true)), ?_⟩
                    show Exit.then _ _ Exit.normal _ _
                    have UF := U58.trans uf (by simp; exact hz58)
                    go_wp2
                    go_meet
                    case rel => exact ⟨rfl, rfl,  g58, rfl, bf, UF, hz58⟩
                  · refine wpList_alloc_bits (o := ⟨some 10, _, _, _, _, _⟩) rfl rfl ?_
                    intro g59 w59 bg59 u59 hg59
                    simp only [Act.put, List.setIfInBounds_toArray, List.set_cons_zero, List.set_cons_succ, List.getElem_toArray, List.getElem_cons_succ, List.getElem_cons_zero]
                    have hz59 := Nat.le_trans U56.size hg59
                    have S59 := S56.upd u59 (by simp)
                    have U59 := U56.trans u59 (by simp)
                    refine ⟨fun _ => S59, ?_⟩
                    refine ord_act rfl ?_
                    go_wp2_with fail
                    refine (odd_any _ _ _ _).mono ?_
                    rintro e w60 ⟨rfl, u60⟩
                    have S60 := S59.upd u60 (by simp)
                    have U60 := U59.trans u60 (by simp)
                    go_wp2_with fail
                    refine ⟨fun _ => S60, ?_⟩
                    refine ord_act rfl ?_
                    refine wpList_store_blk (by rfl) 110 (.tmp 10) (.tmp 58) (by rfl) (b := g59) 0 (by rfl) (bg59.upd u60 (by simp)) (.agg (bitArr (rightB x0 2 true ^^^ rightB x0 13 true ^^^ rightB x0 22 true))) (by rfl) (bitArr (rightB x0 2 true ^^^ rightB x0 13 true ^^^ rightB x0 22 true)).toList (by rfl) (by simp [bit_size]) (bit_one (rightB x0 2 true ^^^ rightB x0 13 true ^^^ rightB x0 22 true)) (HL.out (rightB x0 2 true ^^^ rightB x0 13 true ^^^ rightB x0 22 true)) ?_
                    intro wf bf uf
                    rw [splice_all (by simp [bit_size])] at bf
                    refine ⟨fun h => Bool.noConfusion (h.symm.trans (by kernel_rfl : waitsAll _ _ _ = true)), ?_⟩
                    show Exit.then _ _ Exit.normal _ _
                    have UF := U60.trans uf (by simp; exact hz59)
                    go_wp2
                    go_meet
                    case rel => exact ⟨rfl, rfl,  g59, rfl, bf, UF, hz59⟩
                · refine wpList_alloc_bits (o := ⟨some 10, _, _, _, _, _⟩) rfl rfl ?_
                  intro g61 w61 bg61 u61 hg61
                  simp only [Act.put, List.setIfInBounds_toArray, List.set_cons_zero, List.set_cons_succ, List.getElem_toArray, List.getElem_cons_succ, List.getElem_cons_zero]
                  have hz61 := Nat.le_trans U55.size hg61
                  have S61 := S55.upd u61 (by simp)
                  have U61 := U55.trans u61 (by simp)
                  refine ⟨fun _ => S61, ?_⟩
                  refine ord_act rfl ?_
                  go_wp2_with fail
                  refine (right_any _ x0 22 true (by decide)).mono ?_
                  rintro e w62 ⟨rfl, u62⟩
                  have S62 := S61.upd u62 (by simp)
                  have U62 := U61.trans u62 (by simp)
                  go_wp2_with fail
                  refine ⟨fun _ => S62, ?_⟩
                  refine ord_act rfl ?_
                  go_wp2_with fail
                  refine (odd_any _ _ _ _).mono ?_
                  rintro e w63 ⟨rfl, u63⟩
                  have S63 := S62.upd u63 (by simp)
                  have U63 := U62.trans u63 (by simp)
                  go_wp2_with fail
                  refine ⟨fun _ => S63, ?_⟩
                  refine ord_act rfl ?_
                  refine wpList_store_blk (by rfl) 110 (.tmp 10) (.tmp 58) (by rfl) (b := g61) 0 (by rfl) ((bg61.upd u62 (by simp)).upd u63 (by simp)) (.agg (bitArr (rightB x0 2 true ^^^ rightB x0 13 true ^^^ rightB x0 22 true))) (by rfl) (bitArr (rightB x0 2 true ^^^ rightB x0 13 true ^^^ rightB x0 22 true)).toList (by rfl) (by simp [bit_size]) (bit_one (rightB x0 2 true ^^^ rightB x0 13 true ^^^ rightB x0 22 true)) (HL.out (rightB x0 2 true ^^^ rightB x0 13 true ^^^ rightB x0 22 true)) ?_
                  intro wf bf uf
                  rw [splice_all (by simp [bit_size])] at bf
                  refine ⟨fun h => Bool.noConfusion (h.symm.trans (by kernel_rfl : waitsAll _ _ _ = true)), ?_⟩
                  show Exit.then _ _ Exit.normal _ _
                  have UF := U63.trans uf (by simp; exact hz61)
                  go_wp2
                  go_meet
                  case rel => exact ⟨rfl, rfl,  g61, rfl, bf, UF, hz61⟩
              · refine wpList_alloc_bits (o := ⟨some 10, _, _, _, _, _⟩) rfl rfl ?_
                intro g64 w64 bg64 u64 hg64
                simp only [Act.put, List.setIfInBounds_toArray, List.set_cons_zero, List.set_cons_succ, List.getElem_toArray, List.getElem_cons_succ, List.getElem_cons_zero]
                have hz64 := Nat.le_trans U54.size hg64
                have S64 := S54.upd u64 (by simp)
                have U64 := U54.trans u64 (by simp)
                refine ⟨fun _ => S64, ?_⟩
                refine ord_act rfl ?_
                go_wp2_with fail
                refine (right_any _ x0 13 true (by decide)).mono ?_
                rintro e w65 ⟨rfl, u65⟩
                have S65 := S64.upd u65 (by simp)
                have U65 := U64.trans u65 (by simp)
                go_wp2_with fail
                refine ⟨fun _ => S65, ?_⟩
                refine ord_act rfl ?_
                go_wp2_with fail
                refine (right_any _ x0 22 true (by decide)).mono ?_
                rintro e w66 ⟨rfl, u66⟩
                have S66 := S65.upd u66 (by simp)
                have U66 := U65.trans u66 (by simp)
                go_wp2_with fail
                refine ⟨fun _ => S66, ?_⟩
                refine ord_act rfl ?_
                go_wp2_with fail
                refine (odd_any _ _ _ _).mono ?_
                rintro e w67 ⟨rfl, u67⟩
                have S67 := S66.upd u67 (by simp)
                have U67 := U66.trans u67 (by simp)
                go_wp2_with fail
                refine ⟨fun _ => S67, ?_⟩
                refine ord_act rfl ?_
                refine wpList_store_blk (by rfl) 110 (.tmp 10) (.tmp 58) (by rfl) (b := g64) 0 (by rfl) (((bg64.upd u65 (by simp)).upd u66 (by simp)).upd u67 (by simp)) (.agg (bitArr (rightB x0 2 true ^^^ rightB x0 13 true ^^^ rightB x0 22 true))) (by rfl) (bitArr (rightB x0 2 true ^^^ rightB x0 13 true ^^^ rightB x0 22 true)).toList (by rfl) (by simp [bit_size]) (bit_one (rightB x0 2 true ^^^ rightB x0 13 true ^^^ rightB x0 22 true)) (HL.out (rightB x0 2 true ^^^ rightB x0 13 true ^^^ rightB x0 22 true)) ?_
                intro wf bf uf
                rw [splice_all (by simp [bit_size])] at bf
                refine ⟨fun h => Bool.noConfusion (h.symm.trans (by kernel_rfl : waitsAll _ _ _ = true)), ?_⟩
                show Exit.then _ _ Exit.normal _ _
                have UF := U67.trans uf (by simp; exact hz64)
                go_wp2
                go_meet
                case rel => exact ⟨rfl, rfl,  g64, rfl, bf, UF, hz64⟩
            · refine wpList_alloc_bits (o := ⟨some 10, _, _, _, _, _⟩) rfl rfl ?_
              intro g68 w68 bg68 u68 hg68
              simp only [Act.put, List.setIfInBounds_toArray, List.set_cons_zero, List.set_cons_succ, List.getElem_toArray, List.getElem_cons_succ, List.getElem_cons_zero]
              have hz68 := Nat.le_trans U0.size hg68
              have S68 := S0.upd u68 (by simp)
              have U68 := U0.trans u68 (by simp)
              refine ⟨fun _ => S68, ?_⟩
              refine ord_act rfl ?_
              go_wp2_with fail
              refine (right_any _ x0 2 true (by decide)).mono ?_
              rintro e w69 ⟨rfl, u69⟩
              have S69 := S68.upd u69 (by simp)
              have U69 := U68.trans u69 (by simp)
              go_wp2_with fail
              refine ⟨fun _ => S69, ?_⟩
              refine ord_act rfl ?_
              go_wp2_with fail
              refine (right_any _ x0 13 true (by decide)).mono ?_
              rintro e w70 ⟨rfl, u70⟩
              have S70 := S69.upd u70 (by simp)
              have U70 := U69.trans u70 (by simp)
              go_wp2_with fail
              refine ⟨fun _ => S70, ?_⟩
              refine ord_act rfl ?_
              go_wp2_with fail
              refine (right_any _ x0 22 true (by decide)).mono ?_
              rintro e w71 ⟨rfl, u71⟩
              have S71 := S70.upd u71 (by simp)
              have U71 := U70.trans u71 (by simp)
              go_wp2_with fail
              refine ⟨fun _ => S71, ?_⟩
              refine ord_act rfl ?_
              go_wp2_with fail
              refine (odd_any _ _ _ _).mono ?_
              rintro e w72 ⟨rfl, u72⟩
              have S72 := S71.upd u72 (by simp)
              have U72 := U71.trans u72 (by simp)
              go_wp2_with fail
              refine ⟨fun _ => S72, ?_⟩
              refine ord_act rfl ?_
              refine wpList_store_blk (by rfl) 110 (.tmp 10) (.tmp 58) (by rfl) (b := g68) 0 (by rfl) ((((bg68.upd u69 (by simp)).upd u70 (by simp)).upd u71 (by simp)).upd u72 (by simp)) (.agg (bitArr (rightB x0 2 true ^^^ rightB x0 13 true ^^^ rightB x0 22 true))) (by rfl) (bitArr (rightB x0 2 true ^^^ rightB x0 13 true ^^^ rightB x0 22 true)).toList (by rfl) (by simp [bit_size]) (bit_one (rightB x0 2 true ^^^ rightB x0 13 true ^^^ rightB x0 22 true)) (HL.out (rightB x0 2 true ^^^ rightB x0 13 true ^^^ rightB x0 22 true)) ?_
              intro wf bf uf
              rw [splice_all (by simp [bit_size])] at bf
              refine ⟨fun h => Bool.noConfusion (h.symm.trans (by kernel_rfl : waitsAll _ _ _ = true)), ?_⟩
              show Exit.then _ _ Exit.normal _ _
              have UF := U72.trans uf (by simp; exact hz68)
              go_wp2
              go_meet
              case rel => exact ⟨rfl, rfl,  g68, rfl, bf, UF, hz68⟩
          case rest =>
            obtain ⟨rfl, rfl, gu, rfl, bu, uu, lu⟩ := hcut
            have U8 := U7.trans uu (by simp)
            have c6 := b6.upd uu (by simp)
            have ct := bt.upd uu (by simp)
            have lu0 := Nat.le_trans U7.size lu
            have nut : gu ≠ gt := by have := bt.lt; omega
            have nu6 : gu ≠ g6 := by have := b6.lt; omega
            have nt6 : gt ≠ g6 := by have := hb6.lt; omega
            clear b6 bt uu lu U7
            go_upto_region 9 with (fail)
            obtain ⟨w3, hw3⟩ : ∃ x : World, x = wc := ⟨_, rfl⟩
            subst hw3
            go_cut [7, 9, 10] (fun s7 s9 s10 wx => s7 = .int .i64 k ∧ s9 = .pointer (some ⟨gt, 0, none⟩) ∧ s10 = .pointer (some ⟨gu, 0, none⟩) ∧ Blk wx gu (bitArr ((rightB x0 2 true ^^^ rightB x0 13 true ^^^ rightB x0 22 true) + ((x0 &&& x1) ||| (x0 &&& x2) ||| (x1 &&& x2)))) 110 ∧ Upd [gu] w3 wx)
            case first =>
              have S0 : Blk w3.drew g6 (eight [x0, x1, x2, x3, x4, x5, x6, x7]) 111 ∧ Blk w3.drew gu (bitArr (rightB x0 2 true ^^^ rightB x0 13 true ^^^ rightB x0 22 true)) 110 := ⟨c6, bu⟩
              have U0 := (Upd.refl [] w3).drew
              refine wp_region_ord (S := fun w => Blk w g6 (eight [x0, x1, x2, x3, x4, x5, x6, x7]) 111 ∧ Blk w gu (bitArr (rightB x0 2 true ^^^ rightB x0 13 true ^^^ rightB x0 22 true)) 110) (.take 0 (.take 1 (.take 2 (.take 3 (.take 4 (.take 5 (.take 6 (.act 7 (.act 8 (.act 9 .done)))))))))) (by kernel_rfl) (by kernel_rfl) (fun _ _ d _ _ h => by cases d <;> exact h) ?_
              refine ord_load_blk rfl rfl rfl gu 0 (by first | rfl | (simp [Act.eval]; done)) (bitArr (rightB x0 2 true ^^^ rightB x0 13 true ^^^ rightB x0 22 true)) 110 (fun _ h => h.2) _ (bitArr (rightB x0 2 true ^^^ rightB x0 13 true ^^^ rightB x0 22 true)).toList (fun j u hj => by rw [Nat.zero_add]; simpa using hj) Tryd.underlying110 rfl (HL.out (rightB x0 2 true ^^^ rightB x0 13 true ^^^ rightB x0 22 true)) S0 ?_
              simp only [Act.put, List.setIfInBounds_toArray, List.set_cons_zero, List.set_cons_succ, List.getElem_toArray, List.getElem_cons_succ, List.getElem_cons_zero]
              refine ord_index rfl rfl rfl (.pointer (some ⟨g6, 0, none⟩)) (.int .i64 0) (.pointer (some ⟨g6, 0, none⟩)) (by first | rfl | (simp [Act.eval]; done)) (by first | rfl | (simp [Act.eval]; done)) S0 (fun w => run_idx8 w g6 0 (by decide)) ?_
              simp only [Act.put, List.setIfInBounds_toArray, List.set_cons_zero, List.set_cons_succ, List.getElem_toArray, List.getElem_cons_succ, List.getElem_cons_zero]
              refine ord_load_blk rfl rfl rfl g6 0 (by first | rfl | (simp [Act.eval]; done)) (eight [x0, x1, x2, x3, x4, x5, x6, x7]) 111 (fun _ h => h.1) _ (bitArr x0).toList (HE.out.1) Tryd.underlying110 rfl (HL.out x0) S0 ?_
              simp only [Act.put, List.setIfInBounds_toArray, List.set_cons_zero, List.set_cons_succ, List.getElem_toArray, List.getElem_cons_succ, List.getElem_cons_zero]
              refine ord_index rfl rfl rfl (.pointer (some ⟨g6, 0, none⟩)) (.int .i64 1) (.pointer (some ⟨g6, 32, none⟩)) (by first | rfl | (simp [Act.eval]; done)) (by first | rfl | (simp [Act.eval]; done)) S0 (fun w => run_idx8 w g6 1 (by decide)) ?_
              simp only [Act.put, List.setIfInBounds_toArray, List.set_cons_zero, List.set_cons_succ, List.getElem_toArray, List.getElem_cons_succ, List.getElem_cons_zero]
              refine ord_load_blk rfl rfl rfl g6 32 (by first | rfl | (simp [Act.eval]; done)) (eight [x0, x1, x2, x3, x4, x5, x6, x7]) 111 (fun _ h => h.1) _ (bitArr x1).toList (HE.out.2.1) Tryd.underlying110 rfl (HL.out x1) S0 ?_
              simp only [Act.put, List.setIfInBounds_toArray, List.set_cons_zero, List.set_cons_succ, List.getElem_toArray, List.getElem_cons_succ, List.getElem_cons_zero]
              refine ord_index rfl rfl rfl (.pointer (some ⟨g6, 0, none⟩)) (.int .i64 2) (.pointer (some ⟨g6, 64, none⟩)) (by first | rfl | (simp [Act.eval]; done)) (by first | rfl | (simp [Act.eval]; done)) S0 (fun w => run_idx8 w g6 2 (by decide)) ?_
              simp only [Act.put, List.setIfInBounds_toArray, List.set_cons_zero, List.set_cons_succ, List.getElem_toArray, List.getElem_cons_succ, List.getElem_cons_zero]
              refine ord_load_blk rfl rfl rfl g6 64 (by first | rfl | (simp [Act.eval]; done)) (eight [x0, x1, x2, x3, x4, x5, x6, x7]) 111 (fun _ h => h.1) _ (bitArr x2).toList (HE.out.2.2.1) Tryd.underlying110 rfl (HL.out x2) S0 ?_
              simp only [Act.put, List.setIfInBounds_toArray, List.set_cons_zero, List.set_cons_succ, List.getElem_toArray, List.getElem_cons_succ, List.getElem_cons_zero]
              refine ord_act rfl ?_
              go_wp2_with fail
              refine (most_any _ x0 x1 x2).mono ?_
              rintro e v1 ⟨rfl, u1⟩
              have S1 := And.intro (S0.1.upd u1 (by simp)) (S0.2.upd u1 (by simp))
              have U1 := U0.trans u1 (by simp)
              go_wp2_with fail
              refine ⟨fun _ => S1, ?_⟩
              refine ord_act rfl ?_
              go_wp2_with fail
              refine (plus_any _ (rightB x0 2 true ^^^ rightB x0 13 true ^^^ rightB x0 22 true) ((x0 &&& x1) ||| (x0 &&& x2) ||| (x1 &&& x2))).mono ?_
              rintro e v2 ⟨rfl, u2⟩
              have S2 := And.intro (S1.1.upd u2 (by simp)) (S1.2.upd u2 (by simp))
              have U2 := U1.trans u2 (by simp)
              go_wp2_with fail
              refine ⟨fun _ => S2, ?_⟩
              refine ord_act rfl ?_
              refine wpList_store_blk (by rfl) 110 (.tmp 10) (.tmp 67) (by rfl) (b := gu) 0 (by rfl) S2.2 (.agg (bitArr ((rightB x0 2 true ^^^ rightB x0 13 true ^^^ rightB x0 22 true) + ((x0 &&& x1) ||| (x0 &&& x2) ||| (x1 &&& x2))))) (by rfl) (bitArr ((rightB x0 2 true ^^^ rightB x0 13 true ^^^ rightB x0 22 true) + ((x0 &&& x1) ||| (x0 &&& x2) ||| (x1 &&& x2)))).toList (by rfl) (by simp [bit_size]) (bit_one ((rightB x0 2 true ^^^ rightB x0 13 true ^^^ rightB x0 22 true) + ((x0 &&& x1) ||| (x0 &&& x2) ||| (x1 &&& x2)))) (HL.out ((rightB x0 2 true ^^^ rightB x0 13 true ^^^ rightB x0 22 true) + ((x0 &&& x1) ||| (x0 &&& x2) ||| (x1 &&& x2)))) ?_
              intro wf bf uf
              rw [splice_all (by simp [bit_size])] at bf
              refine ⟨fun h => Bool.noConfusion (h.symm.trans (by kernel_rfl : waitsAll _ _ _ = true)), ?_⟩
              show Exit.then _ _ Exit.normal _ _
              have UF := (U2.more (T := [gu]) (by simp)).trans uf (by simp)
              go_wp2
              go_meet
              case rel => exact ⟨rfl, rfl, rfl, bf, UF⟩
            case rest =>
              obtain ⟨rfl, rfl, rfl, bv, uv⟩ := hcut
              have U9 : Upd [] w0 wc := U8.trans uv (by simp; omega)
              have d6 := c6.upd uv (by simp; omega)
              have dt := ct.upd uv (by simp; omega)
              clear c6 ct bu uv U8
              go_upto_region 10 with (fail)
              obtain ⟨w4, hw4⟩ : ∃ x : World, x = wc := ⟨_, rfl⟩
              subst hw4
              have S0 : Blk w4.drew g6 (eight [x0, x1, x2, x3, x4, x5, x6, x7]) 111 ∧ Blk w4.drew gt (bitArr (x7 + (rightB x4 6 true ^^^ rightB x4 11 true ^^^ rightB x4 25 true) + ((x4 &&& x5) ||| (~~~x4 &&& x6)) + conB k + W)) 110 ∧ Blk w4.drew gu (bitArr ((rightB x0 2 true ^^^ rightB x0 13 true ^^^ rightB x0 22 true) + ((x0 &&& x1) ||| (x0 &&& x2) ||| (x1 &&& x2)))) 110 := ⟨d6, dt, bv⟩
              have U0 := (Upd.refl [] w4).drew
              refine wp_region_ord (S := fun w => Blk w g6 (eight [x0, x1, x2, x3, x4, x5, x6, x7]) 111 ∧ Blk w gt (bitArr (x7 + (rightB x4 6 true ^^^ rightB x4 11 true ^^^ rightB x4 25 true) + ((x4 &&& x5) ||| (~~~x4 &&& x6)) + conB k + W)) 110 ∧ Blk w gu (bitArr ((rightB x0 2 true ^^^ rightB x0 13 true ^^^ rightB x0 22 true) + ((x0 &&& x1) ||| (x0 &&& x2) ||| (x1 &&& x2)))) 110) (.take 0 (.take 1 (.take 3 (.take 4 (.take 5 (.take 6 (.take 7 (.take 8 (.take 9 (.take 10 (.take 11 (.take 13 (.take 14 (.take 15 (.take 16 (.take 17 (.take 18 (.act 2 (.act 12 (.take 19 (.act 20 .done))))))))))))))))))))) (by kernel_rfl) (by kernel_rfl) (fun _ _ d _ _ h => by cases d <;> exact h) ?_
              refine ord_load_blk rfl rfl rfl gt 0 (by first | rfl | (simp [Act.eval]; done)) (bitArr (x7 + (rightB x4 6 true ^^^ rightB x4 11 true ^^^ rightB x4 25 true) + ((x4 &&& x5) ||| (~~~x4 &&& x6)) + conB k + W)) 110 (fun _ h => h.2.1) _ (bitArr (x7 + (rightB x4 6 true ^^^ rightB x4 11 true ^^^ rightB x4 25 true) + ((x4 &&& x5) ||| (~~~x4 &&& x6)) + conB k + W)).toList (fun j u hj => by rw [Nat.zero_add]; simpa using hj) Tryd.underlying110 rfl (HL.out (x7 + (rightB x4 6 true ^^^ rightB x4 11 true ^^^ rightB x4 25 true) + ((x4 &&& x5) ||| (~~~x4 &&& x6)) + conB k + W)) S0 ?_
              simp only [Act.put, List.setIfInBounds_toArray, List.set_cons_zero, List.set_cons_succ, List.getElem_toArray, List.getElem_cons_succ, List.getElem_cons_zero]
              refine ord_load_blk rfl rfl rfl gu 0 (by first | rfl | (simp [Act.eval]; done)) (bitArr ((rightB x0 2 true ^^^ rightB x0 13 true ^^^ rightB x0 22 true) + ((x0 &&& x1) ||| (x0 &&& x2) ||| (x1 &&& x2)))) 110 (fun _ h => h.2.2) _ (bitArr ((rightB x0 2 true ^^^ rightB x0 13 true ^^^ rightB x0 22 true) + ((x0 &&& x1) ||| (x0 &&& x2) ||| (x1 &&& x2)))).toList (fun j u hj => by rw [Nat.zero_add]; simpa using hj) Tryd.underlying110 rfl (HL.out ((rightB x0 2 true ^^^ rightB x0 13 true ^^^ rightB x0 22 true) + ((x0 &&& x1) ||| (x0 &&& x2) ||| (x1 &&& x2)))) S0 ?_
              simp only [Act.put, List.setIfInBounds_toArray, List.set_cons_zero, List.set_cons_succ, List.getElem_toArray, List.getElem_cons_succ, List.getElem_cons_zero]
              refine ord_index rfl rfl rfl (.pointer (some ⟨g6, 0, none⟩)) (.int .i64 0) (.pointer (some ⟨g6, 0, none⟩)) (by first | rfl | (simp [Act.eval]; done)) (by first | rfl | (simp [Act.eval]; done)) S0 (fun w => run_idx8 w g6 0 (by decide)) ?_
              simp only [Act.put, List.setIfInBounds_toArray, List.set_cons_zero, List.set_cons_succ, List.getElem_toArray, List.getElem_cons_succ, List.getElem_cons_zero]
              refine ord_load_blk rfl rfl rfl g6 0 (by first | rfl | (simp [Act.eval]; done)) (eight [x0, x1, x2, x3, x4, x5, x6, x7]) 111 (fun _ h => h.1) _ (bitArr x0).toList (HE.out.1) Tryd.underlying110 rfl (HL.out x0) S0 ?_
              simp only [Act.put, List.setIfInBounds_toArray, List.set_cons_zero, List.set_cons_succ, List.getElem_toArray, List.getElem_cons_succ, List.getElem_cons_zero]
              refine ord_index rfl rfl rfl (.pointer (some ⟨g6, 0, none⟩)) (.int .i64 1) (.pointer (some ⟨g6, 32, none⟩)) (by first | rfl | (simp [Act.eval]; done)) (by first | rfl | (simp [Act.eval]; done)) S0 (fun w => run_idx8 w g6 1 (by decide)) ?_
              simp only [Act.put, List.setIfInBounds_toArray, List.set_cons_zero, List.set_cons_succ, List.getElem_toArray, List.getElem_cons_succ, List.getElem_cons_zero]
              refine ord_load_blk rfl rfl rfl g6 32 (by first | rfl | (simp [Act.eval]; done)) (eight [x0, x1, x2, x3, x4, x5, x6, x7]) 111 (fun _ h => h.1) _ (bitArr x1).toList (HE.out.2.1) Tryd.underlying110 rfl (HL.out x1) S0 ?_
              simp only [Act.put, List.setIfInBounds_toArray, List.set_cons_zero, List.set_cons_succ, List.getElem_toArray, List.getElem_cons_succ, List.getElem_cons_zero]
              refine ord_index rfl rfl rfl (.pointer (some ⟨g6, 0, none⟩)) (.int .i64 2) (.pointer (some ⟨g6, 64, none⟩)) (by first | rfl | (simp [Act.eval]; done)) (by first | rfl | (simp [Act.eval]; done)) S0 (fun w => run_idx8 w g6 2 (by decide)) ?_
              simp only [Act.put, List.setIfInBounds_toArray, List.set_cons_zero, List.set_cons_succ, List.getElem_toArray, List.getElem_cons_succ, List.getElem_cons_zero]
              refine ord_load_blk rfl rfl rfl g6 64 (by first | rfl | (simp [Act.eval]; done)) (eight [x0, x1, x2, x3, x4, x5, x6, x7]) 111 (fun _ h => h.1) _ (bitArr x2).toList (HE.out.2.2.1) Tryd.underlying110 rfl (HL.out x2) S0 ?_
              simp only [Act.put, List.setIfInBounds_toArray, List.set_cons_zero, List.set_cons_succ, List.getElem_toArray, List.getElem_cons_succ, List.getElem_cons_zero]
              refine ord_index rfl rfl rfl (.pointer (some ⟨g6, 0, none⟩)) (.int .i64 3) (.pointer (some ⟨g6, 96, none⟩)) (by first | rfl | (simp [Act.eval]; done)) (by first | rfl | (simp [Act.eval]; done)) S0 (fun w => run_idx8 w g6 3 (by decide)) ?_
              simp only [Act.put, List.setIfInBounds_toArray, List.set_cons_zero, List.set_cons_succ, List.getElem_toArray, List.getElem_cons_succ, List.getElem_cons_zero]
              refine ord_load_blk rfl rfl rfl g6 96 (by first | rfl | (simp [Act.eval]; done)) (eight [x0, x1, x2, x3, x4, x5, x6, x7]) 111 (fun _ h => h.1) _ (bitArr x3).toList (HE.out.2.2.2.1) Tryd.underlying110 rfl (HL.out x3) S0 ?_
              simp only [Act.put, List.setIfInBounds_toArray, List.set_cons_zero, List.set_cons_succ, List.getElem_toArray, List.getElem_cons_succ, List.getElem_cons_zero]
              refine ord_load_blk rfl rfl rfl gt 0 (by first | rfl | (simp [Act.eval]; done)) (bitArr (x7 + (rightB x4 6 true ^^^ rightB x4 11 true ^^^ rightB x4 25 true) + ((x4 &&& x5) ||| (~~~x4 &&& x6)) + conB k + W)) 110 (fun _ h => h.2.1) _ (bitArr (x7 + (rightB x4 6 true ^^^ rightB x4 11 true ^^^ rightB x4 25 true) + ((x4 &&& x5) ||| (~~~x4 &&& x6)) + conB k + W)).toList (fun j u hj => by rw [Nat.zero_add]; simpa using hj) Tryd.underlying110 rfl (HL.out (x7 + (rightB x4 6 true ^^^ rightB x4 11 true ^^^ rightB x4 25 true) + ((x4 &&& x5) ||| (~~~x4 &&& x6)) + conB k + W)) S0 ?_
              simp only [Act.put, List.setIfInBounds_toArray, List.set_cons_zero, List.set_cons_succ, List.getElem_toArray, List.getElem_cons_succ, List.getElem_cons_zero]
              refine ord_index rfl rfl rfl (.pointer (some ⟨g6, 0, none⟩)) (.int .i64 4) (.pointer (some ⟨g6, 128, none⟩)) (by first | rfl | (simp [Act.eval]; done)) (by first | rfl | (simp [Act.eval]; done)) S0 (fun w => run_idx8 w g6 4 (by decide)) ?_
              simp only [Act.put, List.setIfInBounds_toArray, List.set_cons_zero, List.set_cons_succ, List.getElem_toArray, List.getElem_cons_succ, List.getElem_cons_zero]
              refine ord_load_blk rfl rfl rfl g6 128 (by first | rfl | (simp [Act.eval]; done)) (eight [x0, x1, x2, x3, x4, x5, x6, x7]) 111 (fun _ h => h.1) _ (bitArr x4).toList (HE.out.2.2.2.2.1) Tryd.underlying110 rfl (HL.out x4) S0 ?_
              simp only [Act.put, List.setIfInBounds_toArray, List.set_cons_zero, List.set_cons_succ, List.getElem_toArray, List.getElem_cons_succ, List.getElem_cons_zero]
              refine ord_index rfl rfl rfl (.pointer (some ⟨g6, 0, none⟩)) (.int .i64 5) (.pointer (some ⟨g6, 160, none⟩)) (by first | rfl | (simp [Act.eval]; done)) (by first | rfl | (simp [Act.eval]; done)) S0 (fun w => run_idx8 w g6 5 (by decide)) ?_
              simp only [Act.put, List.setIfInBounds_toArray, List.set_cons_zero, List.set_cons_succ, List.getElem_toArray, List.getElem_cons_succ, List.getElem_cons_zero]
              refine ord_load_blk rfl rfl rfl g6 160 (by first | rfl | (simp [Act.eval]; done)) (eight [x0, x1, x2, x3, x4, x5, x6, x7]) 111 (fun _ h => h.1) _ (bitArr x5).toList (HE.out.2.2.2.2.2.1) Tryd.underlying110 rfl (HL.out x5) S0 ?_
              simp only [Act.put, List.setIfInBounds_toArray, List.set_cons_zero, List.set_cons_succ, List.getElem_toArray, List.getElem_cons_succ, List.getElem_cons_zero]
              refine ord_index rfl rfl rfl (.pointer (some ⟨g6, 0, none⟩)) (.int .i64 6) (.pointer (some ⟨g6, 192, none⟩)) (by first | rfl | (simp [Act.eval]; done)) (by first | rfl | (simp [Act.eval]; done)) S0 (fun w => run_idx8 w g6 6 (by decide)) ?_
              simp only [Act.put, List.setIfInBounds_toArray, List.set_cons_zero, List.set_cons_succ, List.getElem_toArray, List.getElem_cons_succ, List.getElem_cons_zero]
              refine ord_load_blk rfl rfl rfl g6 192 (by first | rfl | (simp [Act.eval]; done)) (eight [x0, x1, x2, x3, x4, x5, x6, x7]) 111 (fun _ h => h.1) _ (bitArr x6).toList (HE.out.2.2.2.2.2.2.1) Tryd.underlying110 rfl (HL.out x6) S0 ?_
              simp only [Act.put, List.setIfInBounds_toArray, List.set_cons_zero, List.set_cons_succ, List.getElem_toArray, List.getElem_cons_succ, List.getElem_cons_zero]
              refine ord_act rfl ?_
              go_wp2_with fail
              refine (plus_any _ (x7 + (rightB x4 6 true ^^^ rightB x4 11 true ^^^ rightB x4 25 true) + ((x4 &&& x5) ||| (~~~x4 &&& x6)) + conB k + W) ((rightB x0 2 true ^^^ rightB x0 13 true ^^^ rightB x0 22 true) + ((x0 &&& x1) ||| (x0 &&& x2) ||| (x1 &&& x2)))).mono ?_
              rintro e v1 ⟨rfl, u1⟩
              have S1 := And.intro (S0.1.upd u1 (by simp)) (And.intro (S0.2.1.upd u1 (by simp)) (S0.2.2.upd u1 (by simp)))
              have U1 := U0.trans u1 (by simp)
              go_wp2_with fail
              refine ⟨fun _ => S1, ?_⟩
              refine ord_act rfl ?_
              go_wp2_with fail
              refine (plus_any _ x3 (x7 + (rightB x4 6 true ^^^ rightB x4 11 true ^^^ rightB x4 25 true) + ((x4 &&& x5) ||| (~~~x4 &&& x6)) + conB k + W)).mono ?_
              rintro e v2 ⟨rfl, u2⟩
              have S2 := And.intro (S1.1.upd u2 (by simp)) (And.intro (S1.2.1.upd u2 (by simp)) (S1.2.2.upd u2 (by simp)))
              have U2 := U1.trans u2 (by simp)
              go_wp2_with fail
              refine ⟨fun _ => S2, ?_⟩
              refine ord_build8 rfl rfl rfl ((x7 + (rightB x4 6 true ^^^ rightB x4 11 true ^^^ rightB x4 25 true) + ((x4 &&& x5) ||| (~~~x4 &&& x6)) + conB k + W) + ((rightB x0 2 true ^^^ rightB x0 13 true ^^^ rightB x0 22 true) + ((x0 &&& x1) ||| (x0 &&& x2) ||| (x1 &&& x2)))) x0 x1 x2 (x3 + (x7 + (rightB x4 6 true ^^^ rightB x4 11 true ^^^ rightB x4 25 true) + ((x4 &&& x5) ||| (~~~x4 &&& x6)) + conB k + W)) x4 x5 x6 (by first | rfl | (simp [Act.eval]; done)) (by first | rfl | (simp [Act.eval]; done)) (by first | rfl | (simp [Act.eval]; done)) (by first | rfl | (simp [Act.eval]; done)) (by first | rfl | (simp [Act.eval]; done)) (by first | rfl | (simp [Act.eval]; done)) (by first | rfl | (simp [Act.eval]; done)) (by first | rfl | (simp [Act.eval]; done)) S2 ?_
              simp only [Act.put, List.setIfInBounds_toArray, List.set_cons_zero, List.set_cons_succ, List.getElem_toArray, List.getElem_cons_succ, List.getElem_cons_zero]
              refine ord_act rfl ?_
              refine wpList_store_blk (by rfl) 111 (.tmp 6) (.tmp 87) (by rfl) (b := g6) 0 (by rfl) S2.1 (.agg (eight [(x7 + (rightB x4 6 true ^^^ rightB x4 11 true ^^^ rightB x4 25 true) + ((x4 &&& x5) ||| (~~~x4 &&& x6)) + conB k + W) + ((rightB x0 2 true ^^^ rightB x0 13 true ^^^ rightB x0 22 true) + ((x0 &&& x1) ||| (x0 &&& x2) ||| (x1 &&& x2))), x0, x1, x2, x3 + (x7 + (rightB x4 6 true ^^^ rightB x4 11 true ^^^ rightB x4 25 true) + ((x4 &&& x5) ||| (~~~x4 &&& x6)) + conB k + W), x4, x5, x6])) (by rfl) (eight [(x7 + (rightB x4 6 true ^^^ rightB x4 11 true ^^^ rightB x4 25 true) + ((x4 &&& x5) ||| (~~~x4 &&& x6)) + conB k + W) + ((rightB x0 2 true ^^^ rightB x0 13 true ^^^ rightB x0 22 true) + ((x0 &&& x1) ||| (x0 &&& x2) ||| (x1 &&& x2))), x0, x1, x2, x3 + (x7 + (rightB x4 6 true ^^^ rightB x4 11 true ^^^ rightB x4 25 true) + ((x4 &&& x5) ||| (~~~x4 &&& x6)) + conB k + W), x4, x5, x6]).toList (by rfl) (by simp [eight_size]) (eight_one [(x7 + (rightB x4 6 true ^^^ rightB x4 11 true ^^^ rightB x4 25 true) + ((x4 &&& x5) ||| (~~~x4 &&& x6)) + conB k + W) + ((rightB x0 2 true ^^^ rightB x0 13 true ^^^ rightB x0 22 true) + ((x0 &&& x1) ||| (x0 &&& x2) ||| (x1 &&& x2))), x0, x1, x2, x3 + (x7 + (rightB x4 6 true ^^^ rightB x4 11 true ^^^ rightB x4 25 true) + ((x4 &&& x5) ||| (~~~x4 &&& x6)) + conB k + W), x4, x5, x6]) (by rw [size_eight]; simp [eight_size]) ?_
              intro wf bf uf
              rw [splice_all (by simp [eight_size])] at bf
              refine ⟨fun h => Bool.noConfusion (h.symm.trans (by kernel_rfl : waitsAll _ _ _ = true)), ?_⟩
              have UF : Upd [g6] w0 wf := ((U9.trans U2 (by simp)).more (T := [g6]) (by simp)).trans uf (by simp)
              have hbf : Blk wf g6 (eight (roundsB b h (k + 1))) 111 := by rw [HE.out.2.2.2.2.2.2.2.2.2]; exact bf
              have hq6 := H6.out
              have HF := Lib.hid (And.intro hbf (And.intro (HU.out.1.upd UF (by simp; omega)) (And.intro (HU.out.2.1.upd UF (by simp; omega)) (And.intro (hb5.upd UF (by simp; omega)) (HU.out.2.2.trans UF (by simp; omega))))))
              clear hbf bf UF uf hq6 S0 S1 S2 U0 U1 U2 u1 u2 d6 dt bv U9
              first | (show Exit.inBlock _ _ Exit.normal _ _) | (show Exit.then _ _ Exit.normal _ _)
              go_wp2
              go_roundw
              case rel => exact ⟨k + 1, by omega, by go_num, HF.out.1, HF.out.2.1, HF.out.2.2.1, HF.out.2.2.2.1, HF.out.2.2.2.2⟩
              case measure => simp [intOf]; omega
    · obtain rfl : k = 64 := by omega
      obtain ⟨v, hv⟩ : ∃ v, roundsB b h 64 = v := ⟨_, rfl⟩
      have hvl := roundsB_len b h HS.out.1 64
      rw [hv] at hb6 hvl
      have HV := Lib.hid (And.intro hv hvl)
      have HX := Lib.hid (And.intro hb6 (And.intro hb2 (And.intro hb4 hu)))
      clear hb6 hb2 hb4 hb5 hu hv hvl
      go_wp2_with fail
      have e64 : ((64 : Nat) : Int) = (64 : Int) := rfl
      simp only [e64]
      clear e64
      go_loopw [11] (RelBlk2 w h v q g6) (fun i _ => (8 - intOf i).toNat)
      case atStart => exact ⟨0, by omega, rfl, HX.out.1, by rw [addTo_zero HS.out.1]; exact HX.out.2.1, HX.out.2.2.1, HX.out.2.2.2⟩
      case round =>
        obtain ⟨k, hk, rfl, hb6, hb2, hb4, hu⟩ := hrel
        rcases Nat.lt_or_ge k 8 with hlt | hge
        · obtain ⟨y, hy⟩ : ∃ y, h.getD k 0 = y := ⟨_, rfl⟩
          obtain ⟨x, hx⟩ : ∃ x, v.getD k 0 = x := ⟨_, rfl⟩
          have ey := eight_at (h := addTo h v k) (i := k) (by rw [addTo_len]; omega)
          rw [addTo_at hlt, hy] at ey
          have ex := eight_at (h := v) (i := k) (by rw [HV.out.2]; omega)
          rw [hx] at ex
          have hnext := addTo_next (h := h) (v := v) hlt
          rw [hx, hy] at hnext
          have hset := eight_set (addTo h v k) (addTo_len _ _ _) k hlt (y + x)
          rw [hnext] at hset
          have hfit : k * 32 + (bitArr (y + x)).toList.length ≤ (eight (addTo h v k)).size := by rw [eight_size _ (addTo_len _ _ _)]; simp [bit_size]; omega
          have HE := Lib.hid (And.intro ey (And.intro ex (And.intro hset (And.intro hfit (And.intro hb4 hu)))))
          clear ey ex hset hfit hb4 hu hx hy hnext
          go_upto_region 14 with (fail)
          obtain ⟨w0, hw0⟩ : ∃ x : World, x = wr := ⟨_, rfl⟩
          subst hw0
          have S0 : Blk w0.drew g6 (eight v) 111 ∧ Blk w0.drew q (eight (addTo h v k)) 111 := ⟨hb6, hb2⟩
          have U0 := (Upd.refl [] w0).drew
          refine wp_region_ord (S := fun w => Blk w g6 (eight v) 111 ∧ Blk w q (eight (addTo h v k)) 111) (.take 0 (.take 1 (.take 2 (.take 3 (.take 4 (.take 5 (.take 6 (.act 7 (.take 8 (.act 9 .done)))))))))) (by kernel_rfl) (by kernel_rfl) (fun _ _ d _ _ h => by cases d <;> exact h) ?_
          iterate 2 (refine ord_ex rfl rfl S0 ?_; apply Exists.intro; refine ⟨fun _ _ => ?_, ?_⟩; (focus (rename_i w hw; skip; go_simp; rfl)); simp only [Act.put, List.setIfInBounds_toArray, List.set_cons_zero, List.set_cons_succ, List.getElem_toArray, List.getElem_cons_succ, List.getElem_cons_zero])
          refine ord_index rfl rfl rfl (.pointer (some ⟨q, 0, none⟩)) (.int .i64 k) (.pointer (some ⟨q, k * 32, none⟩)) (by first | rfl | (simp [Act.eval]; done)) (by first | rfl | (simp [Act.eval]; done)) S0 (fun w => run_idx8 w q k hlt) ?_
          simp only [Act.put, List.setIfInBounds_toArray, List.set_cons_zero, List.set_cons_succ, List.getElem_toArray, List.getElem_cons_succ, List.getElem_cons_zero]
          refine ord_load_blk rfl rfl rfl q (k * 32) (by first | rfl | (simp [Act.eval]; done)) (eight (addTo h v k)) 111 (fun _ h => h.2) _ (bitArr y).toList HE.out.1 Tryd.underlying110 rfl (HL.out y) S0 ?_
          simp only [Act.put, List.setIfInBounds_toArray, List.set_cons_zero, List.set_cons_succ, List.getElem_toArray, List.getElem_cons_succ, List.getElem_cons_zero]
          (refine ord_ex rfl rfl S0 ?_; apply Exists.intro; refine ⟨fun _ _ => ?_, ?_⟩; (focus (rename_i w hw; skip; go_simp; rfl)); simp only [Act.put, List.setIfInBounds_toArray, List.set_cons_zero, List.set_cons_succ, List.getElem_toArray, List.getElem_cons_succ, List.getElem_cons_zero])
          refine ord_index rfl rfl rfl (.pointer (some ⟨g6, 0, none⟩)) (.int .i64 k) (.pointer (some ⟨g6, k * 32, none⟩)) (by first | rfl | (simp [Act.eval]; done)) (by first | rfl | (simp [Act.eval]; done)) S0 (fun w => run_idx8 w g6 k hlt) ?_
          simp only [Act.put, List.setIfInBounds_toArray, List.set_cons_zero, List.set_cons_succ, List.getElem_toArray, List.getElem_cons_succ, List.getElem_cons_zero]
          refine ord_load_blk rfl rfl rfl g6 (k * 32) (by first | rfl | (simp [Act.eval]; done)) (eight v) 111 (fun _ h => h.1) _ (bitArr x).toList HE.out.2.1 Tryd.underlying110 rfl (HL.out x) S0 ?_
          simp only [Act.put, List.setIfInBounds_toArray, List.set_cons_zero, List.set_cons_succ, List.getElem_toArray, List.getElem_cons_succ, List.getElem_cons_zero]
          refine ord_act rfl ?_
          go_wp2_with fail
          refine (plus_any _ y x).mono ?_
          rintro e v1 ⟨rfl, u1⟩
          have S1 := And.intro (S0.1.upd u1 (by simp)) (S0.2.upd u1 (by simp))
          have U1 := U0.trans u1 (by simp)
          go_wp2_with fail
          refine ⟨fun _ => S1, ?_⟩
          refine ord_index rfl rfl rfl (.pointer (some ⟨q, 0, none⟩)) (.int .i64 k) (.pointer (some ⟨q, k * 32, none⟩)) (by first | rfl | (simp [Act.eval]; done)) (by first | rfl | (simp [Act.eval]; done)) S1 (fun w => run_idx8 w q k hlt) ?_
          simp only [Act.put, List.setIfInBounds_toArray, List.set_cons_zero, List.set_cons_succ, List.getElem_toArray, List.getElem_cons_succ, List.getElem_cons_zero]
          refine ord_act rfl ?_
          refine wpList_store_blk (by rfl) 110 (.tmp 100) (.tmp 99) (by rfl) (b := q) (k * 32) (by rfl) S1.2 (.agg (bitArr (y + x))) (by rfl) (bitArr (y + x)).toList (by rfl) HE.out.2.2.2.1 (bit_one (y + x)) (HL.out (y + x)) ?_
          intro wf bf uf
          rw [HE.out.2.2.1] at bf
          refine ⟨fun h => Bool.noConfusion (h.symm.trans (by kernel_rfl : waitsAll _ _ _ = true)), ?_⟩
          have UF : Upd [q] w0 wf := (U1.more (T := [q]) (by simp)).trans uf (by simp)
          have hq6 := H6.out
          have hq := HS.out.2.2.2
          have HF := Lib.hid (And.intro (hb6.upd UF (by simp; omega)) (And.intro bf (And.intro (HE.out.2.2.2.2.1.upd UF (by simp)) (HE.out.2.2.2.2.2.trans UF (by simp; omega)))))
          clear bf UF uf hq6 hq S0 S1 U0 U1 u1 hb6 hb2
          first | (show Exit.inBlock _ _ Exit.normal _ _) | (show Exit.then _ _ Exit.normal _ _)
          go_wp2
          go_roundw
          case rel => exact ⟨k + 1, by omega, by go_num, HF.out.1, HF.out.2.1, HF.out.2.2.1, HF.out.2.2.2⟩
          case measure => simp [intOf]; omega
        · obtain rfl : k = 8 := by omega
          have hres : addTo h v 8 = blockB h b := by rw [addTo_all, blockB, HV.out.1]
          rw [hres] at hb2
          have hlb : (blockB h b).length = 8 := by simp [blockB]
          have hs8 := eight_size _ hlb
          have hld : (Tryd.prog.info? 111).map (·.size) = some (eight (blockB h b)).toList.length := by rw [size_eight]; simp [hs8]
          have HF := Lib.hid (And.intro hb2 (And.intro hb4 (And.intro hu (And.intro hs8 (And.intro hld (eight_one (blockB h b)))))))
          clear hb2 hb4 hu hs8 hld hlb hres hb6
          go_wp2_with (first | (with_reducible refine wpList_load_blk (o := ⟨some 101, _, _, _, _, _⟩) rfl 111 (.tmp 2) rfl (b := q) 0 rfl HF.out.1 _ (eight (blockB h b)).toList (fun j u hj => by rw [Nat.zero_add]; simpa using hj) Tryd.underlying111 rfl HF.out.2.2.2.2.1 ?_) | (with_reducible refine wpList_store_blk (o := ⟨none, .store 111 (.tmp 4) (.tmp 101), _, _, _, _⟩) rfl 111 (.tmp 4) (.tmp 101) rfl (b := q + 1) 0 rfl HF.out.2.1 (.agg (eight (blockB h b)).toList.toArray) rfl (eight (blockB h b)).toList rfl ?_ HF.out.2.2.2.2.2 HF.out.2.2.2.2.1 ?_))
          · simp [HF.out.2.2.2.1, eight_size]
          intro wf bf uf
          rw [splice_all (by simp [HF.out.2.2.2.1, eight_size])] at bf
          have hq := HS.out.2.2.2
          have H9 := Lib.hid (And.intro bf (HF.out.2.2.1.trans uf (by simp; omega)))
          clear bf uf hq
          go_wp2
          refine bodyPost_ret (results_blk rfl _ H9.out.1 _ rfl Tryd.underlying111 rfl (by rw [size_eight]; simp [HF.out.2.2.2.1])) rfl ?_
          exact ⟨by simp, H9.out.2⟩
end Go.Proofs.YtnfnaedoejgpiaaDoor
