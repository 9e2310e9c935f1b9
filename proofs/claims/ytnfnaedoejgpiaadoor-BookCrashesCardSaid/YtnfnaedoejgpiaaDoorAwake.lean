/- What a program that does nothing does not answer. -/
import Derived.Test.YtnfnaedoejgpiaaDoorOpen
namespace Go.Proofs.YtnfnaedoejgpiaaDoor
open Go.RowKit

theorem readS_zeros : readS zeros = (⟨0, 0, 0, 0, []⟩, true) := by kernel_rfl
theorem genOf_zeros : genOf zeros = 0 := by decide +kernel
theorem mostOf_zeros (m : Nat) : mostOf (List.replicate m zeros) = 0 := by
  unfold mostOf
  induction m with
  | zero => rfl
  | succ m ih => rw [List.replicate_succ, List.foldl_cons, genOf_zeros]; exact ih
theorem openS_zeros (m : Nat) : openS (List.replicate m zeros) = ⟨1, 0, [], List.replicate 32 0, false⟩ := by
  unfold openS
  rw [mostOf_zeros, openGo]
  have h : standS ((List.replicate m zeros).drop 0) (([] : List (List UInt8)).length + 1) 1 = ([], 0, 0) := by
    unfold standS
    rw [List.drop_zero]
    cases m with
    | zero => rfl
    | succ m =>
      rw [List.replicate_succ]
      rw [standGo_cons (g := false) (pn := 0) (pg := 0) (pi := 0) (pk := 0) (px := []) (ok := true) (by rw [readS_zeros]) (by rw [readS_zeros]) rfl rfl (by decide)]
      rfl
  rw [h]; simp
theorem bwrite_good (num gen next cnt : Nat) : ∀ (ls : List (List UInt8)) (D : DiskS) (i : Nat), D.fuse < 0 → (bwrite num gen next cnt D i ls).2 = 0 ∧ (bwrite num gen next cnt D i ls).1.fuse = D.fuse ∧ (bwrite num gen next cnt D i ls).1.waits = []
  | [], D, i, h => by unfold bwrite; rw [if_neg (by omega)]; simp
  | x :: xs, D, i, h => by
    unfold bwrite; rw [if_neg (by omega)]
    have hf : (D.write (next + i) (secOf num gen i cnt x)).fuse = D.fuse := by simp [DiskS.write, DiskS.burnt]; omega
    have := bwrite_good num gen next cnt xs (D.write (next + i) (secOf num gen i cnt x)) (i + 1) (by rw [hf]; exact h)
    rw [hf] at this; exact this
/-- An Append that can be done, without a fuse. -/
theorem appendS_good {b : BookS} {D : DiskS} {r : List UInt8} (ho : b.over = false) (hl : r.length ≤ 4096) (hr : (parts52 r).length ≤ D.now.length - b.next) (hf : D.fuse < 0) :
    appendS b D r = ({ b with recs := b.recs ++ [r], hash := linkOf b.hash r, next := b.next + (parts52 r).length }, (bwrite (b.recs.length + 1) b.gen b.next (parts52 r).length D 0 (parts52 r)).1, 0) := by
  unfold appendS
  rw [if_neg (by rw [ho]; decide), if_neg (by omega), if_neg (by omega)]
  have h := bwrite_good (b.recs.length + 1) b.gen b.next (parts52 r).length (parts52 r) D 0 hf
  simp only [h.1, ne_eq, not_true_eq_false, if_false]
/-- Noughts. -/
def nulls (n : Nat) : Array Value := ((List.replicate n (0 : UInt8)).map bv).toArray
theorem run_make_bytes (w : World) (n : Nat) (hn : n ≤ 140737488355328) : (Instr.makeSlice 26 (.int .i64 n) (.int .i64 n)).run Tryd.prog w = .ok (.slice (some ⟨w.heap.size, 0, none⟩) n n) (w.alloc (.cells (nulls n) 5)) := by
  obtain ⟨i, hi1, hi2, hi3, hi4⟩ := info_parts info_byte
  have hr := run_make (P := Tryd.prog) w 26 5 i _ Tryd.underlying26 hi1 hi2 .i64 .i64 n n (by omega) (by omega) (by rw [hi4]; omega) (by omega)
  have e : madeCells (Value.int .u8 0).cells n = nulls n := by
    have := made_zeros (z := Value.int .u8 0) (k := 1) (by decide) n
    unfold nulls
    rw [List.map_replicate]; exact this
  rw [Int.toNat_natCast, hi3, Nat.mul_one] at hr
  rw [hr, e]
theorem nulls_bytes {w : World} {b n : Nat} (h : Blk w b (nulls n) 5) (hn : n ≤ 140737488355328) : Bytes w (.slice (some ⟨b, 0, none⟩) n n) (List.replicate n 0) := by
  refine h.bytes (List.replicate n 0) (by simp) (by unfold maxLen; omega) (fun j u hj => by rw [Nat.zero_add]; unfold nulls; rw [List.getElem?_toArray]; exact hj)
set_option maxRecDepth 4000 in
set_option maxHeartbeats 1000000 in
theorem awake_any (w : World) (ht : Table w) : Calls Tryd.prog 7 #[] w fun e w' => e = .returned (.bool true) ∧ Upd [] w w' := by
  have HS := Lib.hid ht
  clear ht
  go_enter Tryd.func7, Tryd.ntmps7
  go_wp2_with fail
  refine (new_any w 9 (by decide)).mono ?_
  rintro e w1 ⟨d, bf, bn, rfl, h1, h2, h3, h4, h5⟩
  have H1 := Lib.hid (And.intro h1 (And.intro h2 (And.intro h3 (And.intro h4 h5))))
  clear h1 h2 h3 h4 h5
  go_wp2_with fail
  have hm := mostOf_zeros 9
  have hos := openS_zeros 9
  have hop := open_any w1 ⟨d, bf, bn, .slice none 0 0⟩ (DiskS.new 9) H1.out.1 (by decide) (HS.out.upd H1.out.2.1 (by simp))
  have HM := Lib.hid (And.intro hm hos)
  clear hm hos
  refine hop.mono ?_
  intro e w2 hpost
  unfold OpenPost at hpost
  have e0 : (DiskS.new 9).now = List.replicate 9 zeros := rfl
  rw [e0, HM.out.1, if_neg (by decide), HM.out.2] at hpost
  obtain ⟨p, rv, vs, rfl, k1, k2, k3, k4, k5⟩ := hpost
  have H2 := Lib.hid (And.intro k1 (And.intro k2 (And.intro k3 (And.intro k4 k5))))
  clear k1 k2 k3 k4 k5 hop e0
  have hmk : (Instr.makeSlice 26 (.int .i64 53) (.int .i64 53)).run Tryd.prog w2 = .ok (.slice (some ⟨w2.heap.size, 0, none⟩) 53 53) (w2.alloc (.cells (nulls 53) 5)) := run_make_bytes w2 53 (by decide)
  go_wp2_with fail
  obtain ⟨q, hq⟩ : ∃ q, w2.heap.size = q := ⟨_, rfl⟩
  have hb3 := Blk.newAt (w := w2) hq.symm (nulls 53) 5
  have hu3 : Upd [] w2 (w2.alloc (.cells (nulls 53) 5)) := (Upd.refl [] w2).alloc _
  have hs3 : (w2.alloc (.cells (nulls 53) 5)).heap.size = q + 1 := by simp; exact hq
  generalize w2.alloc (.cells (nulls 53) 5) = w3 at *
  rw [hq]
  have hU3 : Upd [] w w3 := (H1.out.2.1.trans H2.out.2.1 (by simp)).trans hu3 (by simp)
  have B3 := H2.out.1.upd0 hu3
  have htl : ∀ k ∈ p :: blkL rv ++ (DiskF.mk d bf bn (.slice none 0 0)).blks, w.heap.size ≤ k ∧ k < q := by
    intro k hk
    have hd := H2.out.1.disk.lt
    have ht := H2.out.1.top.lt
    have hr := (own_lt H2.out.1.rows.row).1
    have hh := H1.out
    have h1 := H1.out.2.1.size
    dsimp only at ht hr
    rcases List.mem_append.1 hk with hk | hk
    · rcases List.mem_cons.1 hk with rfl | hk
      · have := H2.out.2.2.1; omega
      · have h2 := mem_blkL.1 hk
        have := H2.out.2.2.2.1; omega
    · have h3 := hd k hk
      rcases mem_blks.1 hk with h2 | h2 | h2 | h2
      · dsimp only at h2; omega
      · dsimp only at h2; omega
      · dsimp only at h2; omega
      · simp [blkOf] at h2
  have hw0 := HS.out.1
  have hA := append_any w3 ⟨p, ⟨d, bf, bn, .slice none 0 0⟩, rv, vs⟩ ⟨1, 0, [], List.replicate 32 0, false⟩ (DiskS.new 9) (some ⟨q, 0, none⟩) 53 (List.replicate 53 0) B3 (by have := nulls_bytes hb3 (by decide); exact this) (by show (if 53 = 0 then 0 else q + 1) ≤ _; simp; omega) (fun k hk => by show (if 53 = 0 then 0 else q + 1) ≠ _; have := htl k hk; simp; omega) (by simp) (HS.out.upd hU3 (by simp)) (fun h => by have := htl 0 h; omega) (by decide)
  have hpl : (parts52 (List.replicate 53 (0 : UInt8))).length = 2 := by rw [parts52_len]; decide
  have hgood := appendS_good (b := ⟨1, 0, [], List.replicate 32 0, false⟩) (D := DiskS.new 9) (r := List.replicate 53 0) rfl (by simp) (by rw [hpl]; decide) (by decide)
  have hlen := bwrite_len 1 1 0 2 (parts52 (List.replicate 53 (0 : UInt8))) (DiskS.new 9) 0
  rw [hpl] at hgood
  dsimp only at hgood
  rw [show ([] : List (List UInt8)).length + 1 = 1 from rfl] at hgood
  generalize (bwrite 1 1 0 2 (DiskS.new 9) 0 (parts52 (List.replicate 53 (0 : UInt8)))).1 = D2 at *
  generalize linkOf (List.replicate 32 0) (List.replicate 53 0) = lk at *
  rw [hgood] at hA
  have hlen9 : D2.now.length = 9 := by rw [hlen]; rfl
  have HA := Lib.hid (And.intro hA (And.intro hlen9 (And.intro hU3 htl)))
  clear hA hgood hlen hlen9 hpl htl hU3 B3 hb3 hs3 hu3 hmk hq
  refine HA.out.1.mono ?_
  rintro e w4 ⟨v4, rv4, vs4, rfl, k1, k2, k3, k4, k5⟩
  have hU4 : Upd [] w w4 := HA.out.2.2.1.trans k2 (fun k hk => .inr (HA.out.2.2.2 k hk).1)
  have H4 := Lib.hid (And.intro k1 hU4)
  clear k1 k2 k3 k4 k5 hU4
  go_wp2_with fail
  refine (room_any w4 _ _ _ H4.out.1).mono ?_
  rintro e w5 ⟨rfl, u5⟩
  rw [HA.out.2.1]
  have hU5 := H4.out.2.trans u5 (by simp)
  have H5 := Lib.hid hU5
  clear u5 hU5
  go_wp2
  go_ret
  exact ⟨rfl, H5.out⟩
end Go.Proofs.YtnfnaedoejgpiaaDoor
