/- How many parts some bytes have, by the program and by the reference. -/
import Derived.Test.YtnfnaedoejgpiaaDoorAwake
namespace Go.Proofs.YtnfnaedoejgpiaaDoor
open Go.RowKit

theorem ret_int {k : IntKind} {a b : Int} (h : a = b) : Ending.returned (.int k a) = .returned (.int k b) := by rw [h]
def nParts (n : Int) : Int := if n < 0 then 0 else max ((n - 1).tdiv 52 + 1) 1
theorem bParts_any (w : World) (n : Int) (h0 : -9223372036854775808 ≤ n) (h1 : n ≤ 9223372036854775807) :
    Calls Tryd.prog 8 #[.int .i64 n] w fun e w' => e = .returned (.int .i64 (nParts n)) ∧ w = w' := by
  unfold nParts
  rcases Decidable.em (n < 0) with h | h
  · rw [if_pos h]
    go_enter Tryd.func8, Tryd.ntmps8
    go_wp2
    go_ret
    exact ⟨rfl, rfl⟩
  · rw [if_neg h]
    have e1 : wrap64 (n - 1) = n - 1 := by unfold wrap64; omega
    have hb : -1 ≤ n - 1 := by omega
    have e2 : wrap64 ((n - 1).tdiv 52 + 1) = (n - 1).tdiv 52 + 1 := by
      unfold wrap64
      have : (n - 1).tdiv 52 = if 0 ≤ n - 1 then (n - 1) / 52 else 0 := by
        split
        · rw [Int.tdiv_eq_ediv_of_nonneg ‹_›]
        · have : n - 1 = -1 := by omega
          rw [this]; decide
      rw [this]; split <;> omega
    have E := Lib.hid (And.intro e1 e2)
    clear e1 e2 hb
    go_enter Tryd.func8, Tryd.ntmps8
    go_wp2
    all_goals
      go_ret
      have e2 := E.out.2
      exact ⟨ret_int (by omega), rfl⟩
theorem run_slice_lh2 {P : Program} (w : World) {t e : TypeId} {size : Nat} (ht : P.underlying t = some (.slice e)) (hi : (P.info? e).map (·.size) = some size) (ao : Option Addr) (n c lo hi' : Nat) (k k' : IntKind) (q q' : Int) (hq : q = lo) (hq' : q' = hi') (hlo : lo ≤ hi') (hc : hi' ≤ c) :
    (Instr.sliceAt t (.slice ao n c) (some (.int k q)) (some (.int k' q')) none).run P w = .ok (.slice (if c = lo then ao else ao.map (·.add (lo * size))) (hi' - lo) (c - lo)) w := by
  subst hq; subst hq'
  have he : P.elem t = e := by simp [Program.elem, ht]
  have ht' : P.underlying t = some (.slice (P.elem t)) := by rw [he]; exact ht
  rw [run_sliceAt_slice _ t _ _ _ _ ht', run_slice_lh _ t ao n c ht' k k' lo hi' (by omega) (by omega) (by omega), he]
  cases hq : P.info? e with
  | none => simp [hq] at hi
  | some i =>
    have hs : i.size = size := by simpa [hq] using hi
    simp [sizeOf, typeInfo, hq, hs, sliced]
theorem wpList_slice_lh {P : Program} {ops : Array Oper} {rest : List Oper} {o : Oper} {a : Act} {w : World} {Q : Exit → Act → World → Prop} (hgd : o.guard = none) (t : TypeId) (x y z : Operand) (ho : o.op = .slice t x (some y) (some z) none) {e : TypeId} {size : Nat} (ao : Option Addr) (n c lo hi' : Nat) (k k' : IntKind) (q q' : Int)
    (hx : a.eval x = .slice ao n c) (hy : a.eval y = .int k q) (hz : a.eval z = .int k' q') (hq : q = lo) (hq' : q' = hi') (hlo : lo ≤ hi') (hc : hi' ≤ c) (ht : P.underlying t = some (.slice e)) (hi : (P.info? e).map (·.size) = some size)
    (h : ∀ A, (c = lo → A = ao) → (c ≠ lo → A = ao.map (·.add (lo * size))) → wpList P ops Q rest (a.put o.dst (.slice A (hi' - lo) (c - lo))) w) : wpList P ops Q (o :: rest) a w := by
  have hr := run_slice_lh2 (P := P) w ht hi ao n c lo hi' k k' q q' hq hq' hlo hc
  exact wpList_run hgd (by unfold execOp; simp [ho, hx, hy, hz, hr]) (h (if c = lo then ao else ao.map (·.add (lo * size))) (fun hc => by rw [if_pos hc]) (fun hc => by rw [if_neg hc]))
theorem bytes_mid {w : World} {ao A : Option Addr} {n c lo hi' : Nat} {l : List UInt8} (h : Bytes w (.slice ao n c) l) (hn : l.length = n) (hlo : lo ≤ hi') (hh : hi' ≤ l.length) (hA : c ≠ lo → A = ao.map (fun x => x.add lo)) : Bytes w (.slice A (hi' - lo) (c - lo)) ((l.drop lo).take (hi' - lo)) := by
  subst hn
  have h1 := bytes_drop (m := lo) (A := A) h (by omega) hA
  have hl : (l.drop lo).length = l.length - lo := by simp
  have h2 : Bytes w (.slice A (l.drop lo).length (c - lo)) (l.drop lo) := by unfold Bytes at h1 ⊢; rw [hl] at h1 ⊢; exact h1
  exact bytes_take h2 (by rw [hl]; omega)
def RelCut (W : World) (bk : Nat) (l : List UInt8) (v i : Value) (w : World) : Prop :=
  ∃ (k : Nat) (done : List (List UInt8)) (vs : List Value), i = .int .i64 ((52 * k : Nat) : Int) ∧ done.length = k ∧ 52 * k ≤ l.length + 52 ∧ (∃ ao c, v = .slice ao k c) ∧ Cuts w W.heap.size bk v vs done ∧ Upd [] W w ∧ (if k = 0 ∨ 52 * k < l.length then done ++ parts52 (l.drop (52 * k)) = parts52 l else done = parts52 l)
set_option maxRecDepth 4000 in
set_option maxHeartbeats 1000000 in
theorem cut_any (w : World) (ro : Option Addr) (rc : Nat) (l : List UInt8) (hr : Bytes w (.slice ro l.length rc) l) (hb : blkE (.slice ro l.length rc) ≤ w.heap.size) (hl : l.length ≤ 1000000000) :
    Calls Tryd.prog 9 #[.slice ro l.length rc] w (PartsPost w (blkE (.slice ro l.length rc)) (parts52 l)) := by
  obtain ⟨bk, hbk⟩ : ∃ bk, blkE (.slice ro l.length rc) = bk := ⟨_, rfl⟩
  rw [hbk] at hb ⊢
  have hrc : l.length ≤ rc := by obtain ⟨_, _, hv, h0, _⟩ := hr; simp only [Value.slice.injEq] at hv; omega
  obtain ⟨n, hn⟩ : ∃ n, l.length = n := ⟨_, rfl⟩
  have hr' : Bytes w (.slice ro n rc) l := by rw [← hn]; exact hr
  rw [hn] at hbk hl hrc ⊢
  have HS := Lib.hid (And.intro hr' (And.intro hbk hn))
  clear hr hr' hbk hn
  go_enter Tryd.func9, Tryd.ntmps9
  go_wp2_with fail
  go_loopw [3, 4] (RelCut w bk l) (fun _ i _ => ((n : Int) + 52 - intOf i).toNat)
  case atStart => exact ⟨0, [], [], rfl, rfl, by omega, ⟨none, 0, rfl⟩, ⟨World.ownsRow_nil _ _ _ _, ⟨rfl, fun i h => by simp at h⟩, by simp⟩, Upd.refl _ _, by simp⟩
  case round =>
    obtain ⟨k, done, vs, rfl, hdl, hk, ⟨vo, vc, rfl⟩, h1, h2, h3⟩ := hrel
    have hn := HS.out.2.2
    rw [hn] at hk h3
    obtain ⟨i, hi⟩ : ∃ i, 52 * k = i := ⟨_, rfl⟩
    rw [hi] at hk h3 ⊢
    have HX := Lib.hid (And.intro h1 (And.intro h2 (And.intro h3 (And.intro hdl hi))))
    clear h1 h2 h3 hdl hi hn
    rcases Decidable.em (k = 0 ∨ i < n) with hgo | hgo
    · have hin : i ≤ n := by have := HX.out.2.2.2.2; omega
      obtain ⟨m, hh⟩ : ∃ m, min (i + 52) n = m := ⟨_, rfl⟩
      have hmin : min ((i : Int) + 52) (n : Int) = (m : Int) := by omega
      have hlo : i ≤ m := by omega
      have hhn : m ≤ n := by omega
      have HG := Lib.hid (And.intro hgo (And.intro hh hmin))
      have hB : ∀ A, (rc ≠ i → A = ro.map (fun x => x.add i)) → Bytes w (.slice A (m - i) (rc - i)) ((l.drop i).take (m - i)) := fun A hA => bytes_mid HS.out.1 HS.out.2.2 hlo (by rw [HS.out.2.2]; exact hhn) hA
      have hbA : ∀ A, (rc = i → A = ro) → (rc ≠ i → A = ro.map (fun x => x.add i)) → blkE (.slice A (m - i) (rc - i)) = bk := fun A h1 h2 => by
        rw [← HS.out.2.1]
        rcases Decidable.em (rc = i) with h | h
        · have hi := HX.out.2.2.2.2
          have h0 : rc = 0 := by omega
          rw [h1 h, h0]; cases ro <;> simp [blkE]
        · rw [h2 h]
          rcases ro with _ | ⟨rb, rf, rs⟩
          · rfl
          · simp only [blkE, Option.map_some]
            rw [if_neg (by omega), if_neg (by omega)]
            have := blkOf_add (some ⟨rb, rf, rs⟩) i 0 0 0 0
            simpa [blkOf] using this
      have HB := Lib.hid (And.intro hB hbA)
      clear hh hmin hB hbA
      have hsz := HX.out.2.1.size
      have cut : ∀ b : Bool, b = decide (i = 0) → True := fun _ _ => trivial
      clear cut
      rcases Nat.eq_zero_or_pos i with h0 | h0
      all_goals
        first
          | have hz : ((i : Int) == 0) = true := by rw [beq_iff_eq]; omega
          | have hz : ((i : Int) == 0) = false := by rw [beq_eq_false_iff_ne]; omega
        try have hlt : decide (i < n) = true := by rw [decide_eq_true_eq]; have := HX.out.2.2.2.2; omega
        clear h0 hgo
        go_wp2_with ((with_reducible refine wpList_slice_lh (o := ⟨some 23, _, _, _, _, _⟩) rfl 26 (.tmp 16) (.tmp 17) (.tmp 22) rfl (e := 5) (size := 1) ro n rc i m .i64 .i64 i _ rfl rfl rfl rfl (by have := HG.out.2.2; omega) hlo (Nat.le_trans hhn hrc) Tryd.underlying26 (by kernel_rfl) ?_))
        all_goals
          intro A hA' hA
          have hBA := HB.out.1 A hA
          have hbA := HB.out.2 A hA' hA
          have hC : Cuts (wr.alloc (.cells #[.slice A (m - i) (rc - i)] 26)) w.heap.size bk (.slice vo k vc) vs done := HX.out.1.upd0 ((Upd.refl [] wr).alloc _)
          have hB1 := hBA.upd (HX.out.2.1.alloc (.cells #[.slice A (m - i) (rc - i)] 26)) (by simp)
          have hrow := hC.row
          rw [HX.out.2.2.2.1] at hrow
          have hsz := HX.out.2.1.size
          have HA := Lib.hid (And.intro hC (And.intro hB1 (And.intro hrow (And.intro (Blk.new wr #[.slice A (m - i) (rc - i)] 26).sl1 (And.intro hbA hsz)))))
          clear hBA hbA hC hB1 hrow hA hA' hsz
          go_wp2_with (at_builtin; refine wpList_app _ rfl (.tmp 15) (.tmp 24) 24 rfl w.heap.size 26 (.slice none 0 0) 1 24 Tryd.underlying24 info_bytes rfl (by decide) (.slice vo k vc) k vs rfl HA.out.2.2.1 (.slice (some ⟨wr.heap.size, 0, none⟩) 1 1) 1 [.slice A (m - i) (rc - i)] rfl HA.out.2.2.2.1 (by simp [Value.oneCell']) (by have := HX.out.2.2.2.2; omega) (by decide) (by have := HA.out.2.2.2.2.2; simp; omega) ?_)
          intro ao2 c2 w2 h2
          have hsep : ∀ k' ∈ (Value.slice vo k vc).ownBlock.toList, w.heap.size ≤ k' := fun k' hk => by
            have := own_lt HA.out.2.2.1
            rw [own_block] at hk
            split at hk
            · simp at hk
            · simp at hk; omega
          have hdl := HX.out.2.2.2.1
          have hml : ((l.drop i).take (m - i)).length = m - i := by have := HS.out.2.2; simp; omega
          have hC2 := Cuts.app (l := (l.drop i).take (m - i)) (x := .slice A (m - i) (rc - i)) HA.out.1 HA.out.2.1 HA.out.2.2.2.2.1 hb (by rw [hdl]; exact h2)
          have hu2 : Upd [] w w2 := (HX.out.2.1.alloc _).trans h2.upd (fun k' hk => .inr (hsep k' hk))
          have hstep : if k + 1 = 0 ∨ 52 * (k + 1) < l.length then (done ++ [(l.drop i).take (m - i)]) ++ parts52 (l.drop (52 * (k + 1))) = parts52 l else done ++ [(l.drop i).take (m - i)] = parts52 l := by
            have h3 := HX.out.2.2.1
            rw [if_pos HG.out.1] at h3
            have hi := HX.out.2.2.2.2
            have hm := HG.out.2.1
            have hn := HS.out.2.2
            have hi52 : 52 * (k + 1) = i + 52 := by omega
            rw [hi52, hn]
            rcases Nat.lt_or_ge (i + 52) n with hlt | hge
            · rw [if_pos (.inr hlt)]
              have hm52 : m - i = 52 := by omega
              rw [hm52, List.append_assoc, ← h3, parts52_cons (l := l.drop i) (by simp; omega), List.drop_drop]
              rfl
            · rw [if_neg (by omega), ← h3, parts52_one (l := l.drop i) (by simp; omega)]
              rw [List.take_of_length_le (by simp; omega)]
          have H2 := Lib.hid (And.intro hC2 (And.intro hu2 (And.intro hdl hstep)))
          clear hC2 hu2 h2 hsep hdl hml hstep
          have hki : ((i : Int) + 52) = ((52 * (k + 1) : Nat) : Int) := by have := HX.out.2.2.2.2; omega
          have HKI := Lib.hid hki
          clear hki
          go_wp2
          go_roundw
          case rel => exact ⟨k + 1, _, _, by rw [← HKI.out], by simp [H2.out.2.2.1], by have := HS.out.2.2; have := HX.out.2.2.2.2; omega, ⟨_, _, rfl⟩, H2.out.1, H2.out.2.1, H2.out.2.2.2⟩
          case measure => simp [intOf]; omega
    · have hi := HX.out.2.2.2.2
      have h3 := HX.out.2.2.1
      rw [if_neg hgo] at h3
      have hz : ((i : Int) == 0) = false := by rw [beq_eq_false_iff_ne]; omega
      have hlt : decide (i < n) = false := by rw [decide_eq_false_iff_not]; omega
      have hk2 : k = (parts52 l).length := by rw [← h3]; exact HX.out.2.2.2.1.symm
      have HZ := Lib.hid (And.intro h3 hk2)
      clear hi h3 hk2 hgo
      go_wp2
      go_ret
      have h1 := HX.out.1
      rw [HZ.out.1] at h1
      rw [HZ.out.2] at h1 ⊢
      exact ⟨vo, vc, vs, rfl, h1, HX.out.2.1⟩
end Go.Proofs.YtnfnaedoejgpiaaDoor
