/- BookParts: whatever the number, the law's call returns true, and only new memory is written. -/
import Derived.Test.YtnfnaedoejgpiaaDoorCut
namespace Go.Proofs.YtnfnaedoejgpiaaDoor
open Go.RowKit

theorem nParts_cut (n : Nat) : nParts (n : Int) = ((parts52 (List.replicate n (0 : UInt8))).length : Int) := by
  rw [parts52_len]
  unfold nParts
  rw [if_neg (by omega), List.length_replicate]
  rcases Nat.eq_zero_or_pos n with rfl | h
  · decide
  · rw [Int.tdiv_eq_ediv_of_nonneg (by omega)]; omega
theorem nParts_bd {n : Int} (h0 : 0 ≤ n) (h1 : n ≤ 100000) : 0 ≤ nParts n ∧ nParts n ≤ 100000 := by
  obtain ⟨m, rfl⟩ := Int.eq_ofNat_of_zero_le h0
  rw [nParts_cut, parts52_len, List.length_replicate]; omega
theorem wpList_make_bytes {ops : Array Oper} {rest : List Oper} {o : Oper} {a : Act} {w : World} {Q : Exit → Act → World → Prop} (hgd : o.guard = none) (x : Operand) (ho : o.op = .makeSlice 26 x x) (n : Nat) (hx : a.eval x = .int .i64 n) (hn : n ≤ 140737488355328)
    (h : wpList Tryd.prog ops Q rest (a.put o.dst (.slice (some ⟨w.heap.size, 0, none⟩) n n)) (w.alloc (.cells (nulls n) 5))) : wpList Tryd.prog ops Q (o :: rest) a w := by
  have hr := run_make_bytes w n hn
  exact wpList_run hgd (by unfold execOp; simp only [ho, hx, Sem.run_bind, hr, Result.andThen_ok, Sem.run_pure]) h
def TrueW (W : World) (e : Ending) (w : World) : Prop := e = .returned (.bool true) ∧ Upd [] W w
set_option maxRecDepth 4000 in
set_option maxHeartbeats 1000000 in
theorem lawParts_any (w : World) (n : Int) (h0 : -9223372036854775808 ≤ n) (h1 : n ≤ 9223372036854775807) (ht : Table w) :
    Calls Tryd.prog 3 #[.int .i64 n] w (TrueW w) := by
  have HS := Lib.hid (And.intro ht (bParts_any · n h0 h1))
  clear ht
  go_enter Tryd.func3, Tryd.ntmps3
  go_wp2_with fail
  refine (awake_any w HS.out.1).mono ?_
  rintro e w1 ⟨rfl, u1⟩
  have H1 := Lib.hid u1
  clear u1
  rcases (by omega : n < 0 ∨ 0 ≤ n) with hn | hn
  · go_wp2_with fail
    refine (HS.out.2 _).mono ?_
    rintro e w2 ⟨rfl, rfl⟩
    have hp : nParts n = 0 := by unfold nParts; rw [if_pos hn]
    rw [hp]
    clear hp
    go_wp2
    go_ret
    exact ⟨rfl, H1.out⟩
  · rcases (by omega : 100000 < n ∨ n ≤ 100000) with hb | hb
    · go_wp2
      go_ret
      exact ⟨rfl, H1.out⟩
    · obtain ⟨m, rfl⟩ := Int.eq_ofNat_of_zero_le hn
      have hmk := fun w => run_make_bytes w m (by omega)
      have hp := nParts_cut m
      have HM := Lib.hid (And.intro hmk hp)
      clear hmk hp
      go_wp2_with fail
      refine wp_region_ord (S := fun _ => True) (.take 0 (.take 2 (.alt 1 (.act 3 (.act 4 (.take 5 (.take 6 (.take 7 .done))))) 3 (.act 1 (.act 4 (.take 5 (.take 6 (.take 7 .done)))))))) (by kernel_rfl) (by kernel_rfl) (fun _ _ d _ _ h => by cases d <;> exact h) ?_
      iterate 2 (refine ord_ex rfl rfl trivial ?_; apply Exists.intro; refine ⟨fun _ _ => ?_, ?_⟩; (focus (rename_i w hw; skip; go_simp; rfl)); simp only [Act.put, List.setIfInBounds_toArray, List.set_cons_zero, List.set_cons_succ, List.getElem_toArray, List.getElem_cons_succ, List.getElem_cons_zero])
      obtain ⟨np, hnp⟩ : ∃ k : Nat, (parts52 (List.replicate m (0 : UInt8))).length = k := ⟨_, rfl⟩
      rw [hnp] at HM
      have HNP := Lib.hid hnp
      clear hnp
      have hcut : ∀ w' q, Upd [] w w' → Blk w' q (nulls m) 5 → q < w'.heap.size → Calls Tryd.prog 9 #[.slice (some ⟨q, 0, none⟩) m m] w' fun e w2 => (∃ ao c, e = .returned (.slice ao np c)) ∧ Upd [] w w2 := fun w' q hu hb hq => by
        have hB := nulls_bytes hb (by omega)
        have := cut_any w' (some ⟨q, 0, none⟩) m (List.replicate m 0) (by rw [List.length_replicate]; exact hB) (by show q + 1 ≤ _; omega) (by rw [List.length_replicate]; omega)
        rw [List.length_replicate] at this
        refine this.mono ?_
        rintro e w2 ⟨ao, c, vs, rfl, -, h2⟩
        exact ⟨⟨ao, c, by rw [HNP.out]⟩, hu.trans h2 (by simp)⟩
      have HC := Lib.hid hcut
      clear hcut
      have hnpb : np ≤ 100000 := by have := nParts_bd (n := m) (by omega) (by omega); rw [HM.out.2] at this; omega
      have heq : ((np : Int) == (np : Int)) = true := by simp
      refine ord_alt rfl rfl ?_ ?_
      · go_wp2_with fail
        refine (HS.out.2 _).mono ?_
        rintro e w2 ⟨rfl, rfl⟩
        rw [HM.out.2]
        go_wp2_with fail
        refine ⟨fun _ => trivial, ?_⟩
        refine ord_act rfl ?_
        refine wpList_make_bytes (o := ⟨some 21, _, _, _, _, _⟩) rfl (.tmp 20) rfl m rfl (by omega) ?_
        simp only [Act.put, List.setIfInBounds_toArray, List.set_cons_zero, List.set_cons_succ, List.getElem_toArray, List.getElem_cons_succ, List.getElem_cons_zero]
        refine ⟨fun _ => trivial, ?_⟩
        refine ord_act rfl ?_
        have hc := HC.out (w1.drew.alloc (.cells (nulls m) 5)) w1.drew.heap.size (H1.out.drew.alloc _) (Blk.new _ _ _) (by simp)
        have HC2 := Lib.hid hc
        clear hc
        go_wp2_with fail
        refine HC2.out.mono ?_
        rintro e w3 ⟨⟨ao, c, rfl⟩, u3⟩
        have H3 := Lib.hid u3
        clear u3
        go_wp2_with fail
        refine ⟨fun _ => trivial, ?_⟩
        iterate 3 (refine ord_ex rfl rfl trivial ?_; apply Exists.intro; refine ⟨fun _ _ => ?_, ?_⟩; (focus (rename_i w hw; skip; go_simp; rfl)); simp only [Act.put, List.setIfInBounds_toArray, List.set_cons_zero, List.set_cons_succ, List.getElem_toArray, List.getElem_cons_succ, List.getElem_cons_zero])
        show Exit.then _ _ Exit.normal _ _
        go_wp2
        go_ret
        exact ⟨rfl, H3.out⟩
      · refine wpList_make_bytes (o := ⟨some 21, _, _, _, _, _⟩) rfl (.tmp 20) rfl m rfl (by omega) ?_
        simp only [Act.put, List.setIfInBounds_toArray, List.set_cons_zero, List.set_cons_succ, List.getElem_toArray, List.getElem_cons_succ, List.getElem_cons_zero]
        refine ⟨fun _ => trivial, ?_⟩
        refine ord_act rfl ?_
        have hc := HC.out (w1.drew.alloc (.cells (nulls m) 5)) w1.drew.heap.size (H1.out.drew.alloc _) (Blk.new _ _ _) (by simp)
        have HC2 := Lib.hid hc
        clear hc
        go_wp2_with fail
        refine (HS.out.2 _).mono ?_
        rintro e w2 ⟨rfl, rfl⟩
        rw [HM.out.2]
        go_wp2_with fail
        refine ⟨fun _ => trivial, ?_⟩
        refine ord_act rfl ?_
        go_wp2_with fail
        refine HC2.out.mono ?_
        rintro e w3 ⟨⟨ao, c, rfl⟩, u3⟩
        have H3 := Lib.hid u3
        clear u3
        go_wp2_with fail
        refine ⟨fun _ => trivial, ?_⟩
        iterate 3 (refine ord_ex rfl rfl trivial ?_; apply Exists.intro; refine ⟨fun _ _ => ?_, ?_⟩; (focus (rename_i w hw; skip; go_simp; rfl)); simp only [Act.put, List.setIfInBounds_toArray, List.set_cons_zero, List.set_cons_succ, List.getElem_toArray, List.getElem_cons_succ, List.getElem_cons_zero])
        show Exit.then _ _ Exit.normal _ _
        go_wp2
        go_ret
        exact ⟨rfl, H3.out⟩
end Go.Proofs.YtnfnaedoejgpiaaDoor
