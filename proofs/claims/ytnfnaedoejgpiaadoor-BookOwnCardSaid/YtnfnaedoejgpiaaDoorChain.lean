/- Heads behind records. -/
import Derived.Test.YtnfnaedoejgpiaaDoorNext
namespace Go.Proofs.YtnfnaedoejgpiaaDoor
open Go.RowKit

def headCells (h : List UInt8) (c : Int) : Array Value := (h.map bv ++ [Value.int .i64 c]).toArray
def HeadPost (W : World) (h : List UInt8) (c : Int) (e : Ending) (w : World) : Prop := e = .returned (.agg (headCells h c)) ∧ Upd [] W w
theorem ord_build2 {P : Program} {md : Region.Mode} {ops : Array Oper} {S : World → Prop} {Q : Exit → Act → World → Prop} {i : Nat} {o : Oper} {r : Ord} {a : Act} {w : World} (ho : ops[i]? = some o) (hg : o.guard = none) {t : TypeId} {k l : Nat} {x y : Operand} (hop : o.op = .build t #[(k, x), (l, y)])
    (u u' v : Value) (hx : a.eval x = u) (hy : a.eval y = u') (hr : ∀ w, (Instr.build t #[(k, u), (l, u')]).run P w = .ok v w) (hS : S w) (h : wpOrd P md ops S Q r (a.put o.dst v) w) : wpOrd P md ops S Q (.take i r) a w :=
  ord_take ho hg hS (fun w _ => by unfold execOp; simp only [hop, List.map_toArray, List.map_cons, List.map_nil, hx, hy, Sem.run_bind, hr, Result.andThen_ok, Sem.run_pure]) h
theorem run_build_head (w : World) (l : List UInt8) (c : Int) (h : l.length = 32) : (Instr.build 38 #[(0, .agg (bsArr l)), (1, .int .i64 c)]).run Tryd.prog w = .ok (.agg (headCells l c)) w := by
  refine run_build_struct w (z := .agg (List.replicate 32 (Value.int .u8 0) ++ [Value.int .i64 0]).toArray) (places := #[(0, 32), (32, 1)]) (by kernel_rfl) Tryd.underlying38 (by kernel_rfl) ?_
  rw [fill_part (off := 0) (by simp [Value.cells, bsArr, h]) (by simp [Value.cells, bsArr, h])]
  rw [fill_part (off := 32) (by rfl) (by simp [Value.cells, splice, bsArr, h])]
  simp [Instr.fill, splice, Value.cells, bsArr, headCells, h]
set_option maxRecDepth 4000 in
theorem next1_any (w : World) (h record : List UInt8) (c : Nat) (ro : Option Addr) (rc : Nat) (hh : h.length = 32) (hr : Bytes w (.slice ro record.length rc) record) (hrb : blkOf (.slice ro record.length rc) ≤ w.heap.size) (hl : record.length ≤ 1000000) (ht : Table w) (hc : c ≤ 1000000000) :
    Calls Tryd.prog 40 #[.agg (headCells h c), .slice ro record.length rc] w (HeadPost w (linkOf h record) (c + 1)) := by
  obtain ⟨q2, hq2⟩ : ∃ q, w.heap.size = q := ⟨_, rfl⟩
  have HS := Lib.hid (And.intro hh (And.intro hr (And.intro hrb (And.intro hl (And.intro ht hq2)))))
  clear hh hr hrb hl ht
  go_enter Tryd.func40, Tryd.ntmps40
  go_wp2_with (with_reducible refine wpList_box (o := ⟨some 2, _, _, _, _, _⟩) rfl 38 (.tmp 0) rfl (.agg (headCells h c)) rfl ?_)
  obtain ⟨wa, hwa⟩ : ∃ wa, w.alloc (Obj.cells (headCells h c) 38) = wa := ⟨_, rfl⟩
  have pa : Blk wa q2 (headCells h c) 38 := by rw [← hwa]; exact Blk.newAt hq2.symm _ _
  have ua : Upd [] w wa := by rw [← hwa]; exact (Upd.refl [] w).alloc _
  have sa : wa.heap.size = q2 + 1 := by rw [← hwa]; simp; exact hq2
  rw [hwa]
  obtain ⟨wb, hwb⟩ : ∃ wb, wa.alloc (Obj.cells (headCells (List.replicate 32 0) 0) 38) = wb := ⟨_, rfl⟩
  have pb : Blk wb (q2 + 1) (headCells (List.replicate 32 0) 0) 38 := by rw [← hwb]; exact Blk.newAt sa.symm _ _
  have pa2 : Blk wb q2 (headCells h c) 38 := by rw [← hwb]; exact pa.alloc _
  have ub : Upd [] w wb := by rw [← hwb]; exact ua.alloc _
  have hwb' : wa.alloc (Obj.cells #[.int .u8 0, .int .u8 0, .int .u8 0, .int .u8 0, .int .u8 0, .int .u8 0, .int .u8 0, .int .u8 0, .int .u8 0, .int .u8 0, .int .u8 0, .int .u8 0, .int .u8 0, .int .u8 0, .int .u8 0, .int .u8 0, .int .u8 0, .int .u8 0, .int .u8 0, .int .u8 0, .int .u8 0, .int .u8 0, .int .u8 0, .int .u8 0, .int .u8 0, .int .u8 0, .int .u8 0, .int .u8 0, .int .u8 0, .int .u8 0, .int .u8 0, .int .u8 0, .int .i64 0] 38) = wb := hwb
  rw [hwb']
  have c32 : ∀ w, Blk w q2 (headCells h c) 38 → w.cell? ⟨q2, 32, none⟩ = some (.int .i64 c) := fun w hw => hw.cell (by simp [headCells, HS.out.1])
  have hszH : (Tryd.prog.info? 36).map (·.size) = some (h.map bv).length := by rw [List.length_map, HS.out.1]; kernel_rfl
  have w1 : IntKind.i64.wrap ((c : Int) + 1) = (c : Int) + 1 := by rw [IntKind.wrap_i64]; omega
  have S0 : Blk wb.drew q2 (headCells h c) 38 := pa2
  clear hwb hwb' hwa
  refine wp_region_ord (S := fun w => Blk w q2 (headCells h c) 38) (.take 0 (.take 1 (.take 2 (.take 4 (.take 5 (.take 6 (.act 3 (.take 7 (.act 8 .done))))))))) (by kernel_rfl) (by kernel_rfl) (fun _ _ d _ _ h => by cases d <;> exact h) ?_
  (refine ord_ex rfl rfl S0 ?_; apply Exists.intro; refine ⟨fun _ _ => ?_, ?_⟩; (focus (rename_i w hw; skip; go_simp; rfl)); simp only [Act.put, List.setIfInBounds_toArray, List.set_cons_zero, List.set_cons_succ, List.getElem_toArray, List.getElem_cons_succ, List.getElem_cons_zero])
  refine ord_load_blk rfl rfl rfl q2 0 rfl _ 38 (fun _ h => h) _ (h.map bv) (fun j u hj => by rw [Nat.zero_add]; simp only [headCells, List.getElem?_toArray]; rw [List.getElem?_append_left (List.getElem?_eq_some_iff.1 hj).1]; exact hj) Tryd.underlying36 rfl hszH S0 ?_
  simp only [Act.put, List.setIfInBounds_toArray, List.set_cons_zero, List.set_cons_succ, List.getElem_toArray, List.getElem_cons_succ, List.getElem_cons_zero]
  repeat (refine ord_ex rfl rfl S0 ?_; apply Exists.intro; refine ⟨fun _ _ => ?_, ?_⟩; (focus (rename_i w hw; have c32' := c32 _ hw; go_simp; rfl)); simp only [Act.put, List.setIfInBounds_toArray, List.set_cons_zero, List.set_cons_succ, List.getElem_toArray, List.getElem_cons_succ, List.getElem_cons_zero])
  refine ord_act rfl ?_
  go_wp2_with fail
  have ub2 : Upd [] w wb.drew := ub.drew
  have hlk := link_any wb.drew h record ro rc HS.out.1 (HS.out.2.1.upd ub2 (by simp)) (Nat.le_trans HS.out.2.2.1 ub2.size) HS.out.2.2.2.1 (HS.out.2.2.2.2.1.upd ub2 (by simp))
  refine hlk.mono ?_
  rintro e w2 ⟨rfl, u2⟩
  have S2 : Blk w2 q2 (headCells h c) 38 := S0.upd u2 (by simp)
  have P2 : Blk w2 (q2 + 1) (headCells (List.replicate 32 0) 0) 38 := Blk.upd (w := wb.drew) pb u2 (by simp)
  have U2 : Upd [] w w2 := ub2.trans u2 (by simp)
  have hlen : (linkOf h record).length = 32 := by unfold linkOf ofParts StreamS.sum; simp [toldN_len]
  have hb := fun w => run_build_head w (linkOf h record) ((c : Int) + 1) hlen
  have HX := Lib.hid (And.intro S2 (And.intro P2 (And.intro U2 (And.intro hlen hb))))
  clear S2 P2 U2 u2 hlk hlen hb
  obtain ⟨T, hT⟩ : ∃ T, linkOf h record = T := ⟨_, rfl⟩
  rw [hT] at HX ⊢
  have HTT := Lib.hid hT
  clear hT
  go_wp2_with fail
  refine ⟨fun _ => HX.out.1, ?_⟩
  refine ord_build2 rfl rfl rfl (.agg (bsArr T)) (.int .i64 ((c : Int) + 1)) (.agg (headCells T ((c : Int) + 1))) rfl rfl HX.out.2.2.2.2 HX.out.1 ?_
  simp only [Act.put, List.setIfInBounds_toArray, List.set_cons_zero, List.set_cons_succ, List.getElem_toArray, List.getElem_cons_succ, List.getElem_cons_zero]
  refine ord_act rfl ?_
  have hlm : (headCells T ((c : Int) + 1)).toList.length = 33 := by simp [headCells, HX.out.2.2.2.1]
  have hone : ((headCells T ((c : Int) + 1)).toList.all fun u => u.oneCell') = true := by
    simp only [headCells, List.all_append]
    rw [List.all_eq_true.2 (bv_one T)]; rfl
  refine wpList_store_blk rfl 38 (.tmp 4) (.tmp 12) rfl (b := q2 + 1) 0 (by kernel_rfl) HX.out.2.1 (.agg (headCells T ((c : Int) + 1))) (by kernel_rfl) (headCells T ((c : Int) + 1)).toList rfl (by rw [hlm]; simp [headCells]) hone (by rw [hlm]; kernel_rfl) ?_
  intro w7 b7 u7
  rw [splice_all (by rw [hlm]; simp [headCells])] at b7
  refine ⟨fun h => Bool.noConfusion (h.symm.trans (by kernel_rfl : waitsAll _ _ _ = true)), ?_⟩
  show Exit.then _ _ Exit.normal _ _
  have G7 := Lib.hid (And.intro b7 (HX.out.2.2.1.trans u7 (by simp; omega)))
  clear b7 u7
  go_wp2
  refine bodyPost_ret (results_blk rfl _ G7.out.1 _ rfl Tryd.underlying38 rfl (by rw [List.size_toArray, hlm]; kernel_rfl)) rfl ?_
  unfold HeadPost
  rw [HTT.out]
  exact ⟨rfl, G7.out.2⟩
end Go.Proofs.YtnfnaedoejgpiaaDoor
