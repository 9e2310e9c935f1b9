/- A new disk. -/
import Derived.Test.YtnfnaedoejgpiaaDoorDisk
namespace Go.Proofs.YtnfnaedoejgpiaaDoor
open Go.RowKit

theorem wpList_box {P : Program} {ops : Array Oper} {rest : List Oper} {o : Oper} {a : Act} {w : World} {Q : Exit → Act → World → Prop} (hgd : o.guard = none) (t : TypeId) (x : Operand) (ho : o.op = .box t x)
    (v : Value) (hx : a.eval x = v) (h : wpList P ops Q rest (a.put o.dst (.pointer (some ⟨w.heap.size, 0, none⟩))) (w.alloc (.cells v.cells t))) : wpList P ops Q (o :: rest) a w :=
  wpList_run hgd (by unfold execOp; simp only [ho, hx, Instr.box, newVar, newRow, newObj]; rfl) h

theorem made_zeros {z : Value} {k : Nat} (hk : 0 < k) (n : Nat) : madeCells (List.replicate k z).toArray n = (List.replicate n z).toArray := by
  apply Array.ext_getElem?
  intro i
  simp only [madeCells, List.size_toArray, List.length_replicate, Array.getElem?_map, Array.getElem?_range, List.getElem?_toArray, List.getElem?_replicate]
  split
  · rename_i h
    have : i % k < k := Nat.mod_lt _ hk
    simp [this]
  · rfl
theorem wpList_make_zeros {P : Program} {ops : Array Oper} {rest : List Oper} {o : Oper} {a : Act} {w : World} {Q : Exit → Act → World → Prop} (hgd : o.guard = none) (t e : TypeId) (x y : Operand) (ho : o.op = .makeSlice t x y)
    (z : Value) (k bytes n : Nat) (hk : 0 < k) (hx : a.eval x = .int .i64 n) (hy : a.eval y = .int .i64 n) (ht : P.underlying t = some (.slice e)) (hi : (P.info? e).map (fun i => (i.zero, i.size, i.bytes)) = some (some (.agg (List.replicate k z).toArray), k, bytes))
    (hb : bytes * n ≤ 281474976710656) (h63 : n ≤ 9223372036854775807)
    (h : wpList P ops Q rest (a.put o.dst (.slice (some ⟨w.heap.size, 0, none⟩) n n)) (w.alloc (.cells (List.replicate (n * k) z).toArray e))) : wpList P ops Q (o :: rest) a w := by
  obtain ⟨i, hi1, hi2, hi3, hi4⟩ := info_parts hi
  have hb' : (i.bytes : Int) * (n : Int) ≤ 281474976710656 := by
    have h : ((i.bytes * n : Nat) : Int) ≤ 281474976710656 := by rw [hi4]; omega
    rwa [Int.natCast_mul] at h
  have hr := run_make (P := P) w t e i _ ht hi1 hi2 .i64 .i64 n n (by omega) (by omega) hb' (by omega)
  rw [Int.toNat_natCast, hi3, Value.cells, made_zeros hk] at hr
  exact wpList_run hgd (by unfold execOp; simp only [ho, hx, hy, Sem.run_bind, hr, Result.andThen_ok, Sem.run_pure]) h

/-- A disk of noughts. -/
def zeros : List UInt8 := List.replicate 64 0
def DiskS.new (m : Nat) : DiskS := ⟨-1, List.replicate m zeros, List.replicate m zeros, []⟩
theorem rowCells_new (m : Nat) : rowCells (List.replicate m zeros) = (List.replicate (m * 64) (Value.int .u8 0)).toArray := by
  unfold rowCells zeros
  rw [List.flatten_replicate_replicate, List.map_replicate]; rfl
theorem DiskS.new_ok {m : Nat} (h : m ≤ 8192) : (DiskS.new m).Ok :=
  ⟨rfl, fun s hs => by rw [(List.mem_replicate.1 hs).2]; rfl, fun s hs => by rw [(List.mem_replicate.1 hs).2]; rfl, by simp [DiskS.new], by simpa [DiskS.new] using h, by simp [DiskS.new]⟩
def NewPost (W : World) (m : Nat) (e : Ending) (w : World) : Prop :=
  ∃ d bf bn, e = .returned (.pointer (some ⟨d, 0, none⟩)) ∧ DiskAt w ⟨d, bf, bn, .slice none 0 0⟩ (DiskS.new m) ∧ Upd [] W w ∧ W.heap.size ≤ d ∧ W.heap.size ≤ bf ∧ W.heap.size ≤ bn
theorem info_sec : (Tryd.prog.info? 77).map (fun i => (i.zero, i.size, i.bytes)) = some (some (.agg (List.replicate 64 (.int .u8 0)).toArray), 64, 64) := by kernel_rfl

theorem new_at {W w : World} {m d bf bn : Nat} (hm : m ≤ 8192) (h1 : Blk w d #[.int .i64 (-1), .slice (some ⟨bf, 0, none⟩) m m, .slice (some ⟨bn, 0, none⟩) m m, .slice none 0 0] 69) (h2 : Blk w bf (List.replicate (m * 64) (Value.int .u8 0)).toArray 77) (h3 : Blk w bn (List.replicate (m * 64) (Value.int .u8 0)).toArray 77)
    (hu : Upd [] W w) (hd : W.heap.size ≤ d) (hf : W.heap.size ≤ bf) (hn : W.heap.size ≤ bn) (hne : bf ≠ bn) : NewPost W m (.returned (.pointer (some ⟨d, 0, none⟩))) w := by
  have hl : (DiskS.new m).now.length = m := by simp [DiskS.new]
  refine ⟨d, bf, bn, rfl, ⟨DiskS.new_ok hm, by rw [hl]; exact h1, ?_, ?_, World.ownsRow_nil _ _ _ _, hne⟩, hu, hd, hf, hn⟩
  · rw [← rowCells_new] at h2; exact h2
  · rw [← rowCells_new] at h3; exact h3

set_option maxHeartbeats 1000000 in
theorem new_any (w : World) (m : Nat) (hm : m ≤ 8192) : Calls Tryd.prog 11 #[.int .i64 m] w (NewPost w m) := by
  have hm' := Lib.hid hm; clear hm
  have hmx : (max (m : Int) 0) = m := by omega
  have hmn : (min (m : Int) 8192) = m := by have := hm'.out; omega
  go_enter Tryd.func11, Tryd.ntmps11
  go_wp2
  refine wp_region_ord (S := fun _ => True) (.take 0 (.take 1 (.take 3 (.alt 2 (.act 4 (.take 5 (.act 6 (.take 7 .done)))) 4 (.act 2 (.take 5 (.act 6 (.take 7 .done)))))))) (by kernel_rfl) (by kernel_rfl) (fun _ _ d _ _ h => by cases d <;> exact h) ?_
  refine ord_take rfl rfl trivial (v := .agg #[.int .i64 (-1)]) (fun w _ => by kernel_rfl) ?_
  refine ord_mov (x := .tmp 3) (.int .i64 m) rfl rfl (.inl rfl) rfl trivial ?_
  refine ord_mov (x := .tmp 3) (.int .i64 m) rfl rfl (.inl rfl) rfl trivial ?_
  simp only [Act.put, List.setIfInBounds_toArray, List.set_cons_zero, List.set_cons_succ, List.getElem_toArray, List.getElem_cons_succ, List.getElem_cons_zero]
  refine ord_alt rfl rfl ?_ ?_
  · refine wpList_make_zeros (o := ⟨some 9, _, _, _, _, _⟩) rfl 66 77 (.tmp 8) (.tmp 8) rfl (.int .u8 0) 64 64 m (by decide) rfl rfl Tryd.underlying66 info_sec (by have := hm'.out; omega) (by have := hm'.out; omega) ?_
    simp only [Act.put, List.setIfInBounds_toArray, List.set_cons_zero, List.set_cons_succ, List.getElem_toArray, List.getElem_cons_succ, List.getElem_cons_zero]
    refine ⟨fun _ => trivial, ?_⟩
    refine ord_act rfl ?_
    refine wpList_make_zeros (o := ⟨some 11, _, _, _, _, _⟩) rfl 66 77 (.tmp 10) (.tmp 10) rfl (.int .u8 0) 64 64 m (by decide) rfl rfl Tryd.underlying66 info_sec (by have := hm'.out; omega) (by have := hm'.out; omega) ?_
    simp only [Act.put, List.setIfInBounds_toArray, List.set_cons_zero, List.set_cons_succ, List.getElem_toArray, List.getElem_cons_succ, List.getElem_cons_zero]
    refine ⟨fun _ => trivial, ?_⟩
    obtain ⟨b1, hb1⟩ : ∃ b, w.drew.heap.size = b := ⟨_, rfl⟩
    obtain ⟨b2, hb2⟩ : ∃ b, (w.drew.alloc (Obj.cells (List.replicate (m * 64) (Value.int IntKind.u8 0)).toArray 77)).heap.size = b := ⟨_, rfl⟩
    rw [hb1, hb2]
    refine ord_take rfl rfl trivial (v := .agg #[.int .i64 (-1), .slice (some ⟨b1, 0, none⟩) m m, .slice (some ⟨b2, 0, none⟩) m m, .slice none 0 0]) (fun w _ => by kernel_rfl) ?_
    refine ord_act rfl ?_
    refine wpList_box rfl 69 (.tmp 12) rfl (.agg #[.int .i64 (-1), .slice (some ⟨b1, 0, none⟩) m m, .slice (some ⟨b2, 0, none⟩) m m, .slice none 0 0]) (by kernel_rfl) ?_
    refine ⟨fun _ => trivial, ?_⟩
    refine ord_mov (x := .tmp 13) (.pointer (some ⟨w.heap.size + 2, 0, none⟩)) rfl rfl (.inr rfl) ?_ trivial ?_
    · simp [Act.eval, Act.put]
    show Exit.then _ _ Exit.normal _ _
    simp only [Act.put, List.setIfInBounds_toArray, List.set_cons_zero, List.set_cons_succ, List.getElem_toArray, List.getElem_cons_succ, List.getElem_cons_zero]
    go_wp2
    go_ret
    have e1 : b1 = w.heap.size := hb1.symm
    have e2 : b2 = w.heap.size + 1 := by rw [← hb2]; simp
    have k1 : Blk (w.drew.alloc (Obj.cells (List.replicate (m * 64) (Value.int IntKind.u8 0)).toArray 77)) b1 _ _ := Blk.newAt e1 _ _
    have k2 := Blk.newAt (w := w.drew.alloc (Obj.cells (List.replicate (m * 64) (Value.int IntKind.u8 0)).toArray 77)) hb2.symm (List.replicate (m * 64) (Value.int IntKind.u8 0)).toArray 77
    exact new_at (bf := b1) (bn := b2) hm'.out (Blk.newAt (by simp) _ _) ((k1.alloc _).alloc _) ((k2.alloc _)) ((((Upd.refl [] w).drew.alloc _).alloc _).alloc _) (by omega) (by omega) (by omega) (by omega)
  · refine wpList_make_zeros (o := ⟨some 11, _, _, _, _, _⟩) rfl 66 77 (.tmp 10) (.tmp 10) rfl (.int .u8 0) 64 64 m (by decide) rfl rfl Tryd.underlying66 info_sec (by have := hm'.out; omega) (by have := hm'.out; omega) ?_
    simp only [Act.put, List.setIfInBounds_toArray, List.set_cons_zero, List.set_cons_succ, List.getElem_toArray, List.getElem_cons_succ, List.getElem_cons_zero]
    refine ⟨fun _ => trivial, ?_⟩
    refine ord_act rfl ?_
    refine wpList_make_zeros (o := ⟨some 9, _, _, _, _, _⟩) rfl 66 77 (.tmp 8) (.tmp 8) rfl (.int .u8 0) 64 64 m (by decide) rfl rfl Tryd.underlying66 info_sec (by have := hm'.out; omega) (by have := hm'.out; omega) ?_
    simp only [Act.put, List.setIfInBounds_toArray, List.set_cons_zero, List.set_cons_succ, List.getElem_toArray, List.getElem_cons_succ, List.getElem_cons_zero]
    refine ⟨fun _ => trivial, ?_⟩
    obtain ⟨b1, hb1⟩ : ∃ b, w.drew.heap.size = b := ⟨_, rfl⟩
    obtain ⟨b2, hb2⟩ : ∃ b, (w.drew.alloc (Obj.cells (List.replicate (m * 64) (Value.int IntKind.u8 0)).toArray 77)).heap.size = b := ⟨_, rfl⟩
    rw [hb1, hb2]
    refine ord_take rfl rfl trivial (v := .agg #[.int .i64 (-1), .slice (some ⟨b2, 0, none⟩) m m, .slice (some ⟨b1, 0, none⟩) m m, .slice none 0 0]) (fun w _ => by kernel_rfl) ?_
    refine ord_act rfl ?_
    refine wpList_box rfl 69 (.tmp 12) rfl (.agg #[.int .i64 (-1), .slice (some ⟨b2, 0, none⟩) m m, .slice (some ⟨b1, 0, none⟩) m m, .slice none 0 0]) (by kernel_rfl) ?_
    refine ⟨fun _ => trivial, ?_⟩
    refine ord_mov (x := .tmp 13) (.pointer (some ⟨w.heap.size + 2, 0, none⟩)) rfl rfl (.inr rfl) ?_ trivial ?_
    · simp [Act.eval, Act.put]
    show Exit.then _ _ Exit.normal _ _
    simp only [Act.put, List.setIfInBounds_toArray, List.set_cons_zero, List.set_cons_succ, List.getElem_toArray, List.getElem_cons_succ, List.getElem_cons_zero]
    go_wp2
    go_ret
    have e1 : b1 = w.heap.size := hb1.symm
    have e2 : b2 = w.heap.size + 1 := by rw [← hb2]; simp
    have k1 : Blk (w.drew.alloc (Obj.cells (List.replicate (m * 64) (Value.int IntKind.u8 0)).toArray 77)) b1 _ _ := Blk.newAt e1 _ _
    have k2 := Blk.newAt (w := w.drew.alloc (Obj.cells (List.replicate (m * 64) (Value.int IntKind.u8 0)).toArray 77)) hb2.symm (List.replicate (m * 64) (Value.int IntKind.u8 0)).toArray 77
    exact new_at (bf := b2) (bn := b1) hm'.out (Blk.newAt (by simp) _ _) ((k2.alloc _)) ((k1.alloc _).alloc _) ((((Upd.refl [] w).drew.alloc _).alloc _).alloc _) (by omega) (by omega) (by omega) (by omega)
end Go.Proofs.YtnfnaedoejgpiaaDoor
