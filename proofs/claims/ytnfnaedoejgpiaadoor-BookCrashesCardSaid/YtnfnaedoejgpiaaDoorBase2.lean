/- Laws on whole values in a block: an aggregate loaded, an aggregate stored, results that lie in a block. They speak of no program. -/
import Derived.Test.YtnfnaedoejgpiaaDoorBase
import Derived.Deep.RegionHeld3
namespace Go.Proofs.YtnfnaedoejgpiaaDoor
open Go.RowKit

theorem run_loadVar_blk {P : Program} {w : World} {b off : Nat} {cur : Array Value} {t : TypeId} (hb : Blk w b cur t) (ty : TypeId) (d : TypeDesc) (cs : List Value) (hc : ∀ j u, cs[j]? = some u → cur[off + j]? = some u)
    (hu : P.underlying ty = some d) (hd : (match d with | .struct _ | .array _ _ => true | _ => false) = true) (hi : (P.info? ty).map (·.size) = some cs.length) :
    (loadVar ty ⟨b, off, none⟩).run P w = .ok (.agg cs.toArray) w := by
  have hl : (loadCells ⟨b, off, none⟩ cs.length).run P w = .ok cs.toArray w :=
    run_loadCells_list (P := P) w ⟨b, off, none⟩ cs (fun j v hv => by rw [Addr.add_lit]; exact hb.cell (hc j v hv))
  cases hq : P.info? ty with
  | none => simp [hq] at hi
  | some i =>
    have hs : i.size = cs.length := by simpa [hq] using hi
    have hagg : (isAgg ty).run P w = .ok true w := by
      unfold isAgg
      rw [Sem.run_bind, run_underlying hu w]
      cases d <;> simp_all
    simp [loadVar, Sem.run_bind, hagg, sizeOf, typeInfo, hq, hs, hl]

theorem wpList_load_blk {P : Program} {ops : Array Oper} {rest : List Oper} {o : Oper} {a : Act} {w : World} {Q : Exit → Act → World → Prop} (hgd : o.guard = none) (ty : TypeId) (x : Operand) (ho : o.op = .load ty x)
    {b : Nat} (off : Nat) (hx : a.eval x = .pointer (some ⟨b, off, none⟩)) {t : TypeId} {cur : Array Value} (hb : Blk w b cur t) (d : TypeDesc) (cs : List Value) (hc : ∀ j u, cs[j]? = some u → cur[off + j]? = some u)
    (hu : P.underlying ty = some d) (hd : (match d with | .struct _ | .array _ _ => true | _ => false) = true) (hi : (P.info? ty).map (·.size) = some cs.length)
    (h : wpList P ops Q rest (a.put o.dst (.agg cs.toArray)) w) : wpList P ops Q (o :: rest) a w := by
  refine wpList_plain hgd fun K hK => ?_
  unfold Oper.wp execOp
  simp only [ho, hx, Instr.loadAt, Instr.sureAddr, Sem.run_bind, Sem.run_pure, Result.andThen_ok, run_loadVar_blk hb ty d cs hc hu hd hi]
  exact hK _ _ h

/-- cs laid over the cells from 'off' on. -/
def splice (cur : Array Value) (off : Nat) (cs : List Value) : Array Value := (cur.toList.take off ++ cs ++ cur.toList.drop (off + cs.length)).toArray
theorem splice_size {cur : Array Value} {off : Nat} {cs : List Value} (h : off + cs.length ≤ cur.size) : (splice cur off cs).size = cur.size := by
  simp [splice]; omega

theorem wpList_store_blk {P : Program} {ops : Array Oper} {rest : List Oper} {o : Oper} {a : Act} {w : World} {Q : Exit → Act → World → Prop} (hgd : o.guard = none) (ty : TypeId) (x y : Operand) (ho : o.op = .store ty x y)
    {b : Nat} (off : Nat) (hx : a.eval x = .pointer (some ⟨b, off, none⟩)) {t : TypeId} {cur : Array Value} (hb : Blk w b cur t) (v : Value) (hy : a.eval y = v) (cs : List Value) (hv : v.cells.toList = cs) (hl : off + cs.length ≤ cur.size) (h1 : (cs.all fun u => u.oneCell') = true)
    (hi : (P.info? ty).map (·.size) = some cs.length)
    (h : ∀ w', Blk w' b (splice cur off cs) t → Upd [b] w w' → wpList P ops Q rest (a.put o.dst undef) w') : wpList P ops Q (o :: rest) a w := by
  refine wpList_plain hgd fun K hK => ?_
  have hst : (storeCells ⟨b, off, none⟩ cs 0).run P w = .ok () (w.setRow b (splice cur off cs)) := run_storeCells_at P b off t cs 0 cur w hb (by simpa using hl) (by simpa using h1)
  cases hq : P.info? ty with
  | none => simp [hq] at hi
  | some i =>
    have hs : i.size = cs.length := by simpa [hq] using hi
    have hvs : v.cells.size = cs.length := by rw [← hv]; simp
    unfold Oper.wp execOp
    simp only [ho, hx, hy, Instr.storeAt, Instr.sureAddr, storeVar, sizeOf, typeInfo, Sem.run_bind, Sem.run_pure, Result.andThen_ok]
    simp [hq, hs, hvs, hv, hst]
    refine hK _ _ (h _ (setRow_heap w b cur _ t _ hb) ⟨rfl, rfl, rfl, by simp, fun k _ hk => setRow_other w b k _ (by simpa using hk)⟩)

/-- Results: one that lies in a block; one that does, and one in a slot. -/
theorem results_blk {P : Program} {fn : Func} {p : Tmp} {ty : TypeId} (h : fn.results = #[.cell p ty]) (tmps : Array Value) {w : World} {b : Nat} {t : TypeId} {cur : Array Value} (hb : Blk w b cur t) (d : TypeDesc)
    (hp : tmps.getD p undef = .pointer (some ⟨b, 0, none⟩)) (hu : P.underlying ty = some d) (hd : (match d with | .struct _ | .array _ _ => true | _ => false) = true) (hi : (P.info? ty).map (·.size) = some cur.size) :
    (results fn tmps).run P w = .ok (.agg cur) w := results_cell_row h tmps w b t cur (0, 0) d hp hb hu hd hi
theorem results_blk_tmp {P : Program} {fn : Func} {p u : Tmp} {ty : TypeId} (h : fn.results = #[.cell p ty, .tmp u]) (tmps : Array Value) {w : World} {b : Nat} {t : TypeId} {cur : Array Value} (hb : Blk w b cur t) (d : TypeDesc)
    (hp : tmps.getD p undef = .pointer (some ⟨b, 0, none⟩)) (hu : P.underlying ty = some d) (hd : (match d with | .struct _ | .array _ _ => true | _ => false) = true) (hi : (P.info? ty).map (·.size) = some cur.size) :
    (results fn tmps).run P w = .ok (.tuple #[.agg cur, tmps.getD u undef]) w := by
  have hp' : tmps[p]?.getD undef = .pointer (some ⟨b, 0, none⟩) := by simpa using hp
  simp [results, h, hp', asAddr, run_loadVar_row w b t ty cur (0, 0) d hb hu hd hi]

theorem run_loadVar_one {P : Program} {w : World} {b off : Nat} {ty : TypeId} {v : Value} {d : TypeDesc} (hu : P.underlying ty = some d) (hd : (match d with | .struct _ | .array _ _ => false | _ => true) = true) (hc : w.cell? ⟨b, off, none⟩ = some v) :
    (loadVar ty ⟨b, off, none⟩).run P w = .ok v w := by
  have hagg : (isAgg ty).run P w = .ok false w := by
    unfold isAgg
    rw [Sem.run_bind, run_underlying hu w]
    cases d <;> simp_all
  simp [loadVar, Sem.run_bind, hagg, Result.andThen, load, Sem.run, hc]

/-- copy of a whole block onto another, elements of 'size' cells. -/
theorem wpList_copy_blk {P : Program} {w : World} {ops : Array Oper} {rest : List Oper} {o : Oper} {a : Act} {Q : Exit → Act → World → Prop} (hgd : o.guard = none) (d s : Operand) (dT sT : TypeId)
    (ho : o.op = .call { callee := .builtin .copy, args := #[d, s], argTypes := #[dT, sT] }) (elem : TypeId) (size : Nat) (hu : P.underlying dT = some (.slice elem)) (hsz : (P.info? elem).map (·.size) = some size)
    (g h n : Nat) (hd : a.eval d = .slice (some ⟨g, 0, none⟩) n n) (hs : a.eval s = .slice (some ⟨h, 0, none⟩) n n) {cur cs : Array Value} {t t' : TypeId} (hg : Blk w g cur t) (hh : Blk w h cs t')
    (hc : cs.size = n * size) (hcur : cur.size = n * size) (h1 : (cs.toList.all fun u => u.oneCell') = true)
    (hk : ∀ w', Blk w' g cs t → Upd [g] w w' → wpList P ops Q rest (a.put o.dst (goInt n)) w') : wpList P ops Q (o :: rest) a w := by
  refine wpList_plain hgd fun K hK => ?_
  cases hq : P.info? elem with
  | none => simp [hq] at hsz
  | some i =>
    have hi : i.size = size := by simpa [hq] using hsz
    subst hi
    have hf := run_firstCells_some (P := P) w i.size n ⟨h, 0, none⟩ n n cs.toList (by simpa using hc) (fun j u hj => by rw [Addr.add_lit, Nat.zero_add]; exact hh.cell (by simpa using hj))
    have hst := run_storeCells_at P g 0 t cs.toList 0 cur w hg (by simp; omega) (List.all_eq_true.1 h1)
    have e : (List.take (0 + 0) cur.toList ++ cs.toList ++ List.drop (0 + 0 + cs.toList.length) cur.toList).toArray = cs := by
      have : List.drop (0 + 0 + cs.toList.length) cur.toList = [] := List.drop_eq_nil_of_le (by simp; omega)
      rw [this]; simp
    rw [e] at hst
    have hrun : (Builtin.copy_ #[dT, sT] o.type #[.slice (some ⟨g, 0, none⟩) n n, .slice (some ⟨h, 0, none⟩) n n]).run P w = .ok (goInt n) (w.setRow g cs) := by
      simp [Builtin.copy_, run_underlying hu, Builtin.lenOf, sizeOf, typeInfo, hq, hf, hst]
    unfold Oper.wp execOp
    simp only [ho, resolve, invoke, builtin, Sem.run_bind, Sem.run_pure, Result.andThen_ok, List.map_toArray, List.map_cons, List.map_nil, hd, hs, hrun]
    exact hK _ _ (hk _ (setRow_heap w g cur _ t _ hg) ⟨rfl, rfl, rfl, by simp, fun k _ hk => setRow_other w g k _ (by simpa using hk)⟩)

/-- An operation whose run is known. -/
theorem wpList_run {P : Program} {ops : Array Oper} {rest : List Oper} {o : Oper} {a : Act} {w w' : World} {v : Value} {Q : Exit → Act → World → Prop} (hgd : o.guard = none) (hr : (execOp a.eval o).run P w = .ok (.value v) w')
    (h : wpList P ops Q rest (a.put o.dst v) w') : wpList P ops Q (o :: rest) a w := by
  refine wpList_plain hgd fun K hK => ?_
  unfold Oper.wp
  rw [hr]
  exact hK _ _ h

/-- An aggregate read where its cells lie. -/
theorem run_loadVar_cells {P : Program} {w : World} {ad : Addr} (ty : TypeId) (d : TypeDesc) (cs : List Value) (hc : ∀ j u, cs[j]? = some u → w.cell? (ad.add j) = some u)
    (hu : P.underlying ty = some d) (hd : (match d with | .struct _ | .array _ _ => true | _ => false) = true) (hi : (P.info? ty).map (·.size) = some cs.length) :
    (loadVar ty ad).run P w = .ok (.agg cs.toArray) w := by
  have hl : (loadCells ad cs.length).run P w = .ok cs.toArray w := run_loadCells_list (P := P) w ad cs hc
  cases hq : P.info? ty with
  | none => simp [hq] at hi
  | some i =>
    have hs : i.size = cs.length := by simpa [hq] using hi
    have hagg : (isAgg ty).run P w = .ok true w := by
      unfold isAgg
      rw [Sem.run_bind, run_underlying hu w]
      cases d <;> simp_all
    simp [loadVar, Sem.run_bind, hagg, sizeOf, typeInfo, hq, hs, hl]

theorem foldl_splice : ∀ (l : List Value) (k off : Nat) (cells : Array Value), off + k + l.length ≤ cells.size → ((l.zipIdx k).foldl (fun cs (x : Value × Nat) => cs.setIfInBounds (off + x.2) x.1) cells) = splice cells (off + k) l
  | [], k, off, cells, _ => by simp [splice]
  | c :: l, k, off, cells, h => by
    simp only [List.length_cons] at h
    rw [List.zipIdx_cons, List.foldl_cons, foldl_splice l (k + 1) off _ (by simp; omega)]
    simp only [splice, Array.toList_setIfInBounds]
    congr 1
    have h1 : (cells.toList.set (off + k) c).take (off + (k + 1)) = cells.toList.take (off + k) ++ [c] := by
      rw [show off + (k + 1) = off + k + 1 by omega, List.take_succ_eq_append_getElem (by simp; omega)]
      simp only [List.take_set, List.getElem_set_self]
      rw [List.set_eq_of_length_le (by simp; omega)]
    have h2 : (cells.toList.set (off + k) c).drop (off + (k + 1) + l.length) = cells.toList.drop (off + k + (l.length + 1)) := by
      rw [List.drop_set_of_lt (by omega)]; congr 1; omega
    rw [h1, h2]; simp
theorem fill_part {place : Nat → Option (Nat × Nat)} {cells : Array Value} {i off : Nat} {v : Value} {rest : List (Nat × Value)} (hp : place i = some (off, v.cells.size)) (hl : off + v.cells.size ≤ cells.size) :
    Instr.fill place cells ((i, v) :: rest) = Instr.fill place (splice cells off v.cells.toList) rest := by
  have e : (v.cells.zipIdx.foldl (fun cs (x : Value × Nat) => cs.setIfInBounds (off + x.2) x.1) cells) = splice cells off v.cells.toList := by
    rw [← Array.foldl_toList, Array.toList_zipIdx]
    exact foldl_splice v.cells.toList 0 off cells (by simpa using hl)
  simp only [Instr.fill, hp]
  rw [if_neg (by simp; omega), e]
theorem splice_all {cur : Array Value} {cs : List Value} (h : cs.length = cur.size) : splice cur 0 cs = cs.toArray := by
  have : List.drop (0 + cs.length) cur.toList = [] := List.drop_eq_nil_of_le (by simp; omega)
  simp only [splice, this]; simp
theorem run_build_struct {P : Program} (w : World) {t : TypeId} {fields : Array Field} {z : Value} {places : Array (Nat × Nat)} {parts : Array (Nat × Value)} {cells : Array Value} (hz : (zeroValue t).run P w = .ok z w) (hu : P.underlying t = some (.struct fields))
    (hp : (fields.mapM fun f => do pure (f.offset, ← sizeOf f.type) : Sem (Array (Nat × Nat))).run P w = .ok places w) (hf : Instr.fill (places[·]?) z.cells parts.toList = some cells) : (Instr.build t parts).run P w = .ok (.agg cells) w := by
  simp only [Instr.build, Sem.run_bind, hz, Result.andThen_ok, run_underlying hu, hp, hf]
  rfl
theorem run_buildSlice1 {P : Program} (w : World) {t elem : TypeId} {v z : Value} {size bytes : Nat} (hu : P.underlying t = some (.slice elem)) (hi : (P.info? elem).map (fun i => (i.zero, i.size, i.bytes)) = some (some z, size, bytes)) (hv : v.cells.size = size) (hs : size ≤ 16777216) (h0 : 0 < size) :
    (Instr.buildSlice t 1 #[(0, v)]).run P w = .ok (.slice (some ⟨w.heap.size, 0, none⟩) 1 1) (w.alloc (.cells v.cells elem)) := by
  obtain ⟨i, hi1, hi2, hi3, hi4⟩ := info_parts hi
  have hf : ∀ (zs : Array Value), Instr.fill (fun i => some (i * size, size)) ((Array.range (1 * size)).map fun k => zs[k % zs.size]!) [(0, v)] = some v.cells := by
    intro zs
    rw [fill_part (off := 0) (by simp [hv]) (by simp [hv])]
    rw [splice_all (by simp [hv])]
    simp [Instr.fill]
  have hn : ¬ (16777216 < size) := by omega
  have hf1 := hf z.cells
  simp only [Nat.one_mul] at hf1
  simp only [Instr.buildSlice, Sem.run_bind, run_underlying hu, sizeOf, typeInfo, zeroValue, Result.andThen_ok, Sem.run_pure, Nat.one_mul]
  simp [hn, Nat.pos_iff_ne_zero.1 h0, hf1, newRow, newObj, hi1, hi2, hi3]
  rfl

theorem wpList_load_cells {P : Program} {ops : Array Oper} {rest : List Oper} {o : Oper} {a : Act} {w : World} {Q : Exit → Act → World → Prop} (hgd : o.guard = none) (ty : TypeId) (x : Operand) (ho : o.op = .load ty x)
    (ad : Addr) (hx : a.eval x = .pointer (some ad)) (d : TypeDesc) (cs : List Value) (hc : ∀ j u, cs[j]? = some u → w.cell? (ad.add j) = some u)
    (hu : P.underlying ty = some d) (hd : (match d with | .struct _ | .array _ _ => true | _ => false) = true) (hi : (P.info? ty).map (·.size) = some cs.length)
    (h : wpList P ops Q rest (a.put o.dst (.agg cs.toArray)) w) : wpList P ops Q (o :: rest) a w :=
  wpList_run hgd (by unfold execOp; simp only [ho, hx, Instr.loadAt, Instr.sureAddr, Sem.run_bind, Sem.run_pure, Result.andThen_ok, run_loadVar_cells ty d cs hc hu hd hi]) h
theorem wpList_build {P : Program} {ops : Array Oper} {rest : List Oper} {o : Oper} {a : Act} {w : World} {Q : Exit → Act → World → Prop} (hgd : o.guard = none) (t : TypeId) (ps : Array (Nat × Operand)) (ho : o.op = .build t ps)
    (vs : Array (Nat × Value)) (hv : (ps.map fun (i, x) => (i, a.eval x)) = vs) (v : Value) (hr : (Instr.build t vs).run P w = .ok v w) (h : wpList P ops Q rest (a.put o.dst v) w) : wpList P ops Q (o :: rest) a w :=
  wpList_run hgd (by unfold execOp; simp only [ho, hv, Sem.run_bind, hr, Result.andThen_ok, Sem.run_pure]) h
theorem wpList_build2 {P : Program} {ops : Array Oper} {rest : List Oper} {o : Oper} {a : Act} {w : World} {Q : Exit → Act → World → Prop} (hgd : o.guard = none) (t : TypeId) (x y : Operand) (k l : Nat) (ho : o.op = .build t #[(k, x), (l, y)])
    (u u' : Value) (hx : a.eval x = u) (hy : a.eval y = u') (v : Value) (hr : (Instr.build t #[(k, u), (l, u')]).run P w = .ok v w) (h : wpList P ops Q rest (a.put o.dst v) w) : wpList P ops Q (o :: rest) a w :=
  wpList_build hgd t _ ho #[(k, u), (l, u')] (by simp [hx, hy]) v hr h
theorem wpList_arrayAt {P : Program} {ops : Array Oper} {rest : List Oper} {o : Oper} {a : Act} {w : World} {Q : Exit → Act → World → Prop} (hgd : o.guard = none) (t e : TypeId) (x : Operand) (ho : o.op = .sliceToArrayPointer t x)
    (n len cap : Nat) (ad : Option Addr) (hx : a.eval x = .slice ad len cap) (hu : P.underlying t = some (.array n e)) (hn : n ≤ len) (h : wpList P ops Q rest (a.put o.dst (.pointer ad)) w) : wpList P ops Q (o :: rest) a w :=
  wpList_run hgd (by unfold execOp; simp only [ho, hx, Sem.run_bind, Instr.arrayAt, run_underlying hu, Result.andThen_ok, if_neg (Nat.not_lt.2 hn), Sem.run_pure]) h
theorem wpList_buildSlice1 {P : Program} {ops : Array Oper} {rest : List Oper} {o : Oper} {a : Act} {w : World} {Q : Exit → Act → World → Prop} (hgd : o.guard = none) (t elem : TypeId) (x : Operand) (ho : o.op = .buildSlice t 1 #[(0, x)])
    (v z : Value) (size bytes : Nat) (hx : a.eval x = v) (hu : P.underlying t = some (.slice elem)) (hi : (P.info? elem).map (fun i => (i.zero, i.size, i.bytes)) = some (some z, size, bytes)) (hv : v.cells.size = size) (hs : size ≤ 16777216) (h0 : 0 < size)
    (h : wpList P ops Q rest (a.put o.dst (.slice (some ⟨w.heap.size, 0, none⟩) 1 1)) (w.alloc (.cells v.cells elem))) : wpList P ops Q (o :: rest) a w :=
  wpList_run hgd (by
    unfold execOp
    have hr := run_buildSlice1 (P := P) w hu hi hv hs h0
    simp only [ho, List.map_toArray, List.map_cons, List.map_nil, hx, Sem.run_bind, hr, Result.andThen_ok, Sem.run_pure]) h
end Go.Proofs.YtnfnaedoejgpiaaDoor
