/- A region that draws its order, walked in one order of the prover's choice: operations that yield one value in every world of a class S are taken when they may come up; the others must come up alone, and keep S until nothing is left. It speaks of no program. -/
import Derived.Test.YtnfnaedoejgpiaaDoorBase2
import Derived.OrdersHeld
namespace Go.Proofs.YtnfnaedoejgpiaaDoor
open Go.RowKit

section
variable {P : Program} {ops : Array Oper} {Q : Exit → Act → World → Prop} {md : Region.Mode} {S : World → Prop}

/-- Operation o waits for operation k, at once or by way of others. -/
def waitsOn (md : Region.Mode) (o : Oper) (k : Nat) : Bool := o.after.any fun e => Region.binds md e && e.on == k
def waitsOnF (md : Region.Mode) (ops : Array Oper) : Nat → Oper → Nat → Bool
  | 0, o, k => waitsOn md o k
  | f + 1, o, k => waitsOn md o k || o.after.any fun e => Region.binds md e && match ops[e.on]? with | some m => waitsOnF md ops f m k | none => false
/-- Operation j waits for all others. -/
def waitsAll (md : Region.Mode) (ops : Array Oper) (j : Nat) : Bool :=
  match ops[j]? with
  | none => false
  | some o => (List.range ops.size).all fun k => k == j || waitsOnF md ops 3 o k
/-- What is listed has had all that it waits for listed. -/
def Closed (md : Region.Mode) (ops : Array Oper) (l : Array Bool) : Prop := ∀ m o, ops[m]? = some o → l.getD m false = true → ∀ e ∈ o.after, Region.binds md e = true → l.getD e.on false = true
theorem Closed.step {l : Array Bool} {j : Nat} (h : Closed md ops l) (hj : j ∈ Region.ready md ops l) : Closed md ops (l.setIfInBounds j true) := by
  intro m o ho hm e he hb
  obtain ⟨hun, oj, hoj, hall⟩ := mem_ready.1 hj
  rcases Decidable.em (j = m) with rfl | hjm
  · rw [hoj] at ho; obtain rfl := Option.some.inj ho
    exact getD_set_true (hall e he hb)
  · rw [getD_set_ne false hjm] at hm
    exact getD_set_true (h m o ho hm e he hb)

theorem waits_listed {l : Array Bool} (hcl : Closed md ops l) : ∀ (f : Nat) (o : Oper) (k : Nat), (∀ e ∈ o.after, Region.binds md e = true → l.getD e.on false = true) → waitsOnF md ops f o k = true → l.getD k false = true
  | 0, o, k, hall, h => by
    obtain ⟨e, he, hb⟩ := Array.any_eq_true'.1 h
    simp only [Bool.and_eq_true, beq_iff_eq] at hb
    rw [← hb.2]; exact hall e he hb.1
  | f + 1, o, k, hall, h => by
    simp only [waitsOnF, Bool.or_eq_true] at h
    rcases h with h | h
    · exact waits_listed hcl 0 o k hall h
    · obtain ⟨e, he, hb⟩ := Array.any_eq_true'.1 h
      simp only [Bool.and_eq_true] at hb
      cases hm : ops[e.on]? with
      | none => rw [hm] at hb; cases hb.2
      | some om =>
        rw [hm] at hb
        exact waits_listed hcl f om k (fun e2 h2 hb2 => hcl e.on om hm (hall e he hb.1) e2 h2 hb2) hb.2

/-- Whatever order is picked, and S holds behind each operation that does not wait for all others. -/
def anyS (P : Program) (md : Region.Mode) (ops : Array Oper) (Q : Exit → Act → World → Prop) (S : World → Prop) : Nat → Array Bool → Act → World → Prop
  | 0, l, a, w => Region.ready md ops l = [] ∧ Q .normal a w
  | f + 1, l, a, w => (Region.ready md ops l = [] → Q .normal a w) ∧ ∀ i ∈ Region.ready md ops l, wpOp P ops Q i (fun a' w' => (waitsAll md ops i = false → S w') ∧ anyS P md ops Q S f (l.setIfInBounds i true) a' w') a w

theorem anyS_any : ∀ (f : Nat) (l : Array Bool) (a : Act) (w : World), anyS P md ops Q S f l a w → wpAny P md ops Q f l a w
  | 0, _, _, _, h => h
  | f + 1, _, _, _, h => ⟨h.1, fun i hi => wpOp_mono (fun a' w' h' => anyS_any f _ a' w' h'.2) (h.2 i hi)⟩

theorem anyS_take {i : Nat} {oi : Oper} {v : Value} (hi : ops[i]? = some oi) (hsel : Region.noSelect ops = true) (hQ : ∀ c a w, Q (.panic c) (a.put oi.dst v) w → Q (.panic c) a w) :
    ∀ (f : Nat) (l : Array Bool) (a : Act) (w : World), Closed md ops l → Region.free md ops l i = true → i ∈ Region.ready md ops l → YieldsIf P ops S oi v a → S w →
      anyS P md ops Q S f (l.setIfInBounds i true) (a.put oi.dst v) w → anyS P md ops Q S (f + 1) l a w := by
  intro f
  have hns := Region.noSelect_spec hsel
  induction f with
  | zero =>
    intro l a w _ _ hr hy hS H
    refine ⟨fun h => (by rw [h] at hr; cases hr), fun j hj => ?_⟩
    rcases Decidable.em (j = i) with rfl | hji
    · exact hy.wpOp hi hS ⟨fun _ => hS, H⟩
    · exact absurd (ready_mono hj hji) (by rw [H.1]; simp)
  | succ f ih =>
    intro l a w hcl hf hr hy hS H
    refine ⟨fun h => (by rw [h] at hr; cases hr), fun j hj => ?_⟩
    rcases Decidable.em (j = i) with rfl | hji
    · exact hy.wpOp hi hS ⟨fun _ => hS, H⟩
    · obtain ⟨hun, oj, hoj, hall⟩ := mem_ready.1 hj
      have hlt : i < l.size := by
        rcases Nat.lt_or_ge i l.size with h | h
        · exact h
        · have := (mem_ready.1 hr).1; simp [Array.getElem?_eq_none h] at this
      have hli : l.getD i false = false := by have := (mem_ready.1 hr).1; simp [hlt] at this ⊢; exact this
      have hno : ∀ e ∈ oj.after, Region.binds md e = true → e.on ≠ i := fun e he hb hq => by
        have := hall e he hb; rw [hq, hli] at this; cases this
      have hap := Region.free_spec hi hf j oj hoj hji hun hno
      refine wpOp_mono (fun a' w' h3 => ?_) (wpOp_putIf hoj hap (fun cs b => hns i oi cs b hi) (fun cs b => hns j oj cs b hoj) hQ hy (H.2 j (ready_mono hj hji)))
      have hr' : i ∈ Region.ready md ops (l.setIfInBounds j true) := ready_mono hr (Ne.symm hji)
      have hf' : Region.free md ops (l.setIfInBounds j true) i = true := by
        have hf2 := hf
        unfold Region.free at hf2 ⊢
        rw [hi] at hf2 ⊢
        simp only [List.all_eq_true] at hf2 ⊢
        intro k hk
        have := hf2 k hk
        rcases Decidable.em (j = k) with rfl | hjk
        · have hb : j < l.size := by
            rcases Nat.lt_or_ge j l.size with h | h
            · exact h
            · simp [Array.getElem?_eq_none h] at hun
          simp [hb]
        · rw [getD_set_ne true hjk]; exact this
      have hw : waitsAll md ops j = false := by
        cases hwa : waitsAll md ops j with
        | false => rfl
        | true =>
          unfold waitsAll at hwa
          rw [hoj] at hwa
          simp only [List.all_eq_true, List.mem_range] at hwa
          have := hwa i (Array.getElem?_eq_some_iff.1 hi).1
          simp only [Bool.or_eq_true, beq_iff_eq, Ne.symm hji, false_or] at this
          have := waits_listed hcl 3 oj i hall this
          rw [hli] at this; cases this
      exact ⟨h3.2.1, ih _ a' w' (hcl.step hj) hf' hr' h3.1 (h3.2.1 hw) (by rw [Array.setIfInBounds_comm _ _ hji]; exact h3.2.2)⟩

/-- The order of the walk: 'take i': it yields one value in every world of S; 'act i': it comes up alone; 'alt i .. j ..': either of two comes up. -/
inductive Ord where
  | done
  | take (i : Nat) (r : Ord)
  | act (i : Nat) (r : Ord)
  | alt (i : Nat) (r : Ord) (j : Nat) (r' : Ord)
def Ord.length : Ord → Nat
  | .done => 0
  | .take _ r => r.length + 1
  | .act _ r => r.length + 1
  | .alt _ r _ r' => max r.length r'.length + 1
def okOrd (md : Region.Mode) (ops : Array Oper) : Ord → Array Bool → Bool
  | .done, l => (Region.ready md ops l).isEmpty
  | .take i r, l => (Region.ready md ops l).contains i && Region.free md ops l i && okOrd md ops r (l.setIfInBounds i true)
  | .act i r, l => Region.ready md ops l == [i] && okOrd md ops r (l.setIfInBounds i true)
  | .alt i r j r', l => Region.ready md ops l == [i, j] && okOrd md ops r (l.setIfInBounds i true) && okOrd md ops r' (l.setIfInBounds j true)
def wpOrd (P : Program) (md : Region.Mode) (ops : Array Oper) (S : World → Prop) (Q : Exit → Act → World → Prop) : Ord → Act → World → Prop
  | .done, a, w => Q .normal a w
  | .take i r, a, w => S w ∧ ∃ o v, ops[i]? = some o ∧ YieldsIf P ops S o v a ∧ wpOrd P md ops S Q r (a.put o.dst v) w
  | .act i r, a, w => wpOp P ops Q i (fun a' w' => (waitsAll md ops i = false → S w') ∧ wpOrd P md ops S Q r a' w') a w
  | .alt i r j r', a, w => wpOp P ops Q i (fun a' w' => (waitsAll md ops i = false → S w') ∧ wpOrd P md ops S Q r a' w') a w ∧ wpOp P ops Q j (fun a' w' => (waitsAll md ops j = false → S w') ∧ wpOrd P md ops S Q r' a' w') a w

theorem anyS_ord (hsel : Region.noSelect ops = true) (hQ : ∀ c (a : Act) d v w, Q (.panic c) (a.put d v) w → Q (.panic c) a w) : ∀ (r : Ord) (f : Nat) (l : Array Bool) (a : Act) (w : World), Closed md ops l → r.length ≤ f → okOrd md ops r l = true → wpOrd P md ops S Q r a w → anyS P md ops Q S f l a w
  | .done, f, l, a, w, _, _, hok, h => by
    have hr : Region.ready md ops l = [] := by simpa [okOrd] using hok
    cases f with
    | zero => exact ⟨hr, h⟩
    | succ f => exact ⟨fun _ => h, by rw [hr]; simp⟩
  | .take i r, 0, l, a, w, _, hf, _, _ => by simp [Ord.length] at hf
  | .act i r, 0, l, a, w, _, hf, _, _ => by simp [Ord.length] at hf
  | .alt i r j r', 0, l, a, w, _, hf, _, _ => by simp [Ord.length] at hf
  | .take i r, f + 1, l, a, w, hcl, hf, hok, h => by
    simp only [okOrd, Bool.and_eq_true] at hok
    obtain ⟨hS, o, v, ho, hy, h⟩ := h
    exact anyS_take ho hsel (fun c a w => hQ c a o.dst v w) f l a w hcl hok.1.2 (by simpa using hok.1.1) hy hS (anyS_ord hsel hQ r f _ _ w (hcl.step (by simpa using hok.1.1)) (by simpa [Ord.length] using hf) hok.2 h)
  | .act i r, f + 1, l, a, w, hcl, hf, hok, h => by
    simp only [okOrd, Bool.and_eq_true, beq_iff_eq] at hok
    refine ⟨fun h0 => absurd h0 (by rw [hok.1]; simp), fun j hj => ?_⟩
    have hj' := hj
    rw [hok.1] at hj
    obtain rfl := List.mem_singleton.1 hj
    exact wpOp_mono (fun a' w' h' => ⟨h'.1, anyS_ord hsel hQ r f _ a' w' (hcl.step hj') (by simpa [Ord.length] using hf) hok.2 h'.2⟩) h
  | .alt i r i' r', f + 1, l, a, w, hcl, hf, hok, h => by
    simp only [okOrd, Bool.and_eq_true, beq_iff_eq] at hok
    simp only [Ord.length] at hf
    refine ⟨fun h0 => absurd h0 (by rw [hok.1.1]; simp), fun j hj => ?_⟩
    have hj' := hj
    rw [hok.1.1] at hj
    rcases List.mem_cons.1 hj with rfl | hj
    · exact wpOp_mono (fun a' w' h' => ⟨h'.1, anyS_ord hsel hQ r f _ a' w' (hcl.step hj') (by omega) hok.1.2 h'.2⟩) h.1
    · obtain rfl := List.mem_singleton.1 hj
      exact wpOp_mono (fun a' w' h' => ⟨h'.1, anyS_ord hsel hQ r' f _ a' w' (hcl.step hj') (by omega) hok.2 h'.2⟩) h.2

/-- THE BEGINNING. -/
theorem wp_region_ord (S : World → Prop) (r : Ord) {id : Nat} {a : Act} {w : World} (hm : P.follows .mixedOrders = true)
    (hok : (Region.noSelect ops && decide (r.length ≤ ops.size) && okOrd .any ops r (Array.replicate ops.size false)) = true) (hQ : ∀ c (a : Act) d v w, Q (.panic c) (a.put d v) w → Q (.panic c) a w)
    (h : wpOrd P .any ops S Q r a w.drew) : (Code.region id ops true).wp P Q a w := by
  simp only [Bool.and_eq_true, decide_eq_true_eq] at hok
  exact wp_region_any hm (anyS_any _ _ _ _ (anyS_ord hok.1.1 hQ r _ _ a w.drew (fun m o ho hm => by simp only [Array.getD_eq_getD_getElem?, Array.getElem?_replicate] at hm; split at hm <;> cases hm) hok.1.2 hok.2 h))

/-- An operation that is carried out, as a list of its own: the laws on lists of operations serve. -/
def stopAt (Q : Exit → Act → World → Prop) (K : Act → World → Prop) : Exit → Act → World → Prop
  | .normal, a, w => K a w
  | e, a, w => Q e a w
theorem wp_stop {o : Oper} {a : Act} {w : World} {K : Act → World → Prop} (h : o.wp P a w K (stopAt Q K)) : o.wp P a w K Q := by
  unfold Oper.wp at *
  generalize (execOp a.eval o).run P w = r at *
  cases r with
  | ok n w' => cases n <;> simp only [Oper.upon] at h ⊢ <;> first | exact h | exact Calls.mono h (fun e w'' he => by cases e <;> exact he)
  | halt x w' => cases x <;> simp only [Oper.upon] at h ⊢ <;> exact h
theorem wpOp_list {i : Nat} {o : Oper} {K : Act → World → Prop} {a : Act} {w : World} (ho : ops[i]? = some o) (h : wpList P ops (stopAt Q K) [o] a w) : wpOp P ops Q i K a w := by
  unfold wpOp
  simp only [ho]
  unfold wpList at h
  split
  · rename_i hw
    rw [if_pos hw] at h
    rcases h with h | h
    · exact .inl (wp_stop h)
    · exact .inr h
  · rename_i hw
    rw [if_neg hw] at h
    exact h
theorem ord_act {i : Nat} {o : Oper} {r : Ord} {a : Act} {w : World} (ho : ops[i]? = some o)
    (h : wpList P ops (stopAt Q (fun a' w' => (waitsAll md ops i = false → S w') ∧ wpOrd P md ops S Q r a' w')) [o] a w) : wpOrd P md ops S Q (.act i r) a w := wpOp_list ho h
theorem ord_alt {i j : Nat} {o o' : Oper} {r r' : Ord} {a : Act} {w : World} (ho : ops[i]? = some o) (ho' : ops[j]? = some o')
    (h : wpList P ops (stopAt Q (fun a' w' => (waitsAll md ops i = false → S w') ∧ wpOrd P md ops S Q r a' w')) [o] a w)
    (h' : wpList P ops (stopAt Q (fun a' w' => (waitsAll md ops j = false → S w') ∧ wpOrd P md ops S Q r' a' w')) [o'] a w) : wpOrd P md ops S Q (.alt i r j r') a w := ⟨wpOp_list ho h, wpOp_list ho' h'⟩
theorem ord_take {i : Nat} {o : Oper} {v : Value} {r : Ord} {a : Act} {w : World} (ho : ops[i]? = some o) (hg : o.guard = none) (hS : S w) (hy : ∀ w, S w → (execOp a.eval o).run P w = .ok (.value v) w)
    (h : wpOrd P md ops S Q r (a.put o.dst v) w) : wpOrd P md ops S Q (.take i r) a w :=
  ⟨hS, o, v, ho, .inl ⟨by simp [Region.wanted, hg], hy⟩, h⟩
theorem ord_move {i : Nat} {o : Oper} {x : Operand} {r : Ord} {a : Act} {w : World} (ho : ops[i]? = some o) (hg : o.guard = none) (hx : o.op = .move x ∨ o.op = .assign x) (hS : S w)
    (h : wpOrd P md ops S Q r (a.put o.dst (a.eval x)) w) : wpOrd P md ops S Q (.take i r) a w :=
  ord_take ho hg hS (fun w _ => by rcases hx with hx | hx; exact BigFrame.run_move x hx w; exact BigFrame.run_assign x hx w) h
theorem ord_load_blk {i : Nat} {o : Oper} {r : Ord} {a : Act} {w : World} (ho : ops[i]? = some o) (hg : o.guard = none) {ty : TypeId} {x : Operand} (hx : o.op = .load ty x)
    (b off : Nat) (hx' : a.eval x = .pointer (some ⟨b, off, none⟩)) (cur : Array Value) (t : TypeId) (hb : ∀ w, S w → Blk w b cur t) (d : TypeDesc) (cs : List Value) (hc : ∀ j u, cs[j]? = some u → cur[off + j]? = some u)
    (hu : P.underlying ty = some d) (hd : (match d with | .struct _ | .array _ _ => true | _ => false) = true) (hi : (P.info? ty).map (·.size) = some cs.length) (hS : S w)
    (h : wpOrd P md ops S Q r (a.put o.dst (.agg cs.toArray)) w) : wpOrd P md ops S Q (.take i r) a w :=
  ord_take ho hg hS (fun w hw => by
    unfold execOp
    simp only [hx, hx', Instr.loadAt, Instr.sureAddr, Sem.run_bind, Sem.run_pure, Result.andThen_ok, run_loadVar_blk (hb w hw) ty d cs hc hu hd hi]) h

theorem eval_put_same {a : Act} {d : Tmp} {v : Value} (h : d < a.tmps.size) : (a.put (some d) v).eval (.tmp d) = v := by
  simp [Act.put, Act.eval, h]
theorem size_put (a : Act) (d : Option Tmp) (v : Value) : (a.put d v).tmps.size = a.tmps.size := by cases d <;> simp [Act.put]
/-- A field read through a pointer: move, nilCheck, fieldAddr, load, one behind the other. -/
theorem ord_get {i : Nat} {t0 t1 t2 : Tmp} {d3 : Option Tmp} {x : Operand} {T k ty : Nat} {y0 y1 y2 y3 : TypeId} {p0 p1 p2 p3 : String} {e0 e1 e2 e3 : Array Edge} {r : Ord} {a : Act} {w : World} (b o o' : Nat) (v : Value)
    (ho : (ops[i]?, ops[i + 1]?, ops[i + 2]?, ops[i + 3]?) = (some ⟨some t0, .move x, y0, p0, e0, none⟩, some ⟨some t1, .nilCheck (.tmp t0), y1, p1, e1, none⟩, some ⟨some t2, .fieldAddr T (.tmp t1) k, y2, p2, e2, none⟩, some ⟨d3, .load ty (.tmp t2), y3, p3, e3, none⟩))
    (hsz : (decide (t0 < a.tmps.size) && decide (t1 < a.tmps.size) && decide (t2 < a.tmps.size)) = true) (hx : a.eval x = .pointer (some ⟨b, o, none⟩)) (hS : S w)
    (hf : ∀ w, (Instr.fieldAt T (.pointer (some ⟨b, o, none⟩)) k).run P w = .ok (.pointer (some ⟨b, o', none⟩)) w) (hl : ∀ w, S w → (loadVar ty ⟨b, o', none⟩).run P w = .ok v w)
    (h : wpOrd P md ops S Q r ((((a.put (some t0) (.pointer (some ⟨b, o, none⟩))).put (some t1) (.pointer (some ⟨b, o, none⟩))).put (some t2) (.pointer (some ⟨b, o', none⟩))).put d3 v) w) :
    wpOrd P md ops S Q (.take i (.take (i + 1) (.take (i + 2) (.take (i + 3) r)))) a w := by
  simp only [Prod.mk.injEq] at ho
  obtain ⟨h0, h1, h2, h3⟩ := ho
  simp only [Bool.and_eq_true, decide_eq_true_eq] at hsz
  obtain ⟨⟨s0, s1⟩, s2⟩ := hsz
  refine ord_move h0 rfl (.inl rfl) hS ?_
  rw [hx]
  refine ord_take (v := .pointer (some ⟨b, o, none⟩)) h1 rfl hS (fun w _ => ?_) ?_
  · unfold execOp; dsimp only; rw [eval_put_same s0]; simp [go_sem]
  refine ord_take (v := .pointer (some ⟨b, o', none⟩)) h2 rfl hS (fun w _ => ?_) ?_
  · unfold execOp
    dsimp only
    rw [eval_put_same (by rw [size_put]; exact s1)]
    simp [hf, Result.andThen]
  refine ord_take (v := v) h3 rfl hS (fun w hw => ?_) h
  unfold execOp
  dsimp only
  rw [eval_put_same (by rw [size_put, size_put]; exact s2)]
  simp [Instr.loadAt, Instr.sureAddr, hl w hw, Result.andThen]
/-- The address of a field, of an element; a nil check. -/
theorem ord_field {i : Nat} {o : Oper} {r : Ord} {a : Act} {w : World} (ho : ops[i]? = some o) (hg : o.guard = none) {T k : Nat} {x : Operand} (hx : o.op = .fieldAddr T x k) (v v' : Value) (he : a.eval x = v) (hS : S w)
    (hf : ∀ w, (Instr.fieldAt T v k).run P w = .ok v' w) (h : wpOrd P md ops S Q r (a.put o.dst v') w) : wpOrd P md ops S Q (.take i r) a w :=
  ord_take ho hg hS (fun w _ => by unfold execOp; simp only [hx, he, Sem.run_bind, hf, Result.andThen_ok, Sem.run_pure]) h
theorem ord_index {i : Nat} {o : Oper} {r : Ord} {a : Act} {w : World} (ho : ops[i]? = some o) (hg : o.guard = none) {T : Nat} {x y : Operand} (hx : o.op = .indexAddr T x y) (v u v' : Value) (he : a.eval x = v) (hy : a.eval y = u) (hS : S w)
    (hf : ∀ w, (Instr.indexAt T v u).run P w = .ok v' w) (h : wpOrd P md ops S Q r (a.put o.dst v') w) : wpOrd P md ops S Q (.take i r) a w :=
  ord_take ho hg hS (fun w _ => by unfold execOp; simp only [hx, he, hy, Sem.run_bind, hf, Result.andThen_ok, Sem.run_pure]) h
theorem ord_nil {i : Nat} {o : Oper} {r : Ord} {a : Act} {w : World} (ho : ops[i]? = some o) (hg : o.guard = none) {x : Operand} (hx : o.op = .nilCheck x) (ad : Addr) (he : a.eval x = .pointer (some ad)) (hS : S w)
    (h : wpOrd P md ops S Q r (a.put o.dst (.pointer (some ad))) w) : wpOrd P md ops S Q (.take i r) a w :=
  ord_take ho hg hS (fun w _ => by unfold execOp; simp only [hx, he]; simp [go_sem]) h
theorem ord_mov {i : Nat} {o : Oper} {x : Operand} {r : Ord} {a : Act} {w : World} (v : Value) (ho : ops[i]? = some o) (hg : o.guard = none) (hx : o.op = .move x ∨ o.op = .assign x) (hv : a.eval x = v) (hS : S w)
    (h : wpOrd P md ops S Q r (a.put o.dst v) w) : wpOrd P md ops S Q (.take i r) a w := by subst hv; exact ord_move ho hg hx hS h
end
section
variable {P : Program} {md : Region.Mode} {ops : Array Oper} {S : World → Prop} {Q : Exit → Act → World → Prop}
theorem ord_ex {i : Nat} {o : Oper} {r : Ord} {a : Act} {w : World} (ho : ops[i]? = some o) (hg : o.guard = none) (hS : S w)
    (h : ∃ v, (∀ w, S w → (execOp a.eval o).run P w = .ok (.value v) w) ∧ wpOrd P md ops S Q r (a.put o.dst v) w) : wpOrd P md ops S Q (.take i r) a w := by
  obtain ⟨v, h1, h2⟩ := h
  exact ord_take ho hg hS h1 h2
end
end Go.Proofs.YtnfnaedoejgpiaaDoor
