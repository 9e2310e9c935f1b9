/- The reference's row of 64 words of a block. -/
import Derived.Test.YtnfnaedoejgpiaaDoorHex
import Derived.Test.YtnfnaedoejgpiaaDoorSha2
import Derived.Test.YtnfnaedoejgpiaaDoorHeld
import Derived.Deep.DeepCutAuto
namespace Go.Proofs.YtnfnaedoejgpiaaDoor
open Go.RowKit

/-- The i-th word of a block, its greatest byte first. -/
def be32 (b : List UInt8) (i : Nat) : BitVec 32 := BitVec.ofNat 32 (hexN (fun j => if j % 2 = 0 then (b.getD (4 * i + 3 - j / 2) 0).toNat % 16 else (b.getD (4 * i + 3 - j / 2) 0).toNat / 16) 8)
theorem be32_bit (b : List UInt8) (i k : Nat) (hk : k < 32) : (be32 b i).getLsbD k = decide ((b.getD (4 * i + 3 - k / 8) 0).toNat / 2 ^ (k % 8) % 2 = 1) := by
  have hf : ∀ j, (fun j => if j % 2 = 0 then (b.getD (4 * i + 3 - j / 2) 0).toNat % 16 else (b.getD (4 * i + 3 - j / 2) 0).toNat / 16) j < 16 := by
    intro j; dsimp only
    have := (b.getD (4 * i + 3 - j / 2) 0).toNat_lt
    split <;> omega
  have h := hex_bit hf (i := k / 4) (k := k % 4) (by omega) (by omega)
  have e : 4 * (k / 4) + k % 4 = k := by omega
  rw [e] at h
  unfold be32
  rw [h]
  have e2 : k / 4 / 2 = k / 8 := by omega
  rw [e2]
  generalize (b.getD (4 * i + 3 - k / 8) 0).toNat = c
  have hk8 : k % 8 = if k / 4 % 2 = 0 then k % 4 else 4 + k % 4 := by split <;> omega
  rw [hk8]
  have h4 : k % 4 = 0 ∨ k % 4 = 1 ∨ k % 4 = 2 ∨ k % 4 = 3 := by omega
  split
  · rcases h4 with h4 | h4 | h4 | h4 <;> rw [h4] <;> simp <;> omega
  · rcases h4 with h4 | h4 | h4 | h4 <;> rw [h4] <;> simp <;> omega
theorem bit_test (c j : Nat) : (((c : Int) / 2 ^ j).tmod 2 == 1) = decide (c / 2 ^ j % 2 = 1) := by
  have e : ((c : Int) / 2 ^ j) = ((c / 2 ^ j : Nat) : Int) := by push_cast; rfl
  rw [e, Int.tmod_eq_emod_of_nonneg (Int.natCast_nonneg _)]
  generalize c / 2 ^ j = d at *
  clear e
  by_cases h : d % 2 = 1
  · simp only [h, decide_true, beq_iff_eq]; omega
  · simp only [h, decide_false, beq_eq_false_iff_ne]; omega
def sig0 (a : BitVec 32) : BitVec 32 := rightB a 7 true ^^^ rightB a 18 true ^^^ rightB a 3 false
def sig1 (a : BitVec 32) : BitVec 32 := rightB a 17 true ^^^ rightB a 19 true ^^^ rightB a 10 false
/-- The first n words of a block's row. -/
def rowTo (b : List UInt8) : Nat → List (BitVec 32)
  | 0 => []
  | n + 1 => rowTo b n ++ [if n < 16 then be32 b n else (rowTo b n).getD (n - 16) 0 + sig0 ((rowTo b n).getD (n - 15) 0) + (rowTo b n).getD (n - 7) 0 + sig1 ((rowTo b n).getD (n - 2) 0)]
theorem rowTo_len (b : List UInt8) (n : Nat) : (rowTo b n).length = n := by
  induction n with
  | zero => rfl
  | succ n ih => simp [rowTo, ih]
/-- Words as the cells of a slice of them. -/
def bitRow (l : List (BitVec 32)) : List Value := l.flatMap fun x => (bitArr x).toList
theorem bitRow_snoc (l : List (BitVec 32)) (x : BitVec 32) : bitRow (l ++ [x]) = bitRow l ++ (bitArr x).toList := by simp [bitRow]
theorem bitRow_one (l : List (BitVec 32)) : ∀ u ∈ bitRow l, u.oneCell' = true := by
  intro u hu
  simp only [bitRow, List.mem_flatMap] at hu
  obtain ⟨x, _, hx⟩ := hu
  exact List.all_eq_true.1 (bit_one x) u hx
theorem bitRow_len (l : List (BitVec 32)) : (bitRow l).length = l.length * 32 := by
  induction l with
  | nil => rfl
  | cons x l ih => simp only [bitRow, List.flatMap_cons, List.length_append, Array.length_toList, bit_size, List.length_cons] at ih ⊢; omega
theorem bitRow_at {l : List (BitVec 32)} {i : Nat} (hi : i < l.length) : ∀ j u, (bitArr (l.getD i 0)).toList[j]? = some u → (bitRow l)[i * 32 + j]? = some u := by
  induction l generalizing i with
  | nil => simp at hi
  | cons x l ih =>
    intro j u hj
    have hjl : j < 32 := by have := (List.getElem?_eq_some_iff.1 hj).1; simpa [bit_size] using this
    have hx : (bitArr x).toList.length = 32 := by simp [bit_size]
    cases i with
    | zero =>
      simp only [List.getD_cons_zero] at hj
      simp only [bitRow, List.flatMap_cons, Nat.zero_mul, Nat.zero_add]
      rw [List.getElem?_append_left (by omega)]; exact hj
    | succ i =>
      simp only [List.getD_cons_succ] at hj
      have e : (i + 1) * 32 + j = (bitArr x).toList.length + (i * 32 + j) := by rw [hx]; omega
      simp only [bitRow, List.flatMap_cons]
      rw [e, List.getElem?_append_right (by omega), Nat.add_sub_cancel_left]
      exact ih (by simpa using hi) j u hj
theorem info_bits : (Tryd.prog.info? 110).map (fun i => (i.zero, i.size, i.bytes)) = some (some (.agg (bitArr 0)), 32, 32) := by kernel_rfl
/-- A slice of words of the call's own. -/
def WordsAt (w : World) (B : Nat) (v : Value) (l : List (BitVec 32)) : Prop := w.ownsRow B 110 32 v l.length (bitRow l)
theorem own_blkn {w : World} {base e n s : Nat} {v : Value} {xs : List Value} (h : w.ownsRow base e s v n xs) (hn : 0 < n) (hs : 0 < s) : ∃ (g c : Nat) (cur : Array Value), v = .slice (some ⟨g, 0, none⟩) n c ∧ n ≤ c ∧ Blk w g cur e ∧ base ≤ g ∧ ∀ (i : Nat) (u : Value), xs[i]? = some u → cur[i]? = some u := by
  rcases h.2 with ⟨rfl, rfl⟩ | ⟨g, cap, cur, rfl, hb, hh, hn', hm, hss, ht⟩
  · have := h.1; simp at this; omega
  · refine ⟨g, cap, cur, rfl, hn', hh, hb, fun i u hi => ?_⟩
    rw [← ht, List.getElem?_take] at hi
    split at hi
    · simpa using hi
    · cases hi
theorem WordsAt.blk {w : World} {B : Nat} {v : Value} {l : List (BitVec 32)} (h : WordsAt w B v l) (hn : 0 < l.length) : ∃ g c cur, v = .slice (some ⟨g, 0, none⟩) l.length c ∧ l.length ≤ c ∧ Blk w g cur 110 ∧ B ≤ g ∧ ∀ i, i < l.length → ∀ j u, (bitArr (l.getD i 0)).toList[j]? = some u → cur[i * 32 + j]? = some u := by
  obtain ⟨g, c, cur, h1, h2, h3, h4, h5⟩ := own_blkn h hn (by decide)
  exact ⟨g, c, cur, h1, h2, h3, h4, fun i hi j u hj => h5 _ _ (bitRow_at hi j u hj)⟩
theorem WordsAt.upd0 {w w' : World} {B : Nat} {v : Value} {l : List (BitVec 32)} (h : WordsAt w B v l) (hu : Upd [] w w') : WordsAt w' B v l := own_upd h hu (by simp)
theorem run_alloc_bits (w : World) : (Instr.alloc 110 true (.tuple #[])).run Tryd.prog w = .ok (.pointer (some ⟨w.heap.size, 0, none⟩)) (w.alloc (.cells (bitArr 0) 110)) := by kernel_rfl
theorem wpList_alloc_bits {ops : Array Oper} {rest : List Oper} {o : Oper} {a : Act} {w : World} {Q : Exit → Act → World → Prop} (hgd : o.guard = none) (ho : o.op = .alloc 110)
    (h : ∀ (g : Nat) (w' : World), Blk w' g (bitArr 0) 110 → Upd [] w w' → w.heap.size ≤ g → wpList Tryd.prog ops Q rest (a.put o.dst (.pointer (some ⟨g, 0, none⟩))) w') : wpList Tryd.prog ops Q (o :: rest) a w := by
  refine wpList_run hgd (v := .pointer (some ⟨w.heap.size, 0, none⟩)) (w' := w.alloc (.cells (bitArr 0) 110)) ?_ (h w.heap.size _ (Blk.newAt rfl _ _) ((Upd.refl [] w).alloc _) (Nat.le_refl _))
  unfold execOp
  rw [ho]
  simp only [Sem.run_bind, run_alloc_bits, Result.andThen_ok, Sem.run_pure]
/-- An append leaves the cells of the old slice as they were. -/
theorem wpList_app_old {P : Program} (w : World) {ops : Array Oper} {rest : List Oper} {o : Oper} {a : Act} {Q : Exit → Act → World → Prop} (hgd : o.guard = none) (s x : Operand) (t : TypeId)
    (ho : o.op = .call { callee := .builtin .append, args := #[s, x], argTypes := #[t, t] })
    (base : Nat) (e : TypeId) (z : Value) (size bytes : Nat) (ht : P.underlying t = some (.slice e)) (hi : (P.info? e).map (fun i => (i.zero, i.size, i.bytes)) = some (some z, size, bytes)) (hzs : z.cells.size = size) (hsz : 0 < size)
    (v : Value) (n : Nat) (xs : List Value) (hs : a.eval s = v) (hown : w.ownsRow base e size v n xs) (xv : Value) (m : Nat) (news : List Value) (hxv : a.eval x = xv) (hx : Sl w xv m size news) (h1 : ∀ u ∈ news, u.oneCell' = true)
    (hbytes : (n + m) * bytes ≤ 140737488355328) (hb1 : 1 ≤ bytes) (hbase : base ≤ w.heap.size) (hm0 : 0 < m)
    (h : ∀ ao c w', Apped base e size v n m xs news w (.slice ao (n + m) c) w' → w'.ownsRow base e size v n xs → wpList P ops Q rest (a.put o.dst (.slice ao (n + m) c)) w') : wpList P ops Q (o :: rest) a w := by
  obtain ⟨i, hi1, hi2, hi3, hi4⟩ := info_parts hi
  refine wpList_plain hgd fun K hK => ?_
  obtain ⟨v', w', hr, h2, h3, h4, h5⟩ := run_app (P := P) w base t o.type e i z size bytes ht hi1 hi2 hi3 hi4 hzs hsz v n xs hown xv m news hx h1 hbytes hb1 hbase
  have hold : w'.ownsRow base e size v n xs := by
    refine ⟨hown.1, ?_⟩
    obtain ⟨xo, c, rfl, hmc, hcm, hl, hn0, hA⟩ := hx
    obtain ⟨b, off, hbo, -, hc⟩ := hA (by omega)
    subst hbo
    have hnews : ∀ j u, news[j]? = some u → w.cell? ((⟨b, off, none⟩ : Addr).add j) = some u := fun j u hu => by rw [Addr.add_lit]; exact hc j u hu
    subst hi3; subst hi4
    have hnm : n + m ≤ 140737488355328 := Nat.le_trans (Nat.le_mul_of_pos_right _ hb1) hbytes
    rcases hown.2 with hz | ⟨g, cap, cur, rfl, hbg, hg, hnc, hcm', hcs, htake⟩
    · exact .inl hz
    · right
      by_cases hroom : n + m ≤ cap
      · have hr2 := run_append_room (P := P) w t o.type e i ht hi1 g n cap cur hg ⟨b, off, none⟩ m c news hl hnews h1 hroom (by rw [hl, hcs, ← Nat.add_mul]; exact Nat.mul_le_mul_right _ hroom)
        have := hr.symm.trans hr2
        simp only [Result.ok.injEq] at this
        rw [this.2]
        refine ⟨g, cap, _, rfl, hbg, setRow_heap w g cur _ e _ hg, hnc, hcm', ?_, ?_⟩
        · have hfit : n * i.size + news.length ≤ cur.size := by rw [hl, hcs, ← Nat.add_mul]; exact Nat.mul_le_mul_right _ hroom
          simp only [List.size_toArray, List.length_append, List.length_take, List.length_drop, Array.length_toList]
          omega
        · rw [htake, List.append_assoc, ← hown.1]
          exact List.take_left
      · have hr2 := run_append_grow (P := P) w t o.type e i z ht hi1 hi2 ⟨g, 0, none⟩ n cap xs hown.1 (hown.cells (g := g) rfl) ⟨b, off, none⟩ m c news hl hnews (by omega) (by omega) (growslice_fits (by omega) hbytes)
        have := hr.symm.trans hr2
        simp only [Result.ok.injEq] at this
        rw [this.2]
        refine ⟨g, cap, cur, rfl, hbg, ?_, hnc, hcm', hcs, htake⟩
        have hgl : g < w.drew.heap.size := (Array.getElem?_eq_some_iff.1 hg).1
        exact (heap_alloc_old w.drew _ hgl).trans hg
  unfold Oper.wp execOp
  simp only [ho, resolve, invoke, builtin, Sem.run_bind, Sem.run_pure, Result.andThen_ok, List.map_toArray, List.map_cons, List.map_nil, hs, hxv, hr]
  obtain ⟨ao, c, rfl, -⟩ := own_sl h2
  exact hK _ _ (h ao c w' ⟨h2, Upd.ofGrown h3, h4, h5⟩ hold)
section
variable {P : Program} {md : Region.Mode} {ops : Array Oper} {S : World → Prop} {Q : Exit → Act → World → Prop}
/-- A load of an aggregate from a block of which each world of the class knows the place alone. -/
theorem ord_load_at {i : Nat} {o : Oper} {r : Ord} {a : Act} {w : World} (ho : ops[i]? = some o) (hg : o.guard = none) {ty : TypeId} {x : Operand} (hx : o.op = .load ty x)
    (b off : Nat) (hx' : a.eval x = .pointer (some ⟨b, off, none⟩)) (t : TypeId) (d : TypeDesc) (cs : List Value) (hb : ∀ w, S w → ∃ cur, Blk w b cur t ∧ ∀ j u, cs[j]? = some u → cur[off + j]? = some u)
    (hu : P.underlying ty = some d) (hd : (match d with | .struct _ | .array _ _ => true | _ => false) = true) (hi : (P.info? ty).map (·.size) = some cs.length) (hS : S w)
    (h : wpOrd P md ops S Q r (a.put o.dst (.agg cs.toArray)) w) : wpOrd P md ops S Q (.take i r) a w :=
  ord_take ho hg hS (fun w hw => by
    obtain ⟨cur, hbw, hc⟩ := hb w hw
    unfold execOp
    simp only [hx, hx', Instr.loadAt, Instr.sureAddr, Sem.run_bind, Sem.run_pure, Result.andThen_ok, run_loadVar_blk hbw ty d cs hc hu hd hi]) h
end
def RelRow1 (w : World) (b : List UInt8) (v i : Value) (wr : World) : Prop := ∃ n, n ≤ 16 ∧ i = .int .i64 (n : Nat) ∧ (∃ ao c, v = .slice ao n c) ∧ WordsAt wr w.heap.size v (rowTo b n) ∧ Upd [] w wr
def RelRow1b (w wo : World) (g : Nat) (x : BitVec 32) (i : Value) (wr : World) : Prop := ∃ k : Nat, k ≤ 32 ∧ i = .int .i64 k ∧ Blk wr g (halfArr x k) 110 ∧ Upd [g] wo wr
def RelRow2 (w : World) (b : List UInt8) (v i : Value) (wr : World) : Prop := ∃ n, 16 ≤ n ∧ n ≤ 64 ∧ i = .int .i64 (n : Nat) ∧ (∃ ao c, v = .slice ao n c) ∧ WordsAt wr w.heap.size v (rowTo b n) ∧ Upd [] w wr
def RowPost (W : World) (b : List UInt8) (e : Ending) (w : World) : Prop := ∃ ao c, e = .returned (.slice ao 64 c) ∧ WordsAt w W.heap.size (.slice ao 64 c) (rowTo b 64) ∧ Upd [] W w
set_option maxRecDepth 4000 in
set_option maxHeartbeats 8000000 in
theorem row_any (w : World) (bo : Option Addr) (n c : Nat) (b : List UInt8) (hb : Bytes w (.slice bo n c) b) (hbl : b.length = 64) :
    Calls Tryd.prog 68 #[.slice bo n c] w (RowPost w b) := by
  have hbn : n = 64 := by obtain ⟨_, _, hv, _⟩ := hb; simp only [Value.slice.injEq] at hv; omega
  subst hbn
  obtain ⟨bb, o, rfl, hbb, hcell⟩ := Sl.addr (m := 64) (by have := hb; unfold Bytes at this; rw [hbl] at this; exact this) (by decide)
  have HS := Lib.hid (And.intro hb (And.intro hbl (And.intro hbb hcell)))
  clear hb hbl hbb hcell
  go_enter Tryd.func68, Tryd.ntmps68
  go_wp2_with fail
  go_loopw [3, 4] (RelRow1 w b) (fun _ i _ => (16 - intOf i).toNat)
  case atStart => exact ⟨0, by omega, rfl, ⟨none, 0, rfl⟩, World.ownsRow_nil _ _ _ _, Upd.refl _ _⟩
  case round =>
    obtain ⟨i, hi, rfl, ⟨vo, vc, rfl⟩, hw, hu⟩ := hrel
    have HX := Lib.hid (And.intro hw hu)
    clear hw hu
    rcases Nat.lt_or_ge i 16 with hlt | hge
    · obtain ⟨wr1, hwr1⟩ : ∃ x : World, x = wr := ⟨_, rfl⟩
      subst hwr1
      go_wp2_with fail
      obtain ⟨g, hg⟩ : ∃ g, wr1.heap.size = g := ⟨_, rfl⟩
      obtain ⟨w2, hw2⟩ : ∃ w2, wr1.alloc (.cells (bitArr 0) 110) = w2 := ⟨_, rfl⟩
      have hw2' : wr1.alloc (.cells #[.bool false, .bool false, .bool false, .bool false, .bool false, .bool false, .bool false, .bool false, .bool false, .bool false, .bool false, .bool false, .bool false, .bool false, .bool false, .bool false, .bool false, .bool false, .bool false, .bool false, .bool false, .bool false, .bool false, .bool false, .bool false, .bool false, .bool false, .bool false, .bool false, .bool false, .bool false, .bool false] 110) = w2 := hw2
      have b2 : Blk w2 g (bitArr 0) 110 := by rw [← hw2]; exact Blk.newAt hg.symm _ _
      have u2 : Upd [] wr1 w2 := by rw [← hw2]; exact (Upd.refl [] wr1).alloc _
      rw [hw2', hg]
      obtain ⟨x, hx⟩ : ∃ x, be32 b i = x := ⟨_, rfl⟩
      have H2 := Lib.hid (And.intro b2 (And.intro u2 (And.intro hx hg)))
      clear b2 u2 hw2 hw2' hx hg
      obtain ⟨wo, hwo⟩ : ∃ wo : World, wo = w2 := ⟨_, rfl⟩
      subst hwo
      go_loopw [6] (RelRow1b w wo g x) (fun k _ => (32 - intOf k).toNat)
      case atStart => exact ⟨0, by omega, rfl, by rw [half_zero]; exact H2.out.1, Upd.refl _ _⟩
      case round =>
        obtain ⟨k, hk, rfl, hb2, hu2⟩ := hrel
        rcases Nat.lt_or_ge k 32 with hk32 | hk32
        · obtain ⟨m, hm⟩ : ∃ m, 4 * i + 3 - k / 8 = m := ⟨_, rfl⟩
          have hm64 : m < 64 := by omega
          have hgw : w.heap.size ≤ g := by have := HX.out.2.size; have := H2.out.2.2.2; omega
          have hcb : wr.cell? ⟨bb, o + m, none⟩ = some (.int .u8 ((b.getD m 0).toNat : Int)) := by
            have h1 := HS.out.2.2.2 m (bv (b.getD m 0)) (by
              have : m < b.length := by have := HS.out.2.1; omega
              rw [List.getElem?_map, List.getD_eq_getElem?_getD, List.getElem?_eq_getElem this]; rfl)
            have hU : Upd [g] w wr := ((HX.out.2.trans H2.out.2.1 (by simp)).more (T := [g]) (by simp)).trans hu2 (by simp)
            exact cell_upd h1 HS.out.2.2.1 hU (by have := HS.out.2.2.1; simp; omega)
          have f3 := hb2.frozen k
          obtain ⟨v3, c3⟩ : ∃ v, wr.cell? ⟨g, k, none⟩ = some v := ⟨_, hb2.cell (half_at hk32)⟩
          have hbit := be32_bit b i k hk32
          rw [H2.out.2.2.1, hm] at hbit
          have hcl := (b.getD m 0).toNat_lt
          generalize (b.getD m 0).toNat = cc at *
          have hset : ∀ u : Bool, u = x.getLsbD k → Blk (wr.setCell ⟨g, k, none⟩ (.bool u)) g (halfArr x (k + 1)) 110 := fun u hu => by rw [← half_set hk32 hu]; exact hb2.set k _
          have hus : ∀ u : Bool, Upd [g] wo (wr.setCell ⟨g, k, none⟩ (.bool u)) := fun u => upd_set hu2 (b := g) (i := k) (.inl (by simp)) _
          rw [hbit] at hset
          have HK := Lib.hid (And.intro hset hus)
          have hmi : 4 * (i : Int) + 3 - (k : Int) / 8 = (m : Int) := by omega
          clear hset hus hbit hb2 hu2
          go_wp2
          go_roundw
          case rel => exact ⟨k + 1, by omega, by go_num, HK.out.1 _ (bit_test cc (k % 8)), HK.out.2 _⟩
          case measure => simp [intOf]; omega
        · obtain rfl : k = 32 := by omega
          rw [half_all] at hb2
          have hgw : w.heap.size ≤ g := by have := HX.out.2.size; have := H2.out.2.2.2; omega
          have hU : Upd [] w wr := (HX.out.2.trans H2.out.2.1 (by simp)).trans hu2 (by simp; omega)
          have hug : Upd [g] wr1 wr := (H2.out.2.1.more (T := [g]) (by simp)).trans hu2 (by simp)
          have hg1 := H2.out.2.2.2
          have hW : WordsAt wr w.heap.size (.slice vo i vc) (rowTo b i) := own_upd HX.out.1 hug (by
            have := (own_lt HX.out.1).1
            simp; omega)
          have hld : (Tryd.prog.info? 110).map (·.size) = some (bitArr x).toList.length := by rw [size_bits]; simp [bit_size]
          have hwA := hW.upd0 ((Upd.refl [] wr).alloc (.cells (bitArr x) 110))
          have hbl := rowTo_len b i
          unfold WordsAt at hwA
          rw [hbl] at hwA
          have hsl : Sl (wr.alloc (.cells (bitArr x) 110)) (.slice (some ⟨wr.heap.size, 0, none⟩) 1 1) 1 32 (bitArr x).toList := Sl.ofBlk (Blk.new wr _ _) (by simp [bit_size]) (by unfold maxLen; omega)
          have hsz := hU.size
          have hone : ∀ u ∈ (bitArr x).toList, u.oneCell' = true := List.all_eq_true.1 (bit_one x)
          have hby : (i + 1) * 32 ≤ 140737488355328 := by omega
          have hbase : w.heap.size ≤ (wr.alloc (.cells (bitArr x) 110)).heap.size := by simp; omega
          have hz0 : (Value.agg (bitArr 0)).cells.size = 32 := bit_size 0
          have hzx : (Value.agg (bitArr x)).cells.size = 32 := bit_size x
          have HB := Lib.hid (And.intro hb2 (And.intro hU (And.intro hld (And.intro hwA (And.intro hsl (And.intro hsz (And.intro hone (And.intro hby (And.intro hbase (And.intro hz0 hzx))))))))))
          clear hb2 hu2 hgw hU hug hW hld hwA hsl hsz hg1 hbl hone hby hbase hz0 hzx
          go_wp2_with (first | (with_reducible refine wpList_load_blk (o := ⟨some 38, _, _, _, _, _⟩) rfl 110 (.tmp 5) rfl (b := g) 0 rfl HB.out.1 _ (bitArr x).toList (fun j u hj => by rw [Nat.zero_add]; simpa using hj) Tryd.underlying110 rfl HB.out.2.2.1 ?_) | (with_reducible refine wpList_buildSlice1 (o := ⟨some 39, _, _, _, _, _⟩) rfl 120 110 (.tmp 38) rfl (.agg (bitArr x)) _ 32 32 rfl Tryd.underlying120 info_bits HB.out.2.2.2.2.2.2.2.2.2.2 (by decide) (by decide) ?_) | (at_builtin; refine wpList_app _ rfl (.tmp 37) (.tmp 39) 120 rfl w.heap.size 110 (.agg (bitArr 0)) 32 32 Tryd.underlying120 info_bits HB.out.2.2.2.2.2.2.2.2.2.1 (by decide) (.slice vo i vc) i (bitRow (rowTo b i)) rfl HB.out.2.2.2.1 (.slice (some ⟨wr.heap.size, 0, none⟩) 1 1) 1 (bitArr x).toList rfl HB.out.2.2.2.2.1 HB.out.2.2.2.2.2.2.1 HB.out.2.2.2.2.2.2.2.1 (by decide) HB.out.2.2.2.2.2.2.2.2.1 ?_))
          intro ao2 c2 w3 h3
          have hrow := h3.own
          rw [← bitRow_snoc] at hrow
          have he : rowTo b i ++ [x] = rowTo b (i + 1) := by rw [rowTo, if_pos hlt, H2.out.2.2.1]
          rw [he] at hrow
          have hW3 : WordsAt w3 w.heap.size (.slice ao2 (i + 1) c2) (rowTo b (i + 1)) := by unfold WordsAt; rw [rowTo_len]; exact hrow
          have hu3 : Upd [] w w3 := (HB.out.2.1.alloc _).trans h3.upd (fun k' hk => by
            right
            have := own_lt HB.out.2.2.2.1
            rw [own_block] at hk
            split at hk
            · simp at hk
            · simp at hk; omega)
          have H3 := Lib.hid (And.intro hW3 hu3)
          clear hrow he hW3 hu3 h3
          go_wp2
          go_roundw
          case rel => exact ⟨i + 1, by omega, by go_num, ⟨_, _, rfl⟩, H3.out.1, H3.out.2⟩
          case measure => simp [intOf]; omega
    · obtain rfl : i = 16 := by omega
      go_wp2_with fail
      have e16 : ((16 : Nat) : Int) = (16 : Int) := rfl
      simp only [e16]
      clear e16
      go_loopw [3, 7] (RelRow2 w b) (fun _ i _ => (64 - intOf i).toNat)
      case atStart => exact ⟨16, by omega, by omega, rfl, ⟨_, _, rfl⟩, HX.out.1, HX.out.2⟩
      case round =>
        obtain ⟨i, hi16, hi, rfl, ⟨vo, vc, rfl⟩, hw, hu⟩ := hrel
        have HX := Lib.hid (And.intro hw hu)
        clear hw hu
        rcases Nat.lt_or_ge i 64 with hlt | hge
        · obtain ⟨g0, c0, cur, hv, hc0, hblk, hg0, hel⟩ := HX.out.1.blk (by rw [rowTo_len]; omega)
          have hrl := rowTo_len b i
          rw [hrl] at hv hel hc0
          obtain rfl : vo = some ⟨g0, 0, none⟩ := by simp only [Value.slice.injEq] at hv; exact hv.1
          obtain ⟨i15, h15⟩ : ∃ k : Nat, i - 15 = k := ⟨_, rfl⟩
          obtain ⟨i2, h2⟩ : ∃ k : Nat, i - 2 = k := ⟨_, rfl⟩
          obtain ⟨i16, h16⟩ : ∃ k : Nat, i - 16 = k := ⟨_, rfl⟩
          obtain ⟨i7, h7⟩ : ∃ k : Nat, i - 7 = k := ⟨_, rfl⟩
          have W15 : IntKind.i64.wrap ((i : Int) - 15) = (i15 : Int) := by rw [IntKind.wrap_i64]; omega
          have W2 : IntKind.i64.wrap ((i : Int) - 2) = (i2 : Int) := by rw [IntKind.wrap_i64]; omega
          have W16 : IntKind.i64.wrap ((i : Int) - 16) = (i16 : Int) := by rw [IntKind.wrap_i64]; omega
          have W7 : IntKind.i64.wrap ((i : Int) - 7) = (i7 : Int) := by rw [IntKind.wrap_i64]; omega
          have l15 : i15 < i := by omega
          have l2 : i2 < i := by omega
          have l16 : i16 < i := by omega
          have l7 : i7 < i := by omega
          obtain ⟨A, hA⟩ : ∃ A, (rowTo b i).getD i15 0 = A := ⟨_, rfl⟩
          obtain ⟨B, hB⟩ : ∃ B, (rowTo b i).getD i2 0 = B := ⟨_, rfl⟩
          obtain ⟨C, hC⟩ : ∃ C, (rowTo b i).getD i16 0 = C := ⟨_, rfl⟩
          obtain ⟨D, hD⟩ : ∃ D, (rowTo b i).getD i7 0 = D := ⟨_, rfl⟩
          have eA := hel i15 l15
          have eB := hel i2 l2
          have eC := hel i16 l16
          have eD := hel i7 l7
          rw [hA] at eA
          rw [hB] at eB
          rw [hC] at eC
          rw [hD] at eD
          have hnew : rowTo b (i + 1) = rowTo b i ++ [C + sig0 A + D + sig1 B] := by rw [rowTo, if_neg (by omega), h16, h15, h7, h2, hA, hB, hC, hD]
          have hgl := hblk.lt
          have hR : ∀ w' : World, WordsAt w' w.heap.size (.slice (some ⟨g0, 0, none⟩) i vc) (rowTo b i) → ∃ cur', Blk w' g0 cur' 110 ∧ (∀ j u, (bitArr C).toList[j]? = some u → cur'[i16 * 32 + j]? = some u) ∧ (∀ j u, (bitArr D).toList[j]? = some u → cur'[i7 * 32 + j]? = some u) := fun w' h' => by
            obtain ⟨g', c', cur', hv', -, hb', -, hel'⟩ := h'.blk (by omega)
            simp only [Value.slice.injEq, Option.some.injEq, Addr.mk.injEq, and_true] at hv'
            obtain ⟨rfl, -, -⟩ := hv'
            exact ⟨cur', hb', by have := hel' i16 (by omega); rw [hC] at this; exact this, by have := hel' i7 (by omega); rw [hD] at this; exact this⟩
          have HR := Lib.hid hR
          clear hR
          have hldX : ∀ X : BitVec 32, (Tryd.prog.info? 110).map (·.size) = some (bitArr X).toList.length := fun X => by rw [size_bits]; simp [bit_size]
          have HE := Lib.hid (And.intro eA (And.intro eB (And.intro eC (And.intro eD (And.intro hnew (And.intro hblk (And.intro hg0 (And.intro hldX hgl))))))))
          clear eA eB eC eD hnew hblk hg0 hldX hA hB hC hD h15 h2 h16 h7 hv hel hgl hrl
          go_upto_region 14 with (fail)
          go_cut [3, 7, 8, 9] (fun s3 s7 s8 s9 wx => s3 = .slice (some ⟨g0, 0, none⟩) i vc ∧ s7 = .int .i64 i ∧ ∃ gA gB, s8 = .pointer (some ⟨gA, 0, none⟩) ∧ s9 = .pointer (some ⟨gB, 0, none⟩) ∧ Blk wx gA (bitArr A) 110 ∧ Blk wx gB (bitArr B) 110 ∧ Upd [] wr wx)
          case first =>
            have S0 : Blk wr.drew g0 cur 110 := HE.out.2.2.2.2.2.1
            refine wp_region_ord (S := fun w => Blk w g0 cur 110) (.take 0 (.take 1 (.take 2 (.take 3 (.take 4 (.take 5 (.take 6 (.take 7 (.take 8 (.take 9 (.alt 10 (.act 11 (.act 12 (.act 13 .done))) 11 (.act 10 (.act 12 (.act 13 .done)))))))))))))) (by kernel_rfl) (by kernel_rfl) (fun _ _ d _ _ h => by cases d <;> exact h) ?_
            iterate 4 (refine ord_ex rfl rfl S0 ?_; apply Exists.intro; refine ⟨fun _ _ => ?_, ?_⟩; (focus (rename_i w hw; skip; go_simp; rfl)); simp only [Act.put, List.setIfInBounds_toArray, List.set_cons_zero, List.set_cons_succ, List.getElem_toArray, List.getElem_cons_succ, List.getElem_cons_zero])
            refine ord_load_blk rfl rfl rfl g0 (i15 * 32) (by first | rfl | (simp [Act.eval]; done)) cur 110 (fun _ h => h) _ (bitArr A).toList (HE.out.1) Tryd.underlying110 rfl (HE.out.2.2.2.2.2.2.2.1 A) S0 ?_
            simp only [Act.put, List.setIfInBounds_toArray, List.set_cons_zero, List.set_cons_succ, List.getElem_toArray, List.getElem_cons_succ, List.getElem_cons_zero]
            iterate 4 (refine ord_ex rfl rfl S0 ?_; apply Exists.intro; refine ⟨fun _ _ => ?_, ?_⟩; (focus (rename_i w hw; skip; go_simp; rfl)); simp only [Act.put, List.setIfInBounds_toArray, List.set_cons_zero, List.set_cons_succ, List.getElem_toArray, List.getElem_cons_succ, List.getElem_cons_zero])
            refine ord_load_blk rfl rfl rfl g0 (i2 * 32) (by first | rfl | (simp [Act.eval]; done)) cur 110 (fun _ h => h) _ (bitArr B).toList (HE.out.2.1) Tryd.underlying110 rfl (HE.out.2.2.2.2.2.2.2.1 B) S0 ?_
            simp only [Act.put, List.setIfInBounds_toArray, List.set_cons_zero, List.set_cons_succ, List.getElem_toArray, List.getElem_cons_succ, List.getElem_cons_zero]
            refine ord_alt rfl rfl ?_ ?_
            · refine wpList_alloc_bits (o := ⟨some 8, _, _, _, _, _⟩) rfl rfl ?_
              intro g1 w1 bg1 u1 hg1
              simp only [Act.put, List.setIfInBounds_toArray, List.set_cons_zero, List.set_cons_succ, List.getElem_toArray, List.getElem_cons_succ, List.getElem_cons_zero]
              have s1 := S0.upd u1 (by simp)
              refine ⟨fun _ => s1, ?_⟩
              refine ord_act rfl ?_
              refine wpList_alloc_bits (o := ⟨some 9, _, _, _, _, _⟩) rfl rfl ?_
              intro g2 w2 bg2 u2 hg2
              simp only [Act.put, List.setIfInBounds_toArray, List.set_cons_zero, List.set_cons_succ, List.getElem_toArray, List.getElem_cons_succ, List.getElem_cons_zero]
              have s2 := s1.upd u2 (by simp)
              refine ⟨fun _ => s2, ?_⟩
              have bg1' := bg1.upd u2 (by simp)
              have hl1 := bg1.lt
              have hgl := HE.out.2.2.2.2.2.2.2.2
              have hz : wr.drew.heap.size = wr.heap.size := rfl
              have hs1 := u1.size
              refine ord_act rfl ?_
              refine wpList_store_blk (by rfl) 110 (.tmp 8) (.tmp 49) (by rfl) (b := g1) 0 (by rfl) bg1' (.agg (bitArr A)) (by rfl) (bitArr A).toList (by rfl) (by simp [bit_size]) (bit_one A) (HE.out.2.2.2.2.2.2.2.1 A) ?_
              intro w3 b3 u3
              rw [splice_all (by simp [bit_size])] at b3
              have s3 := s2.upd u3 (by simp; omega)
              have bB3 := bg2.upd u3 (by simp; omega)
              refine ⟨fun _ => s3, ?_⟩
              refine ord_act rfl ?_
              refine wpList_store_blk (by rfl) 110 (.tmp 9) (.tmp 54) (by rfl) (b := g2) 0 (by rfl) bB3 (.agg (bitArr B)) (by rfl) (bitArr B).toList (by rfl) (by simp [bit_size]) (bit_one B) (HE.out.2.2.2.2.2.2.2.1 B) ?_
              intro w4 b4 u4
              rw [splice_all (by simp [bit_size])] at b4
              have bA4 := b3.upd u4 (by simp; omega)
              have U4 : Upd [] wr w4 := ((((Upd.refl [] wr).drew.trans u1 (by simp)).trans u2 (by simp)).trans u3 (by simp; omega)).trans u4 (by simp; omega)
              refine ⟨fun h => Bool.noConfusion (h.symm.trans (by kernel_rfl : waitsAll _ _ _ = true)), ?_⟩
              show Exit.then _ _ Exit.normal _ _
              go_wp2
              go_meet
              case rel => exact ⟨rfl, rfl, g1, g2, rfl, rfl, bA4, b4, U4⟩
            · refine wpList_alloc_bits (o := ⟨some 9, _, _, _, _, _⟩) rfl rfl ?_
              intro g1 w1 bg1 u1 hg1
              simp only [Act.put, List.setIfInBounds_toArray, List.set_cons_zero, List.set_cons_succ, List.getElem_toArray, List.getElem_cons_succ, List.getElem_cons_zero]
              have s1 := S0.upd u1 (by simp)
              refine ⟨fun _ => s1, ?_⟩
              refine ord_act rfl ?_
              refine wpList_alloc_bits (o := ⟨some 8, _, _, _, _, _⟩) rfl rfl ?_
              intro g2 w2 bg2 u2 hg2
              simp only [Act.put, List.setIfInBounds_toArray, List.set_cons_zero, List.set_cons_succ, List.getElem_toArray, List.getElem_cons_succ, List.getElem_cons_zero]
              have s2 := s1.upd u2 (by simp)
              refine ⟨fun _ => s2, ?_⟩
              have bg1' := bg1.upd u2 (by simp)
              have hl1 := bg1.lt
              have hgl := HE.out.2.2.2.2.2.2.2.2
              have hz : wr.drew.heap.size = wr.heap.size := rfl
              have hs1 := u1.size
              refine ord_act rfl ?_
              refine wpList_store_blk (by rfl) 110 (.tmp 8) (.tmp 49) (by rfl) (b := g2) 0 (by rfl) bg2 (.agg (bitArr A)) (by rfl) (bitArr A).toList (by rfl) (by simp [bit_size]) (bit_one A) (HE.out.2.2.2.2.2.2.2.1 A) ?_
              intro w3 b3 u3
              rw [splice_all (by simp [bit_size])] at b3
              have s3 := s2.upd u3 (by simp; omega)
              have bB3 := bg1'.upd u3 (by simp; omega)
              refine ⟨fun _ => s3, ?_⟩
              refine ord_act rfl ?_
              refine wpList_store_blk (by rfl) 110 (.tmp 9) (.tmp 54) (by rfl) (b := g1) 0 (by rfl) bB3 (.agg (bitArr B)) (by rfl) (bitArr B).toList (by rfl) (by simp [bit_size]) (bit_one B) (HE.out.2.2.2.2.2.2.2.1 B) ?_
              intro w4 b4 u4
              rw [splice_all (by simp [bit_size])] at b4
              have bA4 := b3.upd u4 (by simp; omega)
              have U4 : Upd [] wr w4 := ((((Upd.refl [] wr).drew.trans u1 (by simp)).trans u2 (by simp)).trans u3 (by simp; omega)).trans u4 (by simp; omega)
              refine ⟨fun h => Bool.noConfusion (h.symm.trans (by kernel_rfl : waitsAll _ _ _ = true)), ?_⟩
              show Exit.then _ _ Exit.normal _ _
              go_wp2
              go_meet
              case rel => exact ⟨rfl, rfl, g2, g1, rfl, rfl, bA4, b4, U4⟩
          case rest =>
            obtain ⟨rfl, rfl, gA, gB, rfl, rfl, bA, bB, uAB⟩ := hcut
            go_upto_region 15 with (fail)
            obtain ⟨w15, hw15⟩ : ∃ x : World, x = wc := ⟨_, rfl⟩
            subst hw15
            go_cut [3, 7, 9, 10] (fun s3 s7 s9 s10 wx => s3 = .slice (some ⟨g0, 0, none⟩) i vc ∧ s7 = .int .i64 i ∧ s9 = .pointer (some ⟨gB, 0, none⟩) ∧ ∃ gC, s10 = .pointer (some ⟨gC, 0, none⟩) ∧ Blk wx gC (bitArr (sig0 A)) 110 ∧ Upd [] w15 wx ∧ w15.heap.size ≤ gC)
            case first =>
              have S0 : Blk w15.drew gA (bitArr A) 110 := bA
              have U0 := (Upd.refl [] w15).drew
              refine wp_region_ord (S := fun w => Blk w gA (bitArr A) 110) (.take 0 (.take 2 (.take 4 (.alt 1 (.alt 3 (.alt 5 (.alt 6 (.act 7 (.act 8 .done)) 7 (.act 6 (.act 8 .done))) 7 (.act 5 (.act 6 (.act 8 .done)))) 7 (.act 3 (.act 5 (.act 6 (.act 8 .done))))) 7 (.act 1 (.act 3 (.act 5 (.act 6 (.act 8 .done))))))))) (by kernel_rfl) (by kernel_rfl) (fun _ _ d _ _ h => by cases d <;> exact h) ?_
              refine ord_load_blk rfl rfl rfl gA 0 (by first | rfl | (simp [Act.eval]; done)) (bitArr A) 110 (fun _ h => h) _ (bitArr A).toList (fun j u hj => by rw [Nat.zero_add]; simpa using hj) Tryd.underlying110 rfl (HE.out.2.2.2.2.2.2.2.1 A) S0 ?_
              simp only [Act.put, List.setIfInBounds_toArray, List.set_cons_zero, List.set_cons_succ, List.getElem_toArray, List.getElem_cons_succ, List.getElem_cons_zero]
              refine ord_load_blk rfl rfl rfl gA 0 (by first | rfl | (simp [Act.eval]; done)) (bitArr A) 110 (fun _ h => h) _ (bitArr A).toList (fun j u hj => by rw [Nat.zero_add]; simpa using hj) Tryd.underlying110 rfl (HE.out.2.2.2.2.2.2.2.1 A) S0 ?_
              simp only [Act.put, List.setIfInBounds_toArray, List.set_cons_zero, List.set_cons_succ, List.getElem_toArray, List.getElem_cons_succ, List.getElem_cons_zero]
              refine ord_load_blk rfl rfl rfl gA 0 (by first | rfl | (simp [Act.eval]; done)) (bitArr A) 110 (fun _ h => h) _ (bitArr A).toList (fun j u hj => by rw [Nat.zero_add]; simpa using hj) Tryd.underlying110 rfl (HE.out.2.2.2.2.2.2.2.1 A) S0 ?_
              simp only [Act.put, List.setIfInBounds_toArray, List.set_cons_zero, List.set_cons_succ, List.getElem_toArray, List.getElem_cons_succ, List.getElem_cons_zero]
              refine ord_alt rfl rfl ?_ ?_
              · go_wp2_with fail
                refine (right_any _ A 7 true (by decide)).mono ?_
                rintro e w1 ⟨rfl, u1⟩
                have S1 := S0.upd u1 (by simp)
                have U1 := U0.trans u1 (by simp)
                go_wp2_with fail
                refine ⟨fun _ => S1, ?_⟩
                refine ord_alt rfl rfl ?_ ?_
                · go_wp2_with fail
                  refine (right_any _ A 18 true (by decide)).mono ?_
                  rintro e w2 ⟨rfl, u2⟩
                  have S2 := S1.upd u2 (by simp)
                  have U2 := U1.trans u2 (by simp)
                  go_wp2_with fail
                  refine ⟨fun _ => S2, ?_⟩
                  refine ord_alt rfl rfl ?_ ?_
                  · go_wp2_with fail
                    refine (right_any _ A 3 false (by decide)).mono ?_
                    rintro e w3 ⟨rfl, u3⟩
                    have S3 := S2.upd u3 (by simp)
                    have U3 := U2.trans u3 (by simp)
                    go_wp2_with fail
                    refine ⟨fun _ => S3, ?_⟩
                    refine ord_alt rfl rfl ?_ ?_
                    · go_wp2_with fail
                      refine (odd_any _ _ _ _).mono ?_
                      rintro e w4 ⟨rfl, u4⟩
                      have S4 := S3.upd u4 (by simp)
                      have U4 := U3.trans u4 (by simp)
                      go_wp2_with fail
                      refine ⟨fun _ => S4, ?_⟩
                      refine ord_act rfl ?_
                      refine wpList_alloc_bits (o := ⟨some 10, _, _, _, _, _⟩) rfl rfl ?_
                      intro g5 w5 bg5 u5 hg5
                      simp only [Act.put, List.setIfInBounds_toArray, List.set_cons_zero, List.set_cons_succ, List.getElem_toArray, List.getElem_cons_succ, List.getElem_cons_zero]
                      have hz5 := Nat.le_trans U4.size hg5
                      have S5 := S4.upd u5 (by simp)
                      have U5 := U4.trans u5 (by simp)
                      refine ⟨fun _ => S5, ?_⟩
                      refine ord_act rfl ?_
                      refine wpList_store_blk (by rfl) 110 (.tmp 10) (.tmp 61) (by rfl) (b := g5) 0 (by rfl) bg5 (.agg (bitArr (sig0 A))) (by rfl) (bitArr (sig0 A)).toList (by rfl) (by simp [bit_size]) (bit_one (sig0 A)) (HE.out.2.2.2.2.2.2.2.1 (sig0 A)) ?_
                      intro wf bf uf
                      rw [splice_all (by simp [bit_size])] at bf
                      refine ⟨fun h => Bool.noConfusion (h.symm.trans (by kernel_rfl : waitsAll _ _ _ = true)), ?_⟩
                      show Exit.then _ _ Exit.normal _ _
                      have UF := U5.trans uf (by simp; exact hz5)
                      go_wp2
                      go_meet
                      case rel => exact ⟨rfl, rfl, rfl,  g5, rfl, bf, UF, hz5⟩
                    · refine wpList_alloc_bits (o := ⟨some 10, _, _, _, _, _⟩) rfl rfl ?_
                      intro g6 w6 bg6 u6 hg6
                      simp only [Act.put, List.setIfInBounds_toArray, List.set_cons_zero, List.set_cons_succ, List.getElem_toArray, List.getElem_cons_succ, List.getElem_cons_zero]
                      have hz6 := Nat.le_trans U3.size hg6
                      have S6 := S3.upd u6 (by simp)
                      have U6 := U3.trans u6 (by simp)
                      refine ⟨fun _ => S6, ?_⟩
                      refine ord_act rfl ?_
                      go_wp2_with fail
                      refine (odd_any _ _ _ _).mono ?_
                      rintro e w7 ⟨rfl, u7⟩
                      have S7 := S6.upd u7 (by simp)
                      have U7 := U6.trans u7 (by simp)
                      go_wp2_with fail
                      refine ⟨fun _ => S7, ?_⟩
                      refine ord_act rfl ?_
                      refine wpList_store_blk (by rfl) 110 (.tmp 10) (.tmp 61) (by rfl) (b := g6) 0 (by rfl) (bg6.upd u7 (by simp)) (.agg (bitArr (sig0 A))) (by rfl) (bitArr (sig0 A)).toList (by rfl) (by simp [bit_size]) (bit_one (sig0 A)) (HE.out.2.2.2.2.2.2.2.1 (sig0 A)) ?_
                      intro wf bf uf
                      rw [splice_all (by simp [bit_size])] at bf
                      refine ⟨fun h => Bool.noConfusion (h.symm.trans (by kernel_rfl : waitsAll _ _ _ = true)), ?_⟩
                      show Exit.then _ _ Exit.normal _ _
                      have UF := U7.trans uf (by simp; exact hz6)
                      go_wp2
                      go_meet
                      case rel => exact ⟨rfl, rfl, rfl,  g6, rfl, bf, UF, hz6⟩
                  · refine wpList_alloc_bits (o := ⟨some 10, _, _, _, _, _⟩) rfl rfl ?_
                    intro g8 w8 bg8 u8 hg8
                    simp only [Act.put, List.setIfInBounds_toArray, List.set_cons_zero, List.set_cons_succ, List.getElem_toArray, List.getElem_cons_succ, List.getElem_cons_zero]
                    have hz8 := Nat.le_trans U2.size hg8
                    have S8 := S2.upd u8 (by simp)
                    have U8 := U2.trans u8 (by simp)
                    refine ⟨fun _ => S8, ?_⟩
                    refine ord_act rfl ?_
                    go_wp2_with fail
                    refine (right_any _ A 3 false (by decide)).mono ?_
                    rintro e w9 ⟨rfl, u9⟩
                    have S9 := S8.upd u9 (by simp)
                    have U9 := U8.trans u9 (by simp)
                    go_wp2_with fail
                    refine ⟨fun _ => S9, ?_⟩
                    refine ord_act rfl ?_
                    go_wp2_with fail
                    refine (odd_any _ _ _ _).mono ?_
                    rintro e w10 ⟨rfl, u10⟩
                    have S10 := S9.upd u10 (by simp)
                    have U10 := U9.trans u10 (by simp)
                    go_wp2_with fail
                    refine ⟨fun _ => S10, ?_⟩
                    refine ord_act rfl ?_
                    refine wpList_store_blk (by rfl) 110 (.tmp 10) (.tmp 61) (by rfl) (b := g8) 0 (by rfl) ((bg8.upd u9 (by simp)).upd u10 (by simp)) (.agg (bitArr (sig0 A))) (by rfl) (bitArr (sig0 A)).toList (by rfl) (by simp [bit_size]) (bit_one (sig0 A)) (HE.out.2.2.2.2.2.2.2.1 (sig0 A)) ?_
                    intro wf bf uf
                    rw [splice_all (by simp [bit_size])] at bf
                    refine ⟨fun h => Bool.noConfusion (h.symm.trans (by kernel_rfl : waitsAll _ _ _ = true)), ?_⟩
                    show Exit.then _ _ Exit.normal _ _
                    have UF := U10.trans uf (by simp; exact hz8)
                    go_wp2
                    go_meet
                    case rel => exact ⟨rfl, rfl, rfl,  g8, rfl, bf, UF, hz8⟩
                · refine wpList_alloc_bits (o := ⟨some 10, _, _, _, _, _⟩) rfl rfl ?_
                  intro g11 w11 bg11 u11 hg11
                  simp only [Act.put, List.setIfInBounds_toArray, List.set_cons_zero, List.set_cons_succ, List.getElem_toArray, List.getElem_cons_succ, List.getElem_cons_zero]
                  have hz11 := Nat.le_trans U1.size hg11
                  have S11 := S1.upd u11 (by simp)
                  have U11 := U1.trans u11 (by simp)
                  refine ⟨fun _ => S11, ?_⟩
                  refine ord_act rfl ?_
                  go_wp2_with fail
                  refine (right_any _ A 18 true (by decide)).mono ?_
                  rintro e w12 ⟨rfl, u12⟩
                  have S12 := S11.upd u12 (by simp)
                  have U12 := U11.trans u12 (by simp)
                  go_wp2_with fail
                  refine ⟨fun _ => S12, ?_⟩
                  refine ord_act rfl ?_
                  go_wp2_with fail
                  refine (right_any _ A 3 false (by decide)).mono ?_
                  rintro e w13 ⟨rfl, u13⟩
                  have S13 := S12.upd u13 (by simp)
                  have U13 := U12.trans u13 (by simp)
                  go_wp2_with fail
                  refine ⟨fun _ => S13, ?_⟩
                  refine ord_act rfl ?_
                  go_wp2_with fail
                  refine (odd_any _ _ _ _).mono ?_
                  rintro e w14 ⟨rfl, u14⟩
                  have S14 := S13.upd u14 (by simp)
                  have U14 := U13.trans u14 (by simp)
                  go_wp2_with fail
                  refine ⟨fun _ => S14, ?_⟩
                  refine ord_act rfl ?_
                  refine wpList_store_blk (by rfl) 110 (.tmp 10) (.tmp 61) (by rfl) (b := g11) 0 (by rfl) (((bg11.upd u12 (by simp)).upd u13 (by simp)).upd u14 (by simp)) (.agg (bitArr (sig0 A))) (by rfl) (bitArr (sig0 A)).toList (by rfl) (by simp [bit_size]) (bit_one (sig0 A)) (HE.out.2.2.2.2.2.2.2.1 (sig0 A)) ?_
                  intro wf bf uf
                  rw [splice_all (by simp [bit_size])] at bf
                  refine ⟨fun h => Bool.noConfusion (h.symm.trans (by kernel_rfl : waitsAll _ _ _ = true)), ?_⟩
                  show Exit.then _ _ Exit.normal _ _
                  have UF := U14.trans uf (by simp; exact hz11)
                  go_wp2
                  go_meet
                  case rel => exact ⟨rfl, rfl, rfl,  g11, rfl, bf, UF, hz11⟩
              · refine wpList_alloc_bits (o := ⟨some 10, _, _, _, _, _⟩) rfl rfl ?_
                intro g15 w15 bg15 u15 hg15
                simp only [Act.put, List.setIfInBounds_toArray, List.set_cons_zero, List.set_cons_succ, List.getElem_toArray, List.getElem_cons_succ, List.getElem_cons_zero]
                have hz15 := Nat.le_trans U0.size hg15
                have S15 := S0.upd u15 (by simp)
                have U15 := U0.trans u15 (by simp)
                refine ⟨fun _ => S15, ?_⟩
                refine ord_act rfl ?_
                go_wp2_with fail
                refine (right_any _ A 7 true (by decide)).mono ?_
                rintro e w16 ⟨rfl, u16⟩
                have S16 := S15.upd u16 (by simp)
                have U16 := U15.trans u16 (by simp)
                go_wp2_with fail
                refine ⟨fun _ => S16, ?_⟩
                refine ord_act rfl ?_
                go_wp2_with fail
                refine (right_any _ A 18 true (by decide)).mono ?_
                rintro e w17 ⟨rfl, u17⟩
                have S17 := S16.upd u17 (by simp)
                have U17 := U16.trans u17 (by simp)
                go_wp2_with fail
                refine ⟨fun _ => S17, ?_⟩
                refine ord_act rfl ?_
                go_wp2_with fail
                refine (right_any _ A 3 false (by decide)).mono ?_
                rintro e w18 ⟨rfl, u18⟩
                have S18 := S17.upd u18 (by simp)
                have U18 := U17.trans u18 (by simp)
                go_wp2_with fail
                refine ⟨fun _ => S18, ?_⟩
                refine ord_act rfl ?_
                go_wp2_with fail
                refine (odd_any _ _ _ _).mono ?_
                rintro e w19 ⟨rfl, u19⟩
                have S19 := S18.upd u19 (by simp)
                have U19 := U18.trans u19 (by simp)
                go_wp2_with fail
                refine ⟨fun _ => S19, ?_⟩
                refine ord_act rfl ?_
                refine wpList_store_blk (by rfl) 110 (.tmp 10) (.tmp 61) (by rfl) (b := g15) 0 (by rfl) ((((bg15.upd u16 (by simp)).upd u17 (by simp)).upd u18 (by simp)).upd u19 (by simp)) (.agg (bitArr (sig0 A))) (by rfl) (bitArr (sig0 A)).toList (by rfl) (by simp [bit_size]) (bit_one (sig0 A)) (HE.out.2.2.2.2.2.2.2.1 (sig0 A)) ?_
                intro wf bf uf
                rw [splice_all (by simp [bit_size])] at bf
                refine ⟨fun h => Bool.noConfusion (h.symm.trans (by kernel_rfl : waitsAll _ _ _ = true)), ?_⟩
                show Exit.then _ _ Exit.normal _ _
                have UF := U19.trans uf (by simp; exact hz15)
                go_wp2
                go_meet
                case rel => exact ⟨rfl, rfl, rfl,  g15, rfl, bf, UF, hz15⟩
            case rest =>
              obtain ⟨rfl, rfl, rfl, gC, rfl, bC, uC, lC⟩ := hcut
              have neC : g0 ≠ gC := by have := HE.out.2.2.2.2.2.2.2.2; have := uAB.size; omega
              replace bB := bB.upd uC (by simp)
              have uAC := uAB.trans uC (by simp)
              clear bA uAB uC lC
              go_upto_region 16 with (fail)
              obtain ⟨w16, hw16⟩ : ∃ x : World, x = wc := ⟨_, rfl⟩
              subst hw16
              go_cut [3, 7, 10, 11] (fun s3 s7 s10 s11 wx => s3 = .slice (some ⟨g0, 0, none⟩) i vc ∧ s7 = .int .i64 i ∧ s10 = .pointer (some ⟨gC, 0, none⟩) ∧ ∃ gD, s11 = .pointer (some ⟨gD, 0, none⟩) ∧ Blk wx gD (bitArr (sig1 B)) 110 ∧ Upd [] w16 wx ∧ w16.heap.size ≤ gD)
              case first =>
                have S0 : Blk w16.drew gB (bitArr B) 110 := bB
                have U0 := (Upd.refl [] w16).drew
                refine wp_region_ord (S := fun w => Blk w gB (bitArr B) 110) (.take 0 (.take 2 (.take 4 (.alt 1 (.alt 3 (.alt 5 (.alt 6 (.act 7 (.act 8 .done)) 7 (.act 6 (.act 8 .done))) 7 (.act 5 (.act 6 (.act 8 .done)))) 7 (.act 3 (.act 5 (.act 6 (.act 8 .done))))) 7 (.act 1 (.act 3 (.act 5 (.act 6 (.act 8 .done))))))))) (by kernel_rfl) (by kernel_rfl) (fun _ _ d _ _ h => by cases d <;> exact h) ?_
                refine ord_load_blk rfl rfl rfl gB 0 (by first | rfl | (simp [Act.eval]; done)) (bitArr B) 110 (fun _ h => h) _ (bitArr B).toList (fun j u hj => by rw [Nat.zero_add]; simpa using hj) Tryd.underlying110 rfl (HE.out.2.2.2.2.2.2.2.1 B) S0 ?_
                simp only [Act.put, List.setIfInBounds_toArray, List.set_cons_zero, List.set_cons_succ, List.getElem_toArray, List.getElem_cons_succ, List.getElem_cons_zero]
                refine ord_load_blk rfl rfl rfl gB 0 (by first | rfl | (simp [Act.eval]; done)) (bitArr B) 110 (fun _ h => h) _ (bitArr B).toList (fun j u hj => by rw [Nat.zero_add]; simpa using hj) Tryd.underlying110 rfl (HE.out.2.2.2.2.2.2.2.1 B) S0 ?_
                simp only [Act.put, List.setIfInBounds_toArray, List.set_cons_zero, List.set_cons_succ, List.getElem_toArray, List.getElem_cons_succ, List.getElem_cons_zero]
                refine ord_load_blk rfl rfl rfl gB 0 (by first | rfl | (simp [Act.eval]; done)) (bitArr B) 110 (fun _ h => h) _ (bitArr B).toList (fun j u hj => by rw [Nat.zero_add]; simpa using hj) Tryd.underlying110 rfl (HE.out.2.2.2.2.2.2.2.1 B) S0 ?_
                simp only [Act.put, List.setIfInBounds_toArray, List.set_cons_zero, List.set_cons_succ, List.getElem_toArray, List.getElem_cons_succ, List.getElem_cons_zero]
                refine ord_alt rfl rfl ?_ ?_
                · go_wp2_with fail
                  refine (right_any _ B 17 true (by decide)).mono ?_
                  rintro e w20 ⟨rfl, u20⟩
                  have S20 := S0.upd u20 (by simp)
                  have U20 := U0.trans u20 (by simp)
                  go_wp2_with fail
                  refine ⟨fun _ => S20, ?_⟩
                  refine ord_alt rfl rfl ?_ ?_
                  · go_wp2_with fail
                    refine (right_any _ B 19 true (by decide)).mono ?_
                    rintro e w21 ⟨rfl, u21⟩
                    have S21 := S20.upd u21 (by simp)
                    have U21 := U20.trans u21 (by simp)
                    go_wp2_with fail
                    refine ⟨fun _ => S21, ?_⟩
                    refine ord_alt rfl rfl ?_ ?_
                    · go_wp2_with fail
                      refine (right_any _ B 10 false (by decide)).mono ?_
                      rintro e w22 ⟨rfl, u22⟩
                      have S22 := S21.upd u22 (by simp)
                      have U22 := U21.trans u22 (by simp)
                      go_wp2_with fail
                      refine ⟨fun _ => S22, ?_⟩
                      refine ord_alt rfl rfl ?_ ?_
                      · go_wp2_with fail
                        refine (odd_any _ _ _ _).mono ?_
                        rintro e w23 ⟨rfl, u23⟩
                        have S23 := S22.upd u23 (by simp)
                        have U23 := U22.trans u23 (by simp)
                        go_wp2_with fail
                        refine ⟨fun _ => S23, ?_⟩
                        refine ord_act rfl ?_
                        refine wpList_alloc_bits (o := ⟨some 11, _, _, _, _, _⟩) rfl rfl ?_
                        intro g24 w24 bg24 u24 hg24
                        simp only [Act.put, List.setIfInBounds_toArray, List.set_cons_zero, List.set_cons_succ, List.getElem_toArray, List.getElem_cons_succ, List.getElem_cons_zero]
                        have hz24 := Nat.le_trans U23.size hg24
                        have S24 := S23.upd u24 (by simp)
                        have U24 := U23.trans u24 (by simp)
                        refine ⟨fun _ => S24, ?_⟩
                        refine ord_act rfl ?_
                        refine wpList_store_blk (by rfl) 110 (.tmp 11) (.tmp 68) (by rfl) (b := g24) 0 (by rfl) bg24 (.agg (bitArr (sig1 B))) (by rfl) (bitArr (sig1 B)).toList (by rfl) (by simp [bit_size]) (bit_one (sig1 B)) (HE.out.2.2.2.2.2.2.2.1 (sig1 B)) ?_
                        intro wf bf uf
                        rw [splice_all (by simp [bit_size])] at bf
                        refine ⟨fun h => Bool.noConfusion (h.symm.trans (by kernel_rfl : waitsAll _ _ _ = true)), ?_⟩
                        show Exit.then _ _ Exit.normal _ _
                        have UF := U24.trans uf (by simp; exact hz24)
                        go_wp2
                        go_meet
                        case rel => exact ⟨rfl, rfl, rfl,  g24, rfl, bf, UF, hz24⟩
                      · refine wpList_alloc_bits (o := ⟨some 11, _, _, _, _, _⟩) rfl rfl ?_
                        intro g25 w25 bg25 u25 hg25
                        simp only [Act.put, List.setIfInBounds_toArray, List.set_cons_zero, List.set_cons_succ, List.getElem_toArray, List.getElem_cons_succ, List.getElem_cons_zero]
                        have hz25 := Nat.le_trans U22.size hg25
                        have S25 := S22.upd u25 (by simp)
                        have U25 := U22.trans u25 (by simp)
                        refine ⟨fun _ => S25, ?_⟩
                        refine ord_act rfl ?_
                        go_wp2_with fail
                        refine (odd_any _ _ _ _).mono ?_
                        rintro e w26 ⟨rfl, u26⟩
                        have S26 := S25.upd u26 (by simp)
                        have U26 := U25.trans u26 (by simp)
                        go_wp2_with fail
                        refine ⟨fun _ => S26, ?_⟩
                        refine ord_act rfl ?_
                        refine wpList_store_blk (by rfl) 110 (.tmp 11) (.tmp 68) (by rfl) (b := g25) 0 (by rfl) (bg25.upd u26 (by simp)) (.agg (bitArr (sig1 B))) (by rfl) (bitArr (sig1 B)).toList (by rfl) (by simp [bit_size]) (bit_one (sig1 B)) (HE.out.2.2.2.2.2.2.2.1 (sig1 B)) ?_
                        intro wf bf uf
                        rw [splice_all (by simp [bit_size])] at bf
                        refine ⟨fun h => Bool.noConfusion (h.symm.trans (by kernel_rfl : waitsAll _ _ _ = true)), ?_⟩
                        show Exit.then _ _ Exit.normal _ _
                        have UF := U26.trans uf (by simp; exact hz25)
                        go_wp2
                        go_meet
                        case rel => exact ⟨rfl, rfl, rfl,  g25, rfl, bf, UF, hz25⟩
                    · refine wpList_alloc_bits (o := ⟨some 11, _, _, _, _, _⟩) rfl rfl ?_
                      intro g27 w27 bg27 u27 hg27
                      simp only [Act.put, List.setIfInBounds_toArray, List.set_cons_zero, List.set_cons_succ, List.getElem_toArray, List.getElem_cons_succ, List.getElem_cons_zero]
                      have hz27 := Nat.le_trans U21.size hg27
                      have S27 := S21.upd u27 (by simp)
                      have U27 := U21.trans u27 (by simp)
                      refine ⟨fun _ => S27, ?_⟩
                      refine ord_act rfl ?_
                      go_wp2_with fail
                      refine (right_any _ B 10 false (by decide)).mono ?_
                      rintro e w28 ⟨rfl, u28⟩
                      have S28 := S27.upd u28 (by simp)
                      have U28 := U27.trans u28 (by simp)
                      go_wp2_with fail
                      refine ⟨fun _ => S28, ?_⟩
                      refine ord_act rfl ?_
                      go_wp2_with fail
                      refine (odd_any _ _ _ _).mono ?_
                      rintro e w29 ⟨rfl, u29⟩
                      have S29 := S28.upd u29 (by simp)
                      have U29 := U28.trans u29 (by simp)
                      go_wp2_with fail
                      refine ⟨fun _ => S29, ?_⟩
                      refine ord_act rfl ?_
                      refine wpList_store_blk (by rfl) 110 (.tmp 11) (.tmp 68) (by rfl) (b := g27) 0 (by rfl) ((bg27.upd u28 (by simp)).upd u29 (by simp)) (.agg (bitArr (sig1 B))) (by rfl) (bitArr (sig1 B)).toList (by rfl) (by simp [bit_size]) (bit_one (sig1 B)) (HE.out.2.2.2.2.2.2.2.1 (sig1 B)) ?_
                      intro wf bf uf
                      rw [splice_all (by simp [bit_size])] at bf
                      refine ⟨fun h => Bool.noConfusion (h.symm.trans (by kernel_rfl : waitsAll _ _ _ = true)), ?_⟩
                      show Exit.then _ _ Exit.normal _ _
                      have UF := U29.trans uf (by simp; exact hz27)
                      go_wp2
                      go_meet
                      case rel => exact ⟨rfl, rfl, rfl,  g27, rfl, bf, UF, hz27⟩
                  · refine wpList_alloc_bits (o := ⟨some 11, _, _, _, _, _⟩) rfl rfl ?_
                    intro g30 w30 bg30 u30 hg30
                    simp only [Act.put, List.setIfInBounds_toArray, List.set_cons_zero, List.set_cons_succ, List.getElem_toArray, List.getElem_cons_succ, List.getElem_cons_zero]
                    have hz30 := Nat.le_trans U20.size hg30
                    have S30 := S20.upd u30 (by simp)
                    have U30 := U20.trans u30 (by simp)
                    refine ⟨fun _ => S30, ?_⟩
                    refine ord_act rfl ?_
                    go_wp2_with fail
                    refine (right_any _ B 19 true (by decide)).mono ?_
                    rintro e w31 ⟨rfl, u31⟩
                    have S31 := S30.upd u31 (by simp)
                    have U31 := U30.trans u31 (by simp)
                    go_wp2_with fail
                    refine ⟨fun _ => S31, ?_⟩
                    refine ord_act rfl ?_
                    go_wp2_with fail
                    refine (right_any _ B 10 false (by decide)).mono ?_
                    rintro e w32 ⟨rfl, u32⟩
                    have S32 := S31.upd u32 (by simp)
                    have U32 := U31.trans u32 (by simp)
                    go_wp2_with fail
                    refine ⟨fun _ => S32, ?_⟩
                    refine ord_act rfl ?_
                    go_wp2_with fail
                    refine (odd_any _ _ _ _).mono ?_
                    rintro e w33 ⟨rfl, u33⟩
                    have S33 := S32.upd u33 (by simp)
                    have U33 := U32.trans u33 (by simp)
                    go_wp2_with fail
                    refine ⟨fun _ => S33, ?_⟩
                    refine ord_act rfl ?_
                    refine wpList_store_blk (by rfl) 110 (.tmp 11) (.tmp 68) (by rfl) (b := g30) 0 (by rfl) (((bg30.upd u31 (by simp)).upd u32 (by simp)).upd u33 (by simp)) (.agg (bitArr (sig1 B))) (by rfl) (bitArr (sig1 B)).toList (by rfl) (by simp [bit_size]) (bit_one (sig1 B)) (HE.out.2.2.2.2.2.2.2.1 (sig1 B)) ?_
                    intro wf bf uf
                    rw [splice_all (by simp [bit_size])] at bf
                    refine ⟨fun h => Bool.noConfusion (h.symm.trans (by kernel_rfl : waitsAll _ _ _ = true)), ?_⟩
                    show Exit.then _ _ Exit.normal _ _
                    have UF := U33.trans uf (by simp; exact hz30)
                    go_wp2
                    go_meet
                    case rel => exact ⟨rfl, rfl, rfl,  g30, rfl, bf, UF, hz30⟩
                · refine wpList_alloc_bits (o := ⟨some 11, _, _, _, _, _⟩) rfl rfl ?_
                  intro g34 w34 bg34 u34 hg34
                  simp only [Act.put, List.setIfInBounds_toArray, List.set_cons_zero, List.set_cons_succ, List.getElem_toArray, List.getElem_cons_succ, List.getElem_cons_zero]
                  have hz34 := Nat.le_trans U0.size hg34
                  have S34 := S0.upd u34 (by simp)
                  have U34 := U0.trans u34 (by simp)
                  refine ⟨fun _ => S34, ?_⟩
                  refine ord_act rfl ?_
                  go_wp2_with fail
                  refine (right_any _ B 17 true (by decide)).mono ?_
                  rintro e w35 ⟨rfl, u35⟩
                  have S35 := S34.upd u35 (by simp)
                  have U35 := U34.trans u35 (by simp)
                  go_wp2_with fail
                  refine ⟨fun _ => S35, ?_⟩
                  refine ord_act rfl ?_
                  go_wp2_with fail
                  refine (right_any _ B 19 true (by decide)).mono ?_
                  rintro e w36 ⟨rfl, u36⟩
                  have S36 := S35.upd u36 (by simp)
                  have U36 := U35.trans u36 (by simp)
                  go_wp2_with fail
                  refine ⟨fun _ => S36, ?_⟩
                  refine ord_act rfl ?_
                  go_wp2_with fail
                  refine (right_any _ B 10 false (by decide)).mono ?_
                  rintro e w37 ⟨rfl, u37⟩
                  have S37 := S36.upd u37 (by simp)
                  have U37 := U36.trans u37 (by simp)
                  go_wp2_with fail
                  refine ⟨fun _ => S37, ?_⟩
                  refine ord_act rfl ?_
                  go_wp2_with fail
                  refine (odd_any _ _ _ _).mono ?_
                  rintro e w38 ⟨rfl, u38⟩
                  have S38 := S37.upd u38 (by simp)
                  have U38 := U37.trans u38 (by simp)
                  go_wp2_with fail
                  refine ⟨fun _ => S38, ?_⟩
                  refine ord_act rfl ?_
                  refine wpList_store_blk (by rfl) 110 (.tmp 11) (.tmp 68) (by rfl) (b := g34) 0 (by rfl) ((((bg34.upd u35 (by simp)).upd u36 (by simp)).upd u37 (by simp)).upd u38 (by simp)) (.agg (bitArr (sig1 B))) (by rfl) (bitArr (sig1 B)).toList (by rfl) (by simp [bit_size]) (bit_one (sig1 B)) (HE.out.2.2.2.2.2.2.2.1 (sig1 B)) ?_
                  intro wf bf uf
                  rw [splice_all (by simp [bit_size])] at bf
                  refine ⟨fun h => Bool.noConfusion (h.symm.trans (by kernel_rfl : waitsAll _ _ _ = true)), ?_⟩
                  show Exit.then _ _ Exit.normal _ _
                  have UF := U38.trans uf (by simp; exact hz34)
                  go_wp2
                  go_meet
                  case rel => exact ⟨rfl, rfl, rfl,  g34, rfl, bf, UF, hz34⟩
              case rest =>
                obtain ⟨rfl, rfl, rfl, gD, rfl, bD, uD, lD⟩ := hcut
                have neD : g0 ≠ gD := by have := HE.out.2.2.2.2.2.2.2.2; have := uAC.size; omega
                replace bC := bC.upd uD (by simp)
                have uAD := uAC.trans uD (by simp)
                clear bB uAC uD lD
                obtain ⟨x, hx⟩ : ∃ x, C + sig0 A + D + sig1 B = x := ⟨_, rfl⟩
                have hnew := HE.out.2.2.2.2.1
                rw [hx] at hnew
                have HN := Lib.hid (And.intro hnew hx)
                clear hnew hx
                go_upto_region 17 with (fail)
                obtain ⟨w17, hw17⟩ : ∃ x : World, x = wc := ⟨_, rfl⟩
                subst hw17
                have W0 : WordsAt w17.drew w.heap.size (.slice (some ⟨g0, 0, none⟩) i vc) (rowTo b i) := HX.out.1.upd0 (uAD.drew)
                have U0 : Upd [] w w17.drew := (HX.out.2.trans uAD (by simp)).drew
                have C0 : Blk w17.drew gC (bitArr (sig0 A)) 110 := bC
                have D0 : Blk w17.drew gD (bitArr (sig1 B)) 110 := bD
                have S0 := And.intro (HR.out _ W0) (And.intro C0 D0)
                have hz0 : (Value.agg (bitArr 0)).cells.size = 32 := bit_size 0
                have hzx : (Value.agg (bitArr x)).cells.size = 32 := bit_size x
                have hone : ∀ u ∈ (bitArr x).toList, u.oneCell' = true := List.all_eq_true.1 (bit_one x)
                have hby : (i + 1) * 32 ≤ 140737488355328 := by omega
                have HZ := Lib.hid (And.intro hz0 (And.intro hzx (And.intro hone hby)))
                clear hz0 hzx hone hby bC bD
                refine wp_region_ord (S := fun w => (∃ cur', Blk w g0 cur' 110 ∧ (∀ j u, (bitArr C).toList[j]? = some u → cur'[i16 * 32 + j]? = some u) ∧ (∀ j u, (bitArr D).toList[j]? = some u → cur'[i7 * 32 + j]? = some u)) ∧ Blk w gC (bitArr (sig0 A)) 110 ∧ Blk w gD (bitArr (sig1 B)) 110) (.take 0 (.take 1 (.take 2 (.take 3 (.take 4 (.take 5 (.take 6 (.take 8 (.take 9 (.take 10 (.take 11 (.take 12 (.take 14 (.act 7 (.act 13 (.act 15 (.act 16 (.act 17 (.take 18 .done))))))))))))))))))) (by kernel_rfl) (by kernel_rfl) (fun _ _ d _ _ h => by cases d <;> exact h) ?_
                iterate 5 (refine ord_ex rfl rfl S0 ?_; apply Exists.intro; refine ⟨fun _ _ => ?_, ?_⟩; (focus (rename_i w hw; skip; go_simp; rfl)); simp only [Act.put, List.setIfInBounds_toArray, List.set_cons_zero, List.set_cons_succ, List.getElem_toArray, List.getElem_cons_succ, List.getElem_cons_zero])
                refine ord_load_at rfl rfl rfl g0 (i16 * 32) (by first | rfl | (simp [Act.eval]; done)) 110 _ (bitArr C).toList (fun _ h => ⟨_, h.1.choose_spec.1, h.1.choose_spec.2.1⟩) Tryd.underlying110 rfl (HE.out.2.2.2.2.2.2.2.1 C) S0 ?_
                simp only [Act.put, List.setIfInBounds_toArray, List.set_cons_zero, List.set_cons_succ, List.getElem_toArray, List.getElem_cons_succ, List.getElem_cons_zero]
                refine ord_load_blk rfl rfl rfl gC 0 (by first | rfl | (simp [Act.eval]; done)) (bitArr (sig0 A)) 110 (fun _ h => h.2.1) _ (bitArr (sig0 A)).toList (fun j u hj => by rw [Nat.zero_add]; simpa using hj) Tryd.underlying110 rfl (HE.out.2.2.2.2.2.2.2.1 (sig0 A)) S0 ?_
                simp only [Act.put, List.setIfInBounds_toArray, List.set_cons_zero, List.set_cons_succ, List.getElem_toArray, List.getElem_cons_succ, List.getElem_cons_zero]
                iterate 4 (refine ord_ex rfl rfl S0 ?_; apply Exists.intro; refine ⟨fun _ _ => ?_, ?_⟩; (focus (rename_i w hw; skip; go_simp; rfl)); simp only [Act.put, List.setIfInBounds_toArray, List.set_cons_zero, List.set_cons_succ, List.getElem_toArray, List.getElem_cons_succ, List.getElem_cons_zero])
                refine ord_load_at rfl rfl rfl g0 (i7 * 32) (by first | rfl | (simp [Act.eval]; done)) 110 _ (bitArr D).toList (fun _ h => ⟨_, h.1.choose_spec.1, h.1.choose_spec.2.2⟩) Tryd.underlying110 rfl (HE.out.2.2.2.2.2.2.2.1 D) S0 ?_
                simp only [Act.put, List.setIfInBounds_toArray, List.set_cons_zero, List.set_cons_succ, List.getElem_toArray, List.getElem_cons_succ, List.getElem_cons_zero]
                refine ord_load_blk rfl rfl rfl gD 0 (by first | rfl | (simp [Act.eval]; done)) (bitArr (sig1 B)) 110 (fun _ h => h.2.2) _ (bitArr (sig1 B)).toList (fun j u hj => by rw [Nat.zero_add]; simpa using hj) Tryd.underlying110 rfl (HE.out.2.2.2.2.2.2.2.1 (sig1 B)) S0 ?_
                simp only [Act.put, List.setIfInBounds_toArray, List.set_cons_zero, List.set_cons_succ, List.getElem_toArray, List.getElem_cons_succ, List.getElem_cons_zero]
                refine ord_act rfl ?_
                go_wp2_with fail
                refine (plus_any _ C (sig0 A)).mono ?_
                rintro e w1 ⟨rfl, u1⟩
                have W1 := W0.upd0 u1
                have U1 := U0.trans u1 (by simp)
                have C1 := C0.upd u1 (by simp)
                have D1 := D0.upd u1 (by simp)
                have S1 := And.intro (HR.out _ W1) (And.intro C1 D1)
                go_wp2_with fail
                refine ⟨fun _ => S1, ?_⟩
                clear S0 W0 C0 D0 U0 u1
                refine ord_act rfl ?_
                go_wp2_with fail
                refine (plus_any _ (C + sig0 A) D).mono ?_
                rintro e w2 ⟨rfl, u2⟩
                have W2 := W1.upd0 u2
                have U2 := U1.trans u2 (by simp)
                have C2 := C1.upd u2 (by simp)
                have D2 := D1.upd u2 (by simp)
                have S2 := And.intro (HR.out _ W2) (And.intro C2 D2)
                go_wp2_with fail
                refine ⟨fun _ => S2, ?_⟩
                clear S1 W1 C1 D1 U1 u2
                refine ord_act rfl ?_
                go_wp2_with fail
                refine (plus_any _ (C + sig0 A + D) (sig1 B)).mono ?_
                rintro e w3 ⟨rfl, u3⟩
                have W3 := W2.upd0 u3
                have U3 := U2.trans u3 (by simp)
                have C3 := C2.upd u3 (by simp)
                have D3 := D2.upd u3 (by simp)
                have S3 := And.intro (HR.out _ W3) (And.intro C3 D3)
                go_wp2_with fail
                refine ⟨fun _ => S3, ?_⟩
                clear S2 W2 C2 D2 U2 u3
                rw [HN.out.2]
                have W4 := W3.upd0 ((Upd.refl [] w3).alloc (.cells (bitArr x) 110))
                have U4 := U3.alloc (.cells (bitArr x) 110)
                have C4 := C3.alloc (.cells (bitArr x) 110)
                have D4 := D3.alloc (.cells (bitArr x) 110)
                have S4 := And.intro (HR.out _ W4) (And.intro C4 D4)
                have hsl : Sl (w3.alloc (.cells (bitArr x) 110)) (.slice (some ⟨w3.heap.size, 0, none⟩) 1 1) 1 32 (bitArr x).toList := Sl.ofBlk (Blk.new w3 _ _) (by simp [bit_size]) (by unfold maxLen; omega)
                have hbase : w.heap.size ≤ (w3.alloc (.cells (bitArr x) 110)).heap.size := U4.size
                have hwA := W4
                unfold WordsAt at hwA
                rw [rowTo_len] at hwA
                refine ord_act rfl ?_
                refine wpList_buildSlice1 (o := ⟨some 85, _, _, _, _, _⟩) rfl 120 110 (.tmp 84) rfl (.agg (bitArr x)) _ 32 32 (by rfl) Tryd.underlying120 info_bits HZ.out.2.1 (by decide) (by decide) ?_
                simp only [Act.put, List.setIfInBounds_toArray, List.set_cons_zero, List.set_cons_succ, List.getElem_toArray, List.getElem_cons_succ, List.getElem_cons_zero]
                refine ⟨fun _ => S4, ?_⟩
                refine ord_act rfl ?_
                refine wpList_app_old _ (by rfl) (.tmp 69) (.tmp 85) 120 (by rfl) w.heap.size 110 (.agg (bitArr 0)) 32 32 Tryd.underlying120 info_bits HZ.out.1 (by decide) (.slice (some ⟨g0, 0, none⟩) i vc) i (bitRow (rowTo b i)) (by rfl) hwA (.slice (some ⟨w3.heap.size, 0, none⟩) 1 1) 1 (bitArr x).toList (by rfl) hsl HZ.out.2.2.1 HZ.out.2.2.2 (by decide) hbase (by decide) ?_
                intro ao2 c2 w5 h5 hold5
                have hrow := h5.own
                rw [← bitRow_snoc, ← HN.out.1] at hrow
                have W5 : WordsAt w5 w.heap.size (.slice ao2 (i + 1) c2) (rowTo b (i + 1)) := by unfold WordsAt; rw [rowTo_len]; exact hrow
                have V5 : WordsAt w5 w.heap.size (.slice (some ⟨g0, 0, none⟩) i vc) (rowTo b i) := by unfold WordsAt; rw [rowTo_len]; exact hold5
                have C5 := h5.keeps C4 (by simp [blkOf]; omega)
                have D5 := h5.keeps D4 (by simp [blkOf]; omega)
                have S5 := And.intro (HR.out _ V5) (And.intro C5 D5)
                have U5 : Upd [] w w5 := U4.trans h5.upd (fun k' hk => by
                  right
                  have := HE.out.2.2.2.2.2.2.1
                  simp [Value.ownBlock] at hk
                  omega)
                have H5 := Lib.hid (And.intro W5 U5)
                clear hrow hold5 W5 V5 U5 h5 hwA hsl hbase W4 U4 C4 D4 S4 W3 U3 C3 D3 S3
                simp only [Act.put, List.setIfInBounds_toArray, List.set_cons_zero, List.set_cons_succ, List.getElem_toArray, List.getElem_cons_succ, List.getElem_cons_zero]
                refine ⟨fun _ => S5, ?_⟩
                (refine ord_ex rfl rfl S5 ?_; apply Exists.intro; refine ⟨fun _ _ => ?_, ?_⟩; (focus (rename_i w hw; skip; go_simp; rfl)); simp only [Act.put, List.setIfInBounds_toArray, List.set_cons_zero, List.set_cons_succ, List.getElem_toArray, List.getElem_cons_succ, List.getElem_cons_zero])
                first | (show Exit.inBlock _ _ Exit.normal _ _) | (show Exit.then _ _ Exit.normal _ _)
                go_wp2
                go_roundw
                case rel => exact ⟨i + 1, by omega, by omega, by go_num, ⟨_, _, rfl⟩, H5.out.1, H5.out.2⟩
                case measure => simp [intOf]; omega
        · obtain rfl : i = 64 := by omega
          go_wp2
          go_ret
          exact ⟨_, _, rfl, HX.out.1, HX.out.2⟩
end Go.Proofs.YtnfnaedoejgpiaaDoor
