/- What the functions of package sha do, said of words of 32 bits. -/
import Derived.Test.YtnfnaedoejgpiaaDoorCodec
import Derived.Test.YtnfnaedoejgpiaaDoorHeld
import Derived.Deep.QuietTactic
import Derived.BigQuiet
namespace Go.Proofs.YtnfnaedoejgpiaaDoor
open Go.RowKit

/-- A word as a value. -/
abbrev wv (x : BitVec 32) : Value := .int .u32 (x.toNat : Int)
theorem w_lt (x : BitVec 32) : x.toNat < 4294967296 := x.isLt
theorem w_xor (x y : BitVec 32) : bits .xor .u32 (x.toNat : Int) (y.toNat : Int) = ((x ^^^ y).toNat : Int) := by rw [u32_xor_nat _ _ x.isLt y.isLt, BitVec.toNat_xor]
theorem w_and (x y : BitVec 32) : bits .and .u32 (x.toNat : Int) (y.toNat : Int) = ((x &&& y).toNat : Int) := by rw [u32_and_nat _ _ x.isLt y.isLt, BitVec.toNat_and]
theorem w_or (x y : BitVec 32) : bits .or .u32 (x.toNat : Int) (y.toNat : Int) = ((x ||| y).toNat : Int) := by rw [u32_or_nat _ _ x.isLt y.isLt, BitVec.toNat_or]
theorem w_add (x y : BitVec 32) : IntKind.u32.wrap ((x.toNat : Int) + (y.toNat : Int)) = ((x + y).toNat : Int) := by
  have hx := x.isLt; have hy := y.isLt
  rw [BitVec.toNat_add]; simp [IntKind.wrap, IntKind.bits, IntKind.signed]
theorem w_shl (x : BitVec 32) (s : Nat) : IntKind.u32.wrap ((x.toNat : Int) * 2 ^ s) = ((x <<< s).toNat : Int) := by
  rw [BitVec.toNat_shiftLeft, Nat.shiftLeft_eq]; simp [IntKind.wrap, IntKind.bits, IntKind.signed]
theorem w_shr (x : BitVec 32) (s : Nat) : (x.toNat : Int) / 2 ^ s = ((x >>> s).toNat : Int) := by
  rw [BitVec.toNat_ushiftRight, Nat.shiftRight_eq_div_pow]; simp

theorem n_xor (x y : BitVec 32) : x.toNat ^^^ y.toNat = (x ^^^ y).toNat := rfl
theorem n_and (x y : BitVec 32) : x.toNat &&& y.toNat = (x &&& y).toNat := rfl
theorem n_or (x y : BitVec 32) : x.toNat ||| y.toNat = (x ||| y).toNat := rfl
theorem n_add (x y : BitVec 32) : ((x.toNat : Int) + (y.toNat : Int)) % 4294967296 = ((x + y).toNat : Int) := by rw [← w_add]; simp [IntKind.wrap, IntKind.bits, IntKind.signed]
theorem n_shl (x : BitVec 32) (s : Nat) : ((x.toNat : Int) * 2 ^ s) % 4294967296 = ((x <<< s).toNat : Int) := by rw [← w_shl]; simp [IntKind.wrap, IntKind.bits, IntKind.signed]

theorem i_shl (x : BitVec 32) (s : Nat) : ((x.toNat : Int) <<< s) % 4294967296 = ((x <<< s).toNat : Int) := by rw [← n_shl, Int.shiftLeft_eq]
theorem i_shr (x : BitVec 32) (s : Nat) : ((x.toNat : Int) >>> s) = ((x >>> s).toNat : Int) := by rw [← w_shr, Int.shiftRight_eq_div_pow]; simp

/-- A word, turned right. -/
def rotr (x : BitVec 32) (a : Nat) : BitVec 32 := x <<< (32 - a) ||| x >>> a
theorem turn_by (a : Nat) (h1 : 1 ≤ a) (h2 : a ≤ 31) : bits .and .u64 (IntKind.u64.wrap (-(a : Int))) 31 = 32 - a := by
  have h : ∀ a : Fin 32, 1 ≤ a.val → bits .and .u64 (IntKind.u64.wrap (-(a.val : Int))) 31 = 32 - a.val := by decide
  exact h ⟨a, by omega⟩ h1

theorem rot_any (w : World) (x : BitVec 32) (a : Nat) (h1 : 1 ≤ a) (h2 : a ≤ 31) :
    Calls Tryd.prog 85 #[wv x, .int .i64 (-(a : Int))] w fun e w' => e = .returned (wv (rotr x a)) ∧ w = w' := by
  have ht := turn_by a h1 h2
  have hs : ((32 - a : Nat) : Int) = 32 - (a : Int) := by omega
  unfold rotr
  go_enter Tryd.func85, Tryd.ntmps85
  go_wp2
  go_ret
  have e3 : 32 - (32 - a) = a := by omega
  refine ⟨congrArg Ending.returned ?_, rfl⟩
  show Value.int .u32 _ = Value.int .u32 _
  rw [n_shl, e3, w_shr, w_or]

/-- Three turns; two turns and a shift. -/
def turned (x : BitVec 32) (a b c : Nat) : BitVec 32 := rotr x a ^^^ rotr x b ^^^ rotr x c
def half (x : BitVec 32) (a b s : Nat) : BitVec 32 := rotr x a ^^^ rotr x b ^^^ x >>> s
theorem turned_any (w : World) (x : BitVec 32) (a b c : Nat) (ha : 1 ≤ a ∧ a ≤ 31) (hb : 1 ≤ b ∧ b ≤ 31) (hc : 1 ≤ c ∧ c ≤ 31) :
    Calls Tryd.prog 83 #[wv x, .int .i64 a, .int .i64 b, .int .i64 c] w fun e w' => e = .returned (wv (turned x a b c)) ∧ w = w' := by
  have ra := rot_any w x a ha.1 ha.2
  have rb := rot_any w x b hb.1 hb.2
  have rc := rot_any w x c hc.1 hc.2
  unfold turned
  generalize rotr x a = A at *
  generalize rotr x b = B at *
  generalize rotr x c = C at *
  go_enter Tryd.func83, Tryd.ntmps83
  go_wp2_with (go_at_call 85; (first | (with_reducible refine ra.mono ?_) | (with_reducible refine rb.mono ?_) | (with_reducible refine rc.mono ?_)); rintro e w' ⟨rfl, rfl⟩)
  go_ret
  (refine ⟨congrArg Ending.returned ?_, rfl⟩; show Value.int .u32 _ = Value.int .u32 _; simp only [n_xor, n_and, n_or, n_add, w_xor, w_and, w_or, w_add, n_shl, i_shl, i_shr, w_shr])
theorem rot_quiet (w : World) (n : Nat) (x : BitVec 32) (a : Nat) (h1 : 1 ≤ a) (h2 : a ≤ 31) :
    Calls Tryd.prog 85 #[wv x, .int .i64 (-(a : Int))] (w.drewN n) fun e w' => e = .returned (wv (rotr x a)) ∧ ∃ m, w' = w.drewN m := (rot_any _ x a h1 h2).mono fun _ _ h => ⟨h.1, n, h.2.symm⟩
theorem half_any (w : World) (x : BitVec 32) (a b s : Nat) (ha : 1 ≤ a ∧ a ≤ 31) (hb : 1 ≤ b ∧ b ≤ 31) (hs : s ≤ 31) :
    Calls Tryd.prog 86 #[wv x, .int .i64 a, .int .i64 b, .int .i64 s] w fun e w' => e = .returned (wv (half x a b s)) ∧ ∃ m, w' = w.drewN m := by
  have ra := fun n => rot_quiet w n x a ha.1 ha.2
  have rb := fun n => rot_quiet w n x b hb.1 hb.2
  unfold half
  generalize rotr x a = A at *
  generalize rotr x b = B at *
  have s1 : (0 : Int) ≤ s := by omega
  have s2 : (s : Int) ≤ 32 := by omega
  go_enter Tryd.func86, Tryd.ntmps86
  go_wp2
  go_quiet ((go_at_call 85; first | (with_reducible exact ra _) | (with_reducible exact rb _)))
  go_wp2
  go_ret
  refine ⟨congrArg Ending.returned ?_, _, rfl⟩
  show Value.int .u32 _ = Value.int .u32 _
  simp only [w_xor, w_shr]
/-- The schedule's next word. -/
def sched (s : List (BitVec 32)) (i : Nat) : List (BitVec 32) :=
  if i < 16 then s else s.set (i % 16) (s.getD (i % 16) 0 + (half (s.getD ((i + 1) % 16) 0) 7 18 3 + s.getD ((i + 9) % 16) 0 + half (s.getD ((i + 14) % 16) 0) 17 19 10))
def ws (s : List (BitVec 32)) : Array Value := (s.map wv).toArray
def NextPost (W : World) (p : Nat) (s : List (BitVec 32)) (v : BitVec 32) (e : Ending) (w : World) : Prop := e = .returned (wv v) ∧ Blk w p (ws s) 140 ∧ Upd [p] W w
theorem ws_cell {w : World} {p : Nat} {s : List (BitVec 32)} {t : TypeId} (h : Blk w p (ws s) t) {k : Nat} (hk : k < s.length) : w.cell? ⟨p, k, none⟩ = some (wv (s.getD k 0)) :=
  h.cell (by simp [ws, hk])

set_option maxHeartbeats 1000000 in
theorem next_any (w : World) (p i : Nat) (s : List (BitVec 32)) (hb : Blk w p (ws s) 140) (hs : s.length = 16) (hi : i < 64) :
    Calls Tryd.prog 84 #[.pointer (some ⟨p, 0, none⟩), .int .i64 i] w (NextPost w p (sched s i) ((sched s i).getD (i % 16) 0)) := by
  have j0 : i % 16 < 16 := by omega
  have j1 : (i + 1) % 16 < 16 := by omega
  have j9 : (i + 9) % 16 < 16 := by omega
  have j14 : (i + 14) % 16 < 16 := by omega
  have f0 : (i : Int) % 16 = ((i % 16 : Nat) : Int) := by omega
  have f1 : ((i : Int) + 1) % 16 = (((i + 1) % 16 : Nat) : Int) := by omega
  have f9 : ((i : Int) + 9) % 16 = (((i + 9) % 16 : Nat) : Int) := by omega
  have f14 : ((i : Int) + 14) % 16 = (((i + 14) % 16 : Nat) : Int) := by omega
  have t0 : (i : Int).tmod 16 = ((i % 16 : Nat) : Int) := by rw [Int.tmod_eq_emod_of_nonneg (by omega)]; omega
  have t1 : ((i : Int) + 1).tmod 16 = (((i + 1) % 16 : Nat) : Int) := by rw [Int.tmod_eq_emod_of_nonneg (by omega)]; omega
  have t9 : ((i : Int) + 9).tmod 16 = (((i + 9) % 16 : Nat) : Int) := by rw [Int.tmod_eq_emod_of_nonneg (by omega)]; omega
  have t14 : ((i : Int) + 14).tmod 16 = (((i + 14) % 16 : Nat) : Int) := by rw [Int.tmod_eq_emod_of_nonneg (by omega)]; omega
  have v1 : IntKind.i64.wrap ((i : Int) + 1) = (i : Int) + 1 := by rw [IntKind.wrap_i64]; omega
  have v9 : IntKind.i64.wrap ((i : Int) + 9) = (i : Int) + 9 := by rw [IntKind.wrap_i64]; omega
  have v14 : IntKind.i64.wrap ((i : Int) + 14) = (i : Int) + 14 := by rw [IntKind.wrap_i64]; omega
  have C := fun w (h : Blk w p (ws s) 140) => And.intro (ws_cell h (k := i % 16) (by omega)) (And.intro (ws_cell h (k := (i + 1) % 16) (by omega)) (And.intro (ws_cell h (k := (i + 9) % 16) (by omega)) (ws_cell h (k := (i + 14) % 16) (by omega))))
  have hl := hs
  unfold sched
  generalize i % 16 = k0 at *
  generalize (i + 1) % 16 = k1 at *
  generalize (i + 9) % 16 = k9 at *
  generalize (i + 14) % 16 = k14 at *
  have J0 : (k0 : Int) < 16 := by omega
  have J1 : (k1 : Int) < 16 := by omega
  have J9 : (k9 : Int) < 16 := by omega
  have J14 : (k14 : Int) < 16 := by omega
  have h0 : ∀ x, (s.set k0 x).getD k0 0 = x := fun x => by simp [hl, j0]
  have hT : (if i < 16 then s else s.set k0 (s.getD k0 0 + (half (s.getD k1 0) 7 18 3 + s.getD k9 0 + half (s.getD k14 0) 17 19 10))).getD k0 0 = if i < 16 then s.getD k0 0 else (s.getD k0 0 + (half (s.getD k1 0) 7 18 3 + s.getD k9 0 + half (s.getD k14 0) 17 19 10)) := by split <;> simp only [h0]
  rw [hT]
  clear hT
  generalize s.getD k0 0 = x0 at *
  generalize s.getD k1 0 = x1 at *
  generalize s.getD k9 0 = x9 at *
  generalize s.getD k14 0 = x14 at *
  have c0 := (C w hb).1
  by_cases h16 : i < 16
  · rw [if_pos h16, if_pos h16]
    go_enter Tryd.func84, Tryd.ntmps84
    go_wp2
    go_ret
    exact ⟨rfl, hb, Upd.refl _ _⟩
  · rw [if_neg h16, if_neg h16]
    go_enter Tryd.func84, Tryd.ntmps84
    go_wp2
    refine wp_region_ord (S := fun w => Blk w p (ws s) 140) (.take 0 (.take 1 (.take 2 (.take 3 (.take 4 (.take 5 (.take 6 (.take 7 (.take 8 (.take 9 (.take 10 (.take 11 (.take 12 (.take 14 (.take 15 (.take 16 (.take 17 (.take 18 (.take 19 (.take 20 (.take 22 (.take 23 (.take 24 (.take 25 (.take 26 (.take 27 (.take 28 (.take 32 (.act 13 (.take 21 (.act 29 (.take 30 (.take 31 (.take 33 (.act 34 .done))))))))))))))))))))))))))))))))))) (by kernel_rfl) (by kernel_rfl) (fun _ _ d _ _ h => by cases d <;> exact h) ?_
    repeat (refine ord_ex rfl rfl hb ?_; apply Exists.intro; refine ⟨fun _ _ => ?_, ?_⟩; (focus (rename_i w hw; obtain ⟨c0, c1, c9, c14⟩ := C _ hw; go_simp; rfl)); simp only [Act.put, List.setIfInBounds_toArray, List.set_cons_zero, List.set_cons_succ, List.getElem_toArray, List.getElem_cons_succ, List.getElem_cons_zero])
    refine ord_act rfl ?_
    go_wp2_with fail
    refine (half_any _ x1 7 18 3 (by decide) (by decide) (by decide)).mono ?_
    rintro e w1 ⟨rfl, m1, rfl⟩
    generalize half x1 7 18 3 = y1 at *
    go_wp2_with fail
    refine ⟨fun _ => hb, ?_⟩
    repeat (refine ord_ex rfl rfl hb ?_; apply Exists.intro; refine ⟨fun _ _ => ?_, ?_⟩; (focus (rename_i w hw; obtain ⟨c0, c1, c9, c14⟩ := C _ hw; go_simp; rfl)); simp only [Act.put, List.setIfInBounds_toArray, List.set_cons_zero, List.set_cons_succ, List.getElem_toArray, List.getElem_cons_succ, List.getElem_cons_zero])
    refine ord_act rfl ?_
    go_wp2_with fail
    refine (half_any _ x14 17 19 10 (by decide) (by decide) (by decide)).mono ?_
    rintro e w1 ⟨rfl, m2, rfl⟩
    generalize half x14 17 19 10 = y14 at *
    go_wp2_with fail
    refine ⟨fun _ => hb, ?_⟩
    repeat (refine ord_ex rfl rfl hb ?_; apply Exists.intro; refine ⟨fun _ _ => ?_, ?_⟩; (focus (rename_i w hw; obtain ⟨c0, c1, c9, c14⟩ := C _ hw; go_simp; rfl)); simp only [Act.put, List.setIfInBounds_toArray, List.set_cons_zero, List.set_cons_succ, List.getElem_toArray, List.getElem_cons_succ, List.getElem_cons_zero])
    have hv : ((x0.toNat : Int) + ((y1.toNat : Int) + (x9.toNat : Int) + (y14.toNat : Int))) % 4294967296 = ((x0 + (y1 + x9 + y14)).toNat : Int) := by simp only [BitVec.toNat_add]; omega
    obtain ⟨y, hy⟩ : ∃ y, x0 + (y1 + x9 + y14) = y := ⟨_, rfl⟩
    rw [hy] at hv ⊢
    have hB : Blk (w.drewN (1 + m1 + m2)) p (ws s) 140 := hb
    have fB := hB.frozen k0
    have cB := (C _ hB).1
    have hU : Upd [p] w (w.drewN (1 + m1 + m2)) := ⟨rfl, rfl, rfl, Nat.le_refl _, fun _ _ _ => rfl⟩
    generalize (w.drewN (1 + m1 + m2)) = w2 at *
    have hS := hB.set k0 (wv y)
    have hU2 := upd_set hU (b := p) (i := k0) (.inl (by simp)) (wv y)
    refine ord_act rfl ?_
    go_wp2_with fail
    refine ⟨fun h => Bool.noConfusion (h.symm.trans (by kernel_rfl : waitsAll _ _ _ = true)), ?_⟩
    show Exit.then _ _ Exit.normal _ _
    have hS' : Blk (w2.setCell ⟨p, k0, none⟩ (.int .u32 (y.toNat : Int))) p (ws (s.set k0 y)) 140 := by
      have : (ws s).setIfInBounds k0 (wv y) = ws (s.set k0 y) := by simp [ws, List.map_set]
      rw [this] at hS; exact hS
    have c2 := ws_cell hS' (k := k0) (by simp; omega)
    rw [h0 y] at c2
    go_wp2
    go_ret
    simp only [hy]
    exact ⟨rfl, hS', hU2⟩
end Go.Proofs.YtnfnaedoejgpiaaDoor
