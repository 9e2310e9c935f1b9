/- A disk's sectors, as the law reads them; the law's look at the size of its calls. -/
import Derived.Test.YtnfnaedoejgpiaaDoorRefReadW
namespace Go.Proofs.YtnfnaedoejgpiaaDoor
open Go.RowKit

def AllPost (W : World) (ss : List (List UInt8)) (e : Ending) (w : World) : Prop :=
  ∃ ao c vs, e = .returned (.slice ao ss.length c) ∧ RowsAt w W.heap.size (.slice ao ss.length c) vs ss ∧ Upd [] W w
def RelAll (W : World) (ss : List (List UInt8)) (v i : Value) (w : World) : Prop :=
  ∃ n vs, n ≤ ss.length ∧ i = .int .i64 (n : Nat) ∧ (∃ ao c, v = .slice ao n c) ∧ RowsAt w W.heap.size v vs (ss.take n) ∧ Upd [] W w
set_option maxRecDepth 4000 in
set_option maxHeartbeats 1000000 in
theorem all_any (w : World) (F : DiskF) (D : DiskS) (h : DiskAt w F D) (hf : D.fuse ≠ 0) :
    Calls Tryd.prog 19 #[.pointer (some ⟨F.d, 0, none⟩)] w (AllPost w D.now) := by
  have HS := Lib.hid (And.intro h hf)
  have hfew := h.ok.few
  clear h hf
  obtain ⟨ss, hss⟩ : ∃ ss, D.now = ss := ⟨_, rfl⟩
  have HSS := Lib.hid hss
  rw [hss] at hfew ⊢
  clear hss
  go_enter Tryd.func19, Tryd.ntmps19
  go_wp2_with fail
  go_loopw [3, 4] (RelAll w ss) (fun _ i _ => ((ss.length : Int) - intOf i).toNat)
  case atStart => exact ⟨0, [], Nat.zero_le _, rfl, ⟨none, 0, rfl⟩, RowsAt.nil _ _, Upd.refl _ _⟩
  case round =>
    obtain ⟨n, vs, hn, rfl, ⟨vo, vc, rfl⟩, hrow, hu⟩ := hrel
    have hd := HS.out.1.upd hu (by simp)
    have HD := Lib.hid hd
    clear hd
    rcases Nat.lt_or_ge n ss.length with hlt | hge
    · have hlt' : n < D.now.length := by rw [HSS.out]; exact hlt
      have hR := dread_good wr F D n HD.out HS.out.2 hlt'
      have hx : D.now[n] = ss[n] := by simp only [HSS.out]
      rw [hx] at hR
      have hxl : ss[n].length = 64 := by rw [← hx]; exact HS.out.1.ok.n64 _ (List.getElem_mem _)
      have hst : ss.take (n + 1) = ss.take n ++ [ss[n]] := by simp
      have HX := Lib.hid (And.intro hR (And.intro hrow (And.intro hu (And.intro hst hxl))))
      clear hR hrow hu hst hxl hx hlt'
      generalize ss[n] = x at *
      go_wp2_with fail
      refine (sectors_any wr F D HD.out).mono ?_
      rintro e w' ⟨rfl, rfl⟩
      rw [HSS.out]
      go_wp2_with fail
      refine HX.out.1.mono ?_
      rintro e w1 ⟨ao, c, rfl, h1⟩
      have hU : Upd [] w w1 := HX.out.2.2.1.trans h1.2 (by simp)
      have hr3 : RowsAt w1 w.heap.size (.slice vo n vc) vs (ss.take n) := HX.out.2.1.upd0 h1.2
      have hlen : (ss.take n).length = n := by simp; omega
      have hsl : w1.ownsRow w.heap.size 5 1 (.slice ao 64 c) x.length (x.map bv) := own_base h1.1 (by have h1 := (own_lt h1.1).2; have h2 := HX.out.2.2.1.size; omega)
      have hr4 := hr3.upd0 (Upd.refl [] w1 |>.alloc (.cells #[.slice ao 64 c] 26))
      have hx4 := own_upd hsl (Upd.refl [] w1 |>.alloc (.cells #[.slice ao 64 c] 26)) (by simp)
      have hrow := hr4.row
      rw [hlen] at hrow
      have hs3 := hU.size
      have H4 := Lib.hid (And.intro hU (And.intro hr4 (And.intro hx4 (And.intro hrow (And.intro (Blk.new w1 #[.slice ao 64 c] 26).sl1 (And.intro hlen hs3))))))
      clear hU hr3 hlen hsl hr4 hx4 hrow hs3 h1
      go_wp2_with (at_builtin; refine wpList_app _ rfl (.tmp 26) (.tmp 28) 24 rfl w.heap.size 26 (.slice none 0 0) 1 24 Tryd.underlying24 info_bytes rfl (by decide) (.slice vo n vc) n vs rfl H4.out.2.2.2.1 (.slice (some ⟨w1.heap.size, 0, none⟩) 1 1) 1 [.slice ao 64 c] rfl H4.out.2.2.2.2.1 (by simp [Value.oneCell']) (by omega) (by decide) (by have := H4.out.2.2.2.2.2.2; simp; omega) ?_)
      intro ao2 c2 w4 h4
      have hrw := RowsAt.app H4.out.2.1 H4.out.2.2.1 (by rw [H4.out.2.2.2.2.2.1]; exact h4)
      rw [← HX.out.2.2.2.1] at hrw
      have hu4 : Upd [] w w4 := (H4.out.1.alloc _).trans h4.upd (fun k hk => by
        right
        have := own_lt H4.out.2.2.2.1
        rw [own_block] at hk
        split at hk
        · simp at hk
        · simp at hk; omega)
      have H5 := Lib.hid (And.intro hrw hu4)
      clear hrw hu4 h4
      go_wp2
      go_roundw
      case rel => exact ⟨n + 1, _, by omega, by go_num, ⟨_, _, rfl⟩, H5.out.1, H5.out.2⟩
      case measure => simp [intOf]; omega
    · obtain rfl : n = ss.length := by omega
      rw [List.take_length] at hrow
      have H5 := Lib.hid (And.intro hrow hu)
      clear hrow hu
      go_wp2_with fail
      refine (sectors_any wr F D HD.out).mono ?_
      rintro e w' ⟨rfl, rfl⟩
      rw [HSS.out]
      go_wp2
      go_ret
      exact ⟨vo, vc, vs, rfl, H5.out.1, H5.out.2⟩
/-- A call: its kind, its number, its bytes and its picks, and where they lie. -/
structure OpS where
  kind : UInt8
  n : Int
  v : Value
  b : List UInt8
  p : Value
  pick : List Bool
def OpS.cells (o : OpS) : List Value := [.int .u8 (o.kind.toNat : Int), .int .i64 o.n, o.v, o.p]
/-- The calls of a slice: each reads its bytes and its picks, and these lie below a block. -/
structure OpsAt (w : World) (B : Nat) (v : Value) (os : List OpS) : Prop where
  row : Sl w v os.length 4 (os.flatMap OpS.cells)
  blk : blkE v ≤ B
  bytes : ∀ o ∈ os, Bytes w o.v o.b ∧ blkE o.v ≤ B ∧ -9223372036854775808 ≤ o.n ∧ o.n ≤ 9223372036854775807
  picks : ∀ o ∈ os, Sl w o.p o.pick.length 1 (o.pick.map Value.bool) ∧ blkE o.p ≤ B
theorem OpsAt.upd {S : List Nat} {w w' : World} {B : Nat} {v : Value} {os : List OpS} (h : OpsAt w B v os) (hu : Upd S w w') (hS : ∀ k ∈ S, B ≤ k) : OpsAt w' B v os :=
  ⟨h.row.updE hu (fun k hk => by have := hS k hk; have := h.blk; omega), h.blk, fun o ho => ⟨(h.bytes o ho).1.updE hu (fun k hk => by have := hS k hk; have := (h.bytes o ho).2.1; omega), (h.bytes o ho).2⟩,
    fun o ho => ⟨(h.picks o ho).1.updE hu (fun k hk => by have := hS k hk; have := (h.picks o ho).2; omega), (h.picks o ho).2⟩⟩
theorem flatMap_at {α : Type} {f : α → List Value} {n : Nat} (hf : ∀ a, (f a).length = n) : ∀ (l : List α) (i j : Nat) (hi : i < l.length), j < n → (l.flatMap f)[i * n + j]? = (f l[i])[j]?
  | a :: l, 0, j, _, hj => by
    rw [List.flatMap_cons, Nat.zero_mul, Nat.zero_add, List.getElem?_append_left (by rw [hf]; exact hj)]; rfl
  | a :: l, i + 1, j, hi, hj => by
    rw [List.flatMap_cons, List.getElem?_append_right (by rw [hf, Nat.add_mul]; omega), hf, show (i + 1) * n + j - n = i * n + j by rw [Nat.add_mul]; omega]
    exact flatMap_at hf l i j (by simpa using hi) hj
/-- The cells of the i-th call. -/
theorem OpsAt.cell {w : World} {B : Nat} {lo : Option Addr} {m lc : Nat} {os : List OpS} (h : OpsAt w B (.slice lo m lc) os) (hm : os.length = m) {i : Nat} (hi : i < m) : ∃ b o, lo = some ⟨b, o, none⟩ ∧ b < w.heap.size ∧ b < B ∧ ∀ j u, (os[i]'(by omega)).cells[j]? = some u → w.cell? ⟨b, o + i * 4 + j, none⟩ = some u := by
  have hr := h.row
  rw [hm] at hr
  obtain ⟨b, o, hlo, hb, hc⟩ := Sl.addr hr (by omega)
  have hcap : m ≤ lc := by obtain ⟨_, _, hv, h1, _⟩ := hr; simp only [Value.slice.injEq] at hv; omega
  have hB := h.blk
  rw [hlo] at hB
  simp only [blkE] at hB
  rw [if_neg (by omega)] at hB
  refine ⟨b, o, hlo, hb, by omega, fun j u hj => ?_⟩
  have hj4 : j < 4 := by have := (List.getElem?_eq_some_iff.1 hj).1; simpa [OpS.cells] using this
  rw [Nat.add_assoc]
  refine hc _ u ?_
  rw [flatMap_at (f := OpS.cells) (n := 4) (fun a => rfl) os i j (by omega) hj4]; exact hj
/-- The law's look at the size of its calls. -/
def okOp (o : OpS) : Prop := o.b.length ≤ 5000 ∧ o.pick.length ≤ 200
def fewP (os : List OpS) (n : Int) : Prop := (∀ o ∈ os.take 100, okOp o) ∧ (os.length : Int) ≤ n
def RelFew (W : World) (os : List OpS) (i : Value) (w : World) : Prop := ∃ k : Nat, k ≤ os.length ∧ k ≤ 100 ∧ i = .int .i64 k ∧ (∀ o ∈ os.take k, okOp o) ∧ Upd [] W w
def FewPost (W : World) (os : List OpS) (n : Int) (e : Ending) (w : World) : Prop := ∃ b : Bool, e = .returned (.bool b) ∧ (b = true ↔ fewP os n) ∧ Upd [] W w
set_option maxRecDepth 4000 in
set_option maxHeartbeats 1000000 in
theorem few_any (w : World) (B : Nat) (lo : Option Addr) (m lc : Nat) (os : List OpS) (n : Int) (h : OpsAt w B (.slice lo m lc) os) (hm : os.length = m) (hm2 : m ≤ 9223372036854775807) :
    Calls Tryd.prog 15 #[.slice lo m lc, .int .i64 n] w (FewPost w os n) := by
  have HS := Lib.hid (And.intro h hm)
  clear h hm
  go_enter Tryd.func15, Tryd.ntmps15
  go_wp2_with fail
  go_loopw [5] (RelFew w os) (fun i _ => ((m : Int) - intOf i).toNat)
  case atStart => exact ⟨0, by omega, by omega, rfl, by simp, Upd.refl _ _⟩
  case round =>
    obtain ⟨k, hk, hk2, rfl, hok, hu⟩ := hrel
    rw [HS.out.2] at hk
    have HX := Lib.hid (And.intro hok hu)
    clear hok hu
    rcases Decidable.em (k < m ∧ k < 100) with hgo | hend
    · obtain ⟨h1, h2⟩ := hgo
      obtain ⟨b, o, hlo, hb, hB, hc⟩ := OpsAt.cell HS.out.1 HS.out.2 h1
      subst hlo
      have c2 := cell_upd (hc 2 _ rfl) hb HX.out.2 (by simp)
      have c3 := cell_upd (hc 3 _ rfl) hb HX.out.2 (by simp)
      have hkl : k < os.length := by have := HS.out.2; omega
      have hmem : os[k] ∈ os := List.getElem_mem hkl
      obtain ⟨vo, vc, hv, hvc, hvm, -⟩ := (HS.out.1.bytes _ hmem).1
      obtain ⟨po, pc, hp, hpc, hpm, -⟩ := (HS.out.1.picks _ hmem).1
      have htk : os.take (k + 1) = os.take k ++ [os[k]] := by simp
      have hmem2 : os[k] ∈ os.take 100 := by
        rw [List.mem_take_iff_getElem]
        exact ⟨k, by omega, rfl⟩
      have HT := Lib.hid (And.intro htk hmem2)
      rw [hv] at c2
      rw [hp] at c3
      clear hc htk hv hp hmem hmem2
      generalize os[k] = op at *
      obtain ⟨bl, hbl⟩ : ∃ bl, op.b.length = bl := ⟨_, rfl⟩
      obtain ⟨pl, hpl⟩ : ∃ pl, op.pick.length = pl := ⟨_, rfl⟩
      rw [hbl] at c2 hvc
      rw [hpl] at c3 hpc
      have HL := Lib.hid (And.intro hbl hpl)
      clear hbl hpl
      have hbl2 : bl ≤ 9223372036854775807 := by have : maxLen = 9223372036854775807 := rfl; omega
      have hpl2 : pl ≤ 9223372036854775807 := by have : maxLen = 9223372036854775807 := rfl; omega
      rcases Classical.em (okOp op) with hok | hno
      · have h5 : bl ≤ 5000 := by have := hok.1; have := HL.out.1; omega
        have h6 : pl ≤ 200 := by have := hok.2; have := HL.out.2; omega
        have HO := Lib.hid hok
        clear hok
        go_wp2
        go_roundw
        case rel => exact ⟨k + 1, by have := HS.out.2; omega, by omega, by go_num, by
          rw [HT.out.1]
          intro x hx
          rcases List.mem_append.1 hx with hx | hx
          · exact HX.out.1 x hx
          · rw [List.mem_singleton.1 hx]; exact HO.out, HX.out.2⟩
        case measure => simp [intOf]; omega
      · have hnf : ¬ fewP os n := fun h => hno (h.1 op HT.out.2)
        have hcase : 5000 < bl ∨ (bl ≤ 5000 ∧ 200 < pl) := by
          have h1 := HL.out.1
          have h2 := HL.out.2
          unfold okOp at hno
          omega
        have HN := Lib.hid hnf
        clear hnf hno
        rcases hcase with h | ⟨h, h'⟩
        · go_wp2
          go_ret
          exact ⟨false, rfl, ⟨fun h => (by cases h), fun h => absurd h HN.out⟩, HX.out.2⟩
        · go_wp2
          go_ret
          exact ⟨false, rfl, ⟨fun h => (by cases h), fun h => absurd h HN.out⟩, HX.out.2⟩
    · have hall : ∀ o ∈ os.take 100, okOp o := by
        have h1 := HX.out.1
        have h2 := HS.out.2
        rcases Nat.lt_or_ge k 100 with h | h
        · have : os.take 100 = os.take k := by rw [List.take_of_length_le (by omega), List.take_of_length_le (by omega)]
          rw [this]; exact h1
        · have : k = 100 := by omega
          rw [← this]; exact h1
      have hres : decide ((m : Int) ≤ n) = true ↔ fewP os n := by
        unfold fewP
        rw [HS.out.2, decide_eq_true_eq]
        exact ⟨fun h => ⟨hall, h⟩, fun h => h.2⟩
      obtain ⟨r, hr⟩ : ∃ r, decide ((m : Int) ≤ n) = r := ⟨_, rfl⟩
      rw [hr] at hres
      have HR := Lib.hid hres
      have hcase : m ≤ k ∨ (k < m ∧ 100 ≤ k) := by omega
      clear hall hres hend
      rcases hcase with h | ⟨h, h'⟩
      · go_wp2
        go_ret
        exact ⟨r, rfl, HR.out, HX.out.2⟩
      · go_wp2
        go_ret
        exact ⟨r, rfl, HR.out, HX.out.2⟩
end Go.Proofs.YtnfnaedoejgpiaaDoor
