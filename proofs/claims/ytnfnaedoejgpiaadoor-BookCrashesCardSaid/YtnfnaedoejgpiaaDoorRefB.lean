/- Eight words as one array: its cells, how it is built, an element's place. The reference's words written in hexadecimal: the 64 of the rounds, the eight at the beginning. -/
import Derived.Test.YtnfnaedoejgpiaaDoorRefRow
namespace Go.Proofs.YtnfnaedoejgpiaaDoor

/-- Eight words as the cells of their array. -/
def eight (h : List (BitVec 32)) : Array Value := (bitRow h).toArray
theorem eight_size (h : List (BitVec 32)) (hl : h.length = 8) : (eight h).size = 256 := by simp [eight, bitRow_len, hl]
theorem eight_one (h : List (BitVec 32)) : (eight h).toList.all Value.oneCell' = true := List.all_eq_true.2 (by simpa [eight] using bitRow_one h)
theorem eight_at {h : List (BitVec 32)} {i : Nat} (hi : i < h.length) : ∀ j u, (bitArr (h.getD i 0)).toList[j]? = some u → (eight h)[i * 32 + j]? = some u := by
  intro j u hj
  have := bitRow_at hi j u hj
  simpa [eight] using this
theorem size_eight : (Tryd.prog.info? 111).map (·.size) = some 256 := by kernel_rfl
theorem eight_zero : (Tryd.prog.info? 111).map (·.zero) = some (some (.agg (eight [0, 0, 0, 0, 0, 0, 0, 0]))) := by kernel_rfl
theorem run_build8 (x0 x1 x2 x3 x4 x5 x6 x7 : BitVec 32) (w : World) :
    (Instr.build 111 #[(0, .agg (bitArr x0)), (1, .agg (bitArr x1)), (2, .agg (bitArr x2)), (3, .agg (bitArr x3)), (4, .agg (bitArr x4)), (5, .agg (bitArr x5)), (6, .agg (bitArr x6)), (7, .agg (bitArr x7))]).run Tryd.prog w =
      .ok (.agg (eight [x0, x1, x2, x3, x4, x5, x6, x7])) w := by kernel_rfl
theorem run_idx8 (w : World) (g i : Nat) (hi : i < 8) : (Instr.indexAt 111 (.pointer (some ⟨g, 0, none⟩)) (.int .i64 i)).run Tryd.prog w = .ok (.pointer (some ⟨g, i * 32, none⟩)) w := by
  have : i = 0 ∨ i = 1 ∨ i = 2 ∨ i = 3 ∨ i = 4 ∨ i = 5 ∨ i = 6 ∨ i = 7 := by omega
  rcases this with rfl | rfl | rfl | rfl | rfl | rfl | rfl | rfl
  · have h : ∀ w : World, (Instr.indexAt 111 (.pointer (some ⟨g, 0, none⟩)) (.int .i64 0)).run Tryd.prog w = .ok (.pointer (some ⟨g, 0, none⟩)) w := by intro w; kernel_rfl
    exact h w
  · have h : ∀ w : World, (Instr.indexAt 111 (.pointer (some ⟨g, 0, none⟩)) (.int .i64 1)).run Tryd.prog w = .ok (.pointer (some ⟨g, 32, none⟩)) w := by intro w; kernel_rfl
    exact h w
  · have h : ∀ w : World, (Instr.indexAt 111 (.pointer (some ⟨g, 0, none⟩)) (.int .i64 2)).run Tryd.prog w = .ok (.pointer (some ⟨g, 64, none⟩)) w := by intro w; kernel_rfl
    exact h w
  · have h : ∀ w : World, (Instr.indexAt 111 (.pointer (some ⟨g, 0, none⟩)) (.int .i64 3)).run Tryd.prog w = .ok (.pointer (some ⟨g, 96, none⟩)) w := by intro w; kernel_rfl
    exact h w
  · have h : ∀ w : World, (Instr.indexAt 111 (.pointer (some ⟨g, 0, none⟩)) (.int .i64 4)).run Tryd.prog w = .ok (.pointer (some ⟨g, 128, none⟩)) w := by intro w; kernel_rfl
    exact h w
  · have h : ∀ w : World, (Instr.indexAt 111 (.pointer (some ⟨g, 0, none⟩)) (.int .i64 5)).run Tryd.prog w = .ok (.pointer (some ⟨g, 160, none⟩)) w := by intro w; kernel_rfl
    exact h w
  · have h : ∀ w : World, (Instr.indexAt 111 (.pointer (some ⟨g, 0, none⟩)) (.int .i64 6)).run Tryd.prog w = .ok (.pointer (some ⟨g, 192, none⟩)) w := by intro w; kernel_rfl
    exact h w
  · have h : ∀ w : World, (Instr.indexAt 111 (.pointer (some ⟨g, 0, none⟩)) (.int .i64 7)).run Tryd.prog w = .ok (.pointer (some ⟨g, 224, none⟩)) w := by intro w; kernel_rfl
    exact h w
theorem run_alloc8 (w : World) : (Instr.alloc 111 true (.tuple #[])).run Tryd.prog w = .ok (.pointer (some ⟨w.heap.size, 0, none⟩)) (w.alloc (.cells (eight [0, 0, 0, 0, 0, 0, 0, 0]) 111)) := by kernel_rfl
theorem wpList_alloc8 {ops : Array Oper} {rest : List Oper} {o : Oper} {a : Act} {w : World} {Q : Exit → Act → World → Prop} (hgd : o.guard = none) (ho : o.op = .alloc 111)
    (h : ∀ (g : Nat) (w' : World), Blk w' g (eight [0, 0, 0, 0, 0, 0, 0, 0]) 111 → Upd [] w w' → w.heap.size ≤ g → wpList Tryd.prog ops Q rest (a.put o.dst (.pointer (some ⟨g, 0, none⟩))) w') : wpList Tryd.prog ops Q (o :: rest) a w := by
  refine wpList_run hgd (v := .pointer (some ⟨w.heap.size, 0, none⟩)) (w' := w.alloc (.cells (eight [0, 0, 0, 0, 0, 0, 0, 0]) 111)) ?_ (h w.heap.size _ (Blk.newAt rfl _ _) ((Upd.refl [] w).alloc _) (Nat.le_refl _))
  unfold execOp
  rw [ho]
  simp only [Sem.run_bind, run_alloc8, Result.andThen_ok, Sem.run_pure]
theorem run_box8' (x0 x1 x2 x3 x4 x5 x6 x7 : BitVec 32) (w : World) : (Instr.box 111 (.agg (eight [x0, x1, x2, x3, x4, x5, x6, x7]))).run Tryd.prog w = .ok (.pointer (some ⟨w.heap.size, 0, none⟩)) (w.alloc (.cells (eight [x0, x1, x2, x3, x4, x5, x6, x7]) 111)) := by kernel_rfl
/-- A box: a new block with the value's cells. -/
theorem run_box8 (w : World) (h : List (BitVec 32)) (hl : h.length = 8) : (Instr.box 111 (.agg (eight h))).run Tryd.prog w = .ok (.pointer (some ⟨w.heap.size, 0, none⟩)) (w.alloc (.cells (eight h) 111)) := by
  match h, hl with
  | [x0, x1, x2, x3, x4, x5, x6, x7], _ => exact run_box8' x0 x1 x2 x3 x4 x5 x6 x7 w
theorem wpList_box8 {ops : Array Oper} {rest : List Oper} {o : Oper} {a : Act} {w : World} {Q : Exit → Act → World → Prop} (hgd : o.guard = none) (x : Operand) (ho : o.op = .box 111 x) (l : List (BitVec 32)) (hl : l.length = 8) (hx : a.eval x = .agg (eight l))
    (h : ∀ (g : Nat) (w' : World), Blk w' g (eight l) 111 → Upd [] w w' → w.heap.size ≤ g → wpList Tryd.prog ops Q rest (a.put o.dst (.pointer (some ⟨g, 0, none⟩))) w') : wpList Tryd.prog ops Q (o :: rest) a w := by
  refine wpList_run hgd (v := .pointer (some ⟨w.heap.size, 0, none⟩)) (w' := w.alloc (.cells (eight l) 111)) ?_ (h w.heap.size _ (Blk.newAt rfl _ _) ((Upd.refl [] w).alloc _) (Nat.le_refl _))
  unfold execOp
  rw [ho]
  simp only [hx, Sem.run_bind, run_box8 w l hl, Result.andThen_ok, Sem.run_pure]
/-- One round. -/
def stepB (k w : BitVec 32) (v : List (BitVec 32)) : List (BitVec 32) :=
  let t := v.getD 7 0 + (rightB (v.getD 4 0) 6 true ^^^ rightB (v.getD 4 0) 11 true ^^^ rightB (v.getD 4 0) 25 true) + ((v.getD 4 0 &&& v.getD 5 0) ||| (~~~v.getD 4 0 &&& v.getD 6 0)) + k + w
  let u := (rightB (v.getD 0 0) 2 true ^^^ rightB (v.getD 0 0) 13 true ^^^ rightB (v.getD 0 0) 22 true) + ((v.getD 0 0 &&& v.getD 1 0) ||| (v.getD 0 0 &&& v.getD 2 0) ||| (v.getD 1 0 &&& v.getD 2 0))
  [t + u, v.getD 0 0, v.getD 1 0, v.getD 2 0, v.getD 3 0 + t, v.getD 4 0, v.getD 5 0, v.getD 6 0]
theorem stepB_len (k w : BitVec 32) (v : List (BitVec 32)) : (stepB k w v).length = 8 := rfl
end Go.Proofs.YtnfnaedoejgpiaaDoor
namespace Go.Proofs.YtnfnaedoejgpiaaDoor

def hexCh (c : UInt8) : Bool := decide ((48 ≤ c.toNat ∧ c.toNat ≤ 57) ∨ (97 ≤ c.toNat ∧ c.toNat ≤ 102))
/-- The n-th word of a text of hexadecimal digits. -/
def hexW (L : List UInt8) (n : Nat) : BitVec 32 := BitVec.ofNat 32 (hexN (fun i => digS (L.getD (8 * n + 7 - i) 48)) 8)
theorem hexL_any (w : World) (s : ByteArray) (L : List UInt8) (hs : s.data.toList = L) (hall : L.all hexCh = true) (n : Nat) (hn : 8 * n + 7 < L.length) (hL : L.length ≤ 1000) :
    Calls Tryd.prog 61 #[.string s, .int .i64 n] w (BitPost w (hexW L n)) := by
  have hsz : s.size = L.length := by rw [← hs]; rfl
  have hch : ∀ j, ((48 ≤ (L.getD j 48).toNat ∧ (L.getD j 48).toNat ≤ 57) ∨ (97 ≤ (L.getD j 48).toNat ∧ (L.getD j 48).toNat ≤ 102)) := by
    intro j
    rcases Nat.lt_or_ge j L.length with h | h
    · rw [List.getD_eq_getElem?_getD, List.getElem?_eq_getElem h]
      have := List.all_eq_true.1 hall _ (List.getElem_mem h)
      simpa [hexCh] using this
    · rw [List.getD_eq_getElem?_getD, List.getElem?_eq_none h]; left; decide
  refine hex_any w s n (fun i => L.getD (8 * n + 7 - i) 48) (fun i hi => ⟨by omega, ?_, hch _⟩) (by omega) (by omega) (fun i => digS_lt (hch _))
  have hlt : 8 * n + 7 - i < L.length := by omega
  show s[8 * n + 7 - i]'_ = L.getD (8 * n + 7 - i) 48
  rw [List.getD_eq_getElem?_getD, List.getElem?_eq_getElem hlt]
  subst hs
  rfl
/-- The 64 words of the rounds, as the program's text has them. -/
def conL : List UInt8 := [52, 50, 56, 97, 50, 102, 57, 56, 55, 49, 51, 55, 52, 52, 57, 49, 98, 53, 99, 48, 102, 98, 99, 102, 101, 57, 98, 53, 100, 98, 97, 53, 51, 57, 53, 54, 99, 50, 53, 98, 53, 57, 102, 49, 49, 49, 102, 49, 57, 50, 51, 102, 56, 50, 97, 52, 97, 98, 49, 99, 53, 101, 100, 53, 100, 56, 48, 55, 97, 97, 57, 56, 49, 50, 56, 51, 53, 98, 48, 49, 50, 52, 51, 49, 56, 53, 98, 101, 53, 53, 48, 99, 55, 100, 99, 51, 55, 50, 98, 101, 53, 100, 55, 52, 56, 48, 100, 101, 98, 49, 102, 101, 57, 98, 100, 99, 48, 54, 97, 55, 99, 49, 57, 98, 102, 49, 55, 52, 101, 52, 57, 98, 54, 57, 99, 49, 101, 102, 98, 101, 52, 55, 56, 54, 48, 102, 99, 49, 57, 100, 99, 54, 50, 52, 48, 99, 97, 49, 99, 99, 50, 100, 101, 57, 50, 99, 54, 102, 52, 97, 55, 52, 56, 52, 97, 97, 53, 99, 98, 48, 97, 57, 100, 99, 55, 54, 102, 57, 56, 56, 100, 97, 57, 56, 51, 101, 53, 49, 53, 50, 97, 56, 51, 49, 99, 54, 54, 100, 98, 48, 48, 51, 50, 55, 99, 56, 98, 102, 53, 57, 55, 102, 99, 55, 99, 54, 101, 48, 48, 98, 102, 51, 100, 53, 97, 55, 57, 49, 52, 55, 48, 54, 99, 97, 54, 51, 53, 49, 49, 52, 50, 57, 50, 57, 54, 55, 50, 55, 98, 55, 48, 97, 56, 53, 50, 101, 49, 98, 50, 49, 51, 56, 52, 100, 50, 99, 54, 100, 102, 99, 53, 51, 51, 56, 48, 100, 49, 51, 54, 53, 48, 97, 55, 51, 53, 52, 55, 54, 54, 97, 48, 97, 98, 98, 56, 49, 99, 50, 99, 57, 50, 101, 57, 50, 55, 50, 50, 99, 56, 53, 97, 50, 98, 102, 101, 56, 97, 49, 97, 56, 49, 97, 54, 54, 52, 98, 99, 50, 52, 98, 56, 98, 55, 48, 99, 55, 54, 99, 53, 49, 97, 51, 100, 49, 57, 50, 101, 56, 49, 57, 100, 54, 57, 57, 48, 54, 50, 52, 102, 52, 48, 101, 51, 53, 56, 53, 49, 48, 54, 97, 97, 48, 55, 48, 49, 57, 97, 52, 99, 49, 49, 54, 49, 101, 51, 55, 54, 99, 48, 56, 50, 55, 52, 56, 55, 55, 52, 99, 51, 52, 98, 48, 98, 99, 98, 53, 51, 57, 49, 99, 48, 99, 98, 51, 52, 101, 100, 56, 97, 97, 52, 97, 53, 98, 57, 99, 99, 97, 52, 102, 54, 56, 50, 101, 54, 102, 102, 51, 55, 52, 56, 102, 56, 50, 101, 101, 55, 56, 97, 53, 54, 51, 54, 102, 56, 52, 99, 56, 55, 56, 49, 52, 56, 99, 99, 55, 48, 50, 48, 56, 57, 48, 98, 101, 102, 102, 102, 97, 97, 52, 53, 48, 54, 99, 101, 98, 98, 101, 102, 57, 97, 51, 102, 55, 99, 54, 55, 49, 55, 56, 102, 50]
/-- The eight words at the beginning. -/
def begL : List UInt8 := [54, 97, 48, 57, 101, 54, 54, 55, 98, 98, 54, 55, 97, 101, 56, 53, 51, 99, 54, 101, 102, 51, 55, 50, 97, 53, 52, 102, 102, 53, 51, 97, 53, 49, 48, 101, 53, 50, 55, 102, 57, 98, 48, 53, 54, 56, 56, 99, 49, 102, 56, 51, 100, 57, 97, 98, 53, 98, 101, 48, 99, 100, 49, 57]
theorem conL_hex : conL.all hexCh = true := by kernel_rfl
theorem begL_hex : begL.all hexCh = true := by kernel_rfl
theorem conL_len : conL.length = 512 := by kernel_rfl
theorem begL_len : begL.length = 64 := by kernel_rfl
def conB (k : Nat) : BitVec 32 := hexW conL k
def begB (k : Nat) : BitVec 32 := hexW begL k
theorem conB_any (w : World) (s : ByteArray) (hs : s.data.toList = conL) (k : Nat) (hk : k < 64) : Calls Tryd.prog 61 #[.string s, .int .i64 k] w (BitPost w (conB k)) :=
  hexL_any w s conL hs conL_hex k (by rw [conL_len]; omega) (by rw [conL_len]; omega)
theorem begB_any (w : World) (s : ByteArray) (hs : s.data.toList = begL) (k : Nat) (hk : k < 8) : Calls Tryd.prog 61 #[.string s, .int .i64 k] w (BitPost w (begB k)) :=
  hexL_any w s begL hs begL_hex k (by rw [begL_len]; omega) (by rw [begL_len]; omega)
/-- The eight words after k rounds. -/
def roundsB (b : List UInt8) (h : List (BitVec 32)) : Nat → List (BitVec 32)
  | 0 => h
  | k + 1 => stepB (conB k) ((rowTo b 64).getD k 0) (roundsB b h k)
theorem roundsB_len (b : List UInt8) (h : List (BitVec 32)) (hl : h.length = 8) (k : Nat) : (roundsB b h k).length = 8 := by
  cases k with
  | zero => exact hl
  | succ k => exact stepB_len _ _ _
/-- Eight words behind a block. -/
def blockB (h : List (BitVec 32)) (b : List UInt8) : List (BitVec 32) := (List.range 8).map fun i => h.getD i 0 + (roundsB b h 64).getD i 0
/-- The first n words added, the others as they were. -/
def addTo (h v : List (BitVec 32)) (n : Nat) : List (BitVec 32) := (List.range 8).map fun i => if i < n then h.getD i 0 + v.getD i 0 else h.getD i 0
theorem addTo_len (h v : List (BitVec 32)) (n : Nat) : (addTo h v n).length = 8 := by simp [addTo]
theorem addTo_zero {h : List (BitVec 32)} (hl : h.length = 8) (v : List (BitVec 32)) : addTo h v 0 = h := by
  match h, hl with
  | [x0, x1, x2, x3, x4, x5, x6, x7], _ => rfl
theorem addTo_all (h v : List (BitVec 32)) : addTo h v 8 = (List.range 8).map fun i => h.getD i 0 + v.getD i 0 := by
  unfold addTo; exact List.map_congr_left fun i hi => by have := List.mem_range.1 hi; simp [this]
theorem addTo_at {h v : List (BitVec 32)} {n : Nat} (hn : n < 8) : (addTo h v n).getD n 0 = h.getD n 0 := by
  unfold addTo; rw [List.getD_eq_getElem?_getD]; simp [hn]
theorem addTo_next {h v : List (BitVec 32)} {n : Nat} (hn : n < 8) : (addTo h v n).set n (h.getD n 0 + v.getD n 0) = addTo h v (n + 1) := by
  unfold addTo
  apply List.ext_getElem?
  intro i
  simp only [List.getElem?_set, List.length_map, List.length_range, List.getElem?_map]
  rcases Nat.lt_or_ge i 8 with h8 | h8
  · rw [List.getElem?_range h8]
    by_cases hni : n = i
    · subst hni; simp [h8]
    · have : (i < n) ↔ (i < n + 1) := by omega
      simp only [hni, this, if_false, Option.map_some]
  · have hki : ¬ n = i := by omega
    simp [hki, List.getElem?_eq_none, h8]
theorem eight_set0 (x0 x1 x2 x3 x4 x5 x6 x7 x : BitVec 32) : splice (eight [x0, x1, x2, x3, x4, x5, x6, x7]) 0 (bitArr x).toList = eight [x, x1, x2, x3, x4, x5, x6, x7] := by kernel_rfl
theorem eight_set1 (x0 x1 x2 x3 x4 x5 x6 x7 x : BitVec 32) : splice (eight [x0, x1, x2, x3, x4, x5, x6, x7]) 32 (bitArr x).toList = eight [x0, x, x2, x3, x4, x5, x6, x7] := by kernel_rfl
theorem eight_set2 (x0 x1 x2 x3 x4 x5 x6 x7 x : BitVec 32) : splice (eight [x0, x1, x2, x3, x4, x5, x6, x7]) 64 (bitArr x).toList = eight [x0, x1, x, x3, x4, x5, x6, x7] := by kernel_rfl
theorem eight_set3 (x0 x1 x2 x3 x4 x5 x6 x7 x : BitVec 32) : splice (eight [x0, x1, x2, x3, x4, x5, x6, x7]) 96 (bitArr x).toList = eight [x0, x1, x2, x, x4, x5, x6, x7] := by kernel_rfl
theorem eight_set4 (x0 x1 x2 x3 x4 x5 x6 x7 x : BitVec 32) : splice (eight [x0, x1, x2, x3, x4, x5, x6, x7]) 128 (bitArr x).toList = eight [x0, x1, x2, x3, x, x5, x6, x7] := by kernel_rfl
theorem eight_set5 (x0 x1 x2 x3 x4 x5 x6 x7 x : BitVec 32) : splice (eight [x0, x1, x2, x3, x4, x5, x6, x7]) 160 (bitArr x).toList = eight [x0, x1, x2, x3, x4, x, x6, x7] := by kernel_rfl
theorem eight_set6 (x0 x1 x2 x3 x4 x5 x6 x7 x : BitVec 32) : splice (eight [x0, x1, x2, x3, x4, x5, x6, x7]) 192 (bitArr x).toList = eight [x0, x1, x2, x3, x4, x5, x, x7] := by kernel_rfl
theorem eight_set7 (x0 x1 x2 x3 x4 x5 x6 x7 x : BitVec 32) : splice (eight [x0, x1, x2, x3, x4, x5, x6, x7]) 224 (bitArr x).toList = eight [x0, x1, x2, x3, x4, x5, x6, x] := by kernel_rfl
/-- Setting one of eight words: its 32 cells replaced. -/
theorem eight_set (h : List (BitVec 32)) (hl : h.length = 8) (n : Nat) (hn : n < 8) (x : BitVec 32) : splice (eight h) (n * 32) (bitArr x).toList = eight (h.set n x) := by
  match h, hl with
  | [x0, x1, x2, x3, x4, x5, x6, x7], _ =>
    have : n = 0 ∨ n = 1 ∨ n = 2 ∨ n = 3 ∨ n = 4 ∨ n = 5 ∨ n = 6 ∨ n = 7 := by omega
    rcases this with rfl | rfl | rfl | rfl | rfl | rfl | rfl | rfl
    · exact eight_set0 _ _ _ _ _ _ _ _ _
    · exact eight_set1 _ _ _ _ _ _ _ _ _
    · exact eight_set2 _ _ _ _ _ _ _ _ _
    · exact eight_set3 _ _ _ _ _ _ _ _ _
    · exact eight_set4 _ _ _ _ _ _ _ _ _
    · exact eight_set5 _ _ _ _ _ _ _ _ _
    · exact eight_set6 _ _ _ _ _ _ _ _ _
    · exact eight_set7 _ _ _ _ _ _ _ _ _
end Go.Proofs.YtnfnaedoejgpiaaDoor
