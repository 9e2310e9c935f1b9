/- What the functions of package disk do, said of a disk's sectors as lists of bytes. -/
import Derived.Test.YtnfnaedoejgpiaaDoorCodec
import Derived.Test.YtnfnaedoejgpiaaDoorHeld
namespace Go.Proofs.YtnfnaedoejgpiaaDoor
open Go.RowKit

/-- A disk: how many writes are left (below 0: as many as may be), what is flushed, what is read, what waits. -/
structure DiskS where
  fuse : Int
  flushed : List (List UInt8)
  now : List (List UInt8)
  waits : List (Nat × List UInt8)
def waitCells (l : List (Nat × List UInt8)) : List Value := l.flatMap fun x => Value.int .i64 x.1 :: x.2.map bv
def rowCells (l : List (List UInt8)) : Array Value := (l.flatten.map bv).toArray
structure DiskS.Ok (D : DiskS) : Prop where
  len : D.flushed.length = D.now.length
  f64 : ∀ s ∈ D.flushed, s.length = 64
  n64 : ∀ s ∈ D.now, s.length = 64
  w64 : ∀ x ∈ D.waits, x.2.length = 64 ∧ x.1 < D.now.length
  few : D.now.length ≤ 8192
  fuse : -9223372036854775808 ≤ D.fuse ∧ D.fuse ≤ 9223372036854775807
/-- Where a disk's parts lie. -/
structure DiskF where
  d : Nat
  f : Nat
  n : Nat
  w : Value
def DiskF.blks (F : DiskF) : List Nat := F.d :: F.f :: F.n :: (if blkOf F.w = 0 then [] else [blkOf F.w - 1])
/-- The disk D lies in w at the places F. -/
structure DiskAt (w : World) (F : DiskF) (D : DiskS) : Prop where
  ok : D.Ok
  top : Blk w F.d #[.int .i64 D.fuse, .slice (some ⟨F.f, 0, none⟩) D.now.length D.now.length, .slice (some ⟨F.n, 0, none⟩) D.now.length D.now.length, F.w] 69
  fl : Blk w F.f (rowCells D.flushed) 77
  nw : Blk w F.n (rowCells D.now) 77
  ws : w.ownsRow 0 79 65 F.w D.waits.length (waitCells D.waits)
  ne : F.f ≠ F.n

theorem DiskAt.upd {S : List Nat} {w w' : World} {F : DiskF} {D : DiskS} (h : DiskAt w F D) (hu : Upd S w w') (hS : ∀ k ∈ S, k ∉ F.blks) : DiskAt w' F D := by
  have hd : ∀ k, k ∈ F.blks → k ∉ S := fun k hk hs => hS k hs hk
  refine ⟨h.ok, h.top.upd hu (hd _ (by simp [DiskF.blks])), h.fl.upd hu (hd _ (by simp [DiskF.blks])), h.nw.upd hu (hd _ (by simp [DiskF.blks])), own_upd h.ws hu (fun k hk he => hS k hk ?_), h.ne⟩
  simp only [DiskF.blks, he]; simp

theorem rowCells_size {l : List (List UInt8)} (h : ∀ s ∈ l, s.length = 64) : (rowCells l).size = l.length * 64 := by
  unfold rowCells
  induction l with
  | nil => rfl
  | cons s l ih =>
    have := ih (fun x hx => h x (List.mem_cons_of_mem _ hx))
    simp at this ⊢
    rw [this, h s (by simp)]; omega
theorem flatten_set {α : Type} {n : Nat} {x : List α} (hx : x.length = n) : ∀ {l : List (List α)} {i : Nat} (_ : ∀ s ∈ l, s.length = n) (_ : i < l.length), (l.set i x).flatten = l.flatten.take (i * n) ++ x ++ l.flatten.drop (i * n + n)
  | [], i, h, hi => by simp at hi
  | s :: l, 0, h, hi => by
    have := h s (by simp)
    simp [← this]
  | s :: l, i + 1, h, hi => by
    have hs := h s (by simp)
    have e : (i + 1) * n = s.length + i * n := by rw [hs, Nat.add_mul]; omega
    rw [List.set_cons_succ, List.flatten_cons, List.flatten_cons, flatten_set hx (fun y hy => h y (by simp [hy])) (by simpa using hi), e]
    rw [List.take_append, List.drop_append, List.take_of_length_le (by omega : s.length ≤ s.length + i * n), List.drop_of_length_le (by omega : s.length ≤ s.length + i * n + n)]
    simp [Nat.add_assoc, Nat.add_sub_cancel_left]
theorem rowCells_set {l : List (List UInt8)} {x : List UInt8} {i : Nat} (h : ∀ s ∈ l, s.length = 64) (hi : i < l.length) (hx : x.length = 64) : splice (rowCells l) (i * 64) (x.map bv) = rowCells (l.set i x) := by
  unfold splice rowCells
  rw [flatten_set hx h hi]
  simp [hx, List.map_take, List.map_drop]
theorem rowCells_one (l : List (List UInt8)) : ((rowCells l).toList.all fun u => u.oneCell') = true := by
  rw [rowCells, List.all_eq_true]
  exact bv_one _
theorem field_disk (d k : Nat) (hk : k < 4) (w : World) : (Instr.fieldAt 69 (.pointer (some ⟨d, 0, none⟩)) k).run Tryd.prog w = .ok (.pointer (some ⟨d, k, none⟩)) w := by
  have h : k = 0 ∨ k = 1 ∨ k = 2 ∨ k = 3 := by omega
  rcases h with rfl | rfl | rfl | rfl <;> simp [go_sem]

set_option maxHeartbeats 400000 in
theorem flush_any (w : World) (F : DiskF) (D : DiskS) (h : DiskAt w F D) (h0 : D.fuse ≠ 0) :
    Calls Tryd.prog 43 #[.pointer (some ⟨F.d, 0, none⟩)] w fun e w' => e = .returned (.int .i64 0) ∧ DiskAt w' { F with w := .slice none 0 0 } { D with flushed := D.now, waits := [] } ∧ Upd F.blks w w' := by
  obtain ⟨d, bf, bn, wv⟩ := F
  have c0 := h.top.cell (i := 0) rfl
  have H := Lib.hid h; clear h
  have h0' : (D.fuse == 0) = false := by simpa using h0
  dsimp only at *
  go_enter Tryd.func43, Tryd.ntmps43
  go_wp2
  have T := H.out.top
  dsimp only at T
  refine wp_region_ord (S := fun w => Blk w d #[.int .i64 D.fuse, .slice (some ⟨bf, 0, none⟩) D.now.length D.now.length, .slice (some ⟨bn, 0, none⟩) D.now.length D.now.length, wv] 69) (.take 0 (.take 1 (.take 2 (.take 3 (.take 4 (.take 5 (.take 6 (.take 7 (.act 8 .done))))))))) (by kernel_rfl) (by kernel_rfl) (fun _ _ d _ _ h => by cases d <;> exact h) ?_
  refine ord_get d 0 1 (.slice (some ⟨bf, 0, none⟩) D.now.length D.now.length) rfl rfl rfl T (field_disk d 1 (by decide)) (fun w hw => run_loadVar_one Tryd.underlying66 rfl (Blk.cell hw (i := 1) rfl)) ?_
  refine ord_get d 0 2 (.slice (some ⟨bn, 0, none⟩) D.now.length D.now.length) rfl rfl rfl T (field_disk d 2 (by decide)) (fun w hw => run_loadVar_one Tryd.underlying66 rfl (Blk.cell hw (i := 2) rfl)) ?_
  refine ord_act rfl ?_
  simp only [Act.put, List.setIfInBounds_toArray, List.set_cons_zero, List.set_cons_succ]
  refine wpList_copy_blk rfl (.tmp 10) (.tmp 14) 66 66 rfl 77 64 Tryd.underlying66 (by kernel_rfl) bf bn D.now.length rfl rfl H.out.fl H.out.nw (rowCells_size H.out.ok.n64) (by rw [rowCells_size H.out.ok.f64, H.out.ok.len]) (rowCells_one _) ?_
  intro w1 b1 u1
  have hdf := H.out.top.ne H.out.fl (by decide)
  have hdn := H.out.top.ne H.out.nw (by decide)
  have T1 := T.upd u1.undrew (by simpa using hdf)
  refine ⟨fun _ => T1, ?_⟩
  have c3 := T1.cell (i := 3) rfl
  have f3 := T1.frozen 3
  have G := Lib.hid (And.intro T1 (And.intro b1 u1.undrew))
  have E := Lib.hid (And.intro hdf hdn)
  clear T T1 b1 u1 c0 hdf hdn
  show Exit.then _ _ Exit.normal _ _
  go_wp2
  go_ret
  have u2 := upd_set (Upd.refl [d] w1) (b := d) (i := 3) (.inl (by simp)) (.slice none 0 0)
  have n1 := H.out.ne
  dsimp only at n1
  have e1 := E.out.1
  have e2 := E.out.2
  refine ⟨rfl, ⟨⟨rfl, H.out.ok.n64, H.out.ok.n64, by simp, H.out.ok.few, H.out.ok.fuse⟩, G.out.1.set 3 _, G.out.2.1.upd u2 (by simp; omega), (H.out.nw.upd G.out.2.2 (by simp; omega)).upd u2 (by simp; omega), World.ownsRow_nil _ _ _ _, n1⟩, ?_⟩
  exact (G.out.2.2.more (T := DiskF.blks ⟨d, bf, bn, wv⟩) (by simp [DiskF.blks])).trans u2 (by simp [DiskF.blks])

theorem off_any (w : World) (b o : Nat) (f : Int) (h : w.cell? ⟨b, o, none⟩ = some (.int .i64 f)) :
    Calls Tryd.prog 36 #[.pointer (some ⟨b, o, none⟩)] w fun e w' => e = .returned (.bool (f == 0)) ∧ w = w' := by
  go_enter Tryd.func36, Tryd.ntmps36
  go_wp2
  go_ret
  exact ⟨rfl, rfl⟩
theorem sectors_any (w : World) (F : DiskF) (D : DiskS) (h : DiskAt w F D) :
    Calls Tryd.prog 21 #[.pointer (some ⟨F.d, 0, none⟩)] w fun e w' => e = .returned (.int .i64 D.now.length) ∧ w = w' := by
  have c2 := h.top.cell (i := 2) rfl
  clear h
  go_enter Tryd.func21, Tryd.ntmps21
  go_wp2
  go_ret
  exact ⟨rfl, rfl⟩
theorem has_any (w : World) (F : DiskF) (D : DiskS) (i : Int) (h : DiskAt w F D) :
    Calls Tryd.prog 45 #[.pointer (some ⟨F.d, 0, none⟩), .int .i64 i] w fun e w' => e = .returned (.bool (decide (0 ≤ i ∧ i < D.now.length))) ∧ w = w' := by
  have c2 := h.top.cell (i := 2) rfl
  clear h
  by_cases h0 : 0 ≤ i
  · have h0' : decide (0 ≤ i) = true := by simpa using h0
    go_enter Tryd.func45, Tryd.ntmps45
    go_wp2
    go_ret
    exact ⟨by simp [h0], rfl⟩
  · have h0' : decide (0 ≤ i) = false := by simpa using h0
    go_enter Tryd.func45, Tryd.ntmps45
    go_wp2
    go_ret
    exact ⟨by simp [h0], rfl⟩

/-- What Read hands back. -/
def DiskS.read (D : DiskS) (i : Int) : List UInt8 × Int := if D.fuse = 0 then ([], 5) else if 0 ≤ i ∧ i < D.now.length then (D.now.getD i.toNat [], 0) else ([], 1)
def PairPost (W : World) (r : List UInt8 × Int) (e : Ending) (w : World) : Prop := ∃ ao c, e = .returned (.tuple #[.slice ao r.1.length c, .int .i64 r.2]) ∧ Fresh W r.1 (.slice ao r.1.length c) w

theorem flatten_at {α : Type} {n : Nat} : ∀ {l : List (List α)} (i j : Nat) (_ : ∀ s ∈ l, s.length = n) (hi : i < l.length), j < n → l.flatten[i * n + j]? = l[i][j]?
  | [], i, j, h, hi, hj => by simp at hi
  | s :: l, 0, j, h, hi, hj => by
    have := h s (by simp)
    simp; rw [List.getElem?_append_left (by omega)]
  | s :: l, i + 1, j, h, hi, hj => by
    have hs := h s (by simp)
    have e : (i + 1) * n + j = s.length + (i * n + j) := by rw [hs, Nat.add_mul]; omega
    rw [List.flatten_cons, e, List.getElem?_append_right (by omega), Nat.add_sub_cancel_left, flatten_at i j (fun x hx => h x (by simp [hx])) (by simpa using hi) hj]
    simp

theorem DiskAt.sector {w : World} {F : DiskF} {D : DiskS} (h : DiskAt w F D) {i : Nat} (hi : i < D.now.length) : ∀ j u, (D.now[i].map bv)[j]? = some u → (rowCells D.now)[i * 64 + j]? = some u := by
  intro j u hj
  have hl := h.ok.n64 D.now[i] (List.getElem_mem _)
  have hj' : j < 64 := by have := (List.getElem?_eq_some_iff.1 hj).1; simp [hl] at this; exact this
  unfold rowCells
  simp only [List.getElem?_toArray, List.getElem?_map] at hj ⊢
  rw [flatten_at i j h.ok.n64 hi hj']; exact hj

set_option maxHeartbeats 400000 in
theorem dread_any (w : World) (F : DiskF) (D : DiskS) (i : Int) (h : DiskAt w F D) :
    Calls Tryd.prog 34 #[.pointer (some ⟨F.d, 0, none⟩), .int .i64 i] w (PairPost w (D.read i)) := by
  have c0 := h.top.cell (i := 0) rfl
  have c2 := h.top.cell (i := 2) rfl
  have H := Lib.hid h
  have N := Lib.hid (has_any w F D i h); clear h
  unfold DiskS.read
  by_cases h0 : D.fuse = 0
  · have h0' : (D.fuse == 0) = true := by simpa using h0
    rw [if_pos h0]
    clear h0
    go_enter Tryd.func34, Tryd.ntmps34
    go_wp2_with (go_at_call 36; refine (off_any _ _ _ _ c0).mono ?_; rintro e w' ⟨rfl, rfl⟩)
    go_ret2
    exact ⟨none, 0, rfl, World.ownsRow_nil _ _ _ _, Upd.refl _ _⟩
  · have h0' : (D.fuse == 0) = false := by simpa using h0
    rw [if_neg h0]
    clear h0
    by_cases hi : 0 ≤ i ∧ i < D.now.length
    · rw [if_pos hi]
      obtain ⟨m, rfl⟩ := Int.eq_ofNat_of_zero_le hi.1
      have hm : m < D.now.length := by omega
      have hd : decide (0 ≤ (m : Int) ∧ (m : Int) < D.now.length) = true := by simp [hm]
      rw [hd] at N
      have hS : D.now.getD (m : Int).toNat [] = D.now[m] := by simp [hm]
      rw [hS]
      have hfew := H.out.ok.few
      have hS := H.out.sector hm
      have hl := H.out.ok.n64 D.now[m] (List.getElem_mem _)
      clear hi hd
      generalize D.now[m] = x at *
      have X := Lib.hid (And.intro hl hS)
      clear hS hl
      go_enter Tryd.func34, Tryd.ntmps34
      go_wp2_with (first | (go_at_call 36; refine (off_any _ _ _ _ c0).mono ?_; rintro e w' ⟨rfl, rfl⟩) | (go_at_call 45; refine N.out.mono ?_; rintro e w' ⟨rfl, rfl⟩))
      refine (sclone_any _ _ x (H.out.nw.bytes x X.out.1 (by unfold maxLen; omega) X.out.2) (by have := X.out.1; omega)).mono ?_
      rintro e w1 ⟨ao, c, rfl, h1⟩
      have H1 := Lib.hid h1; clear h1
      go_wp2
      go_ret2
      exact ⟨ao, c, rfl, H1.out⟩
    · rw [if_neg hi]
      have hd : decide (0 ≤ i ∧ i < D.now.length) = false := by simpa using hi
      rw [hd] at N
      clear hi hd
      go_enter Tryd.func34, Tryd.ntmps34
      go_wp2_with (first | (go_at_call 36; refine (off_any _ _ _ _ c0).mono ?_; rintro e w' ⟨rfl, rfl⟩) | (go_at_call 45; refine N.out.mono ?_; rintro e w' ⟨rfl, rfl⟩))
      go_ret2
      exact ⟨none, 0, rfl, World.ownsRow_nil _ _ _ _, Upd.refl _ _⟩

theorem info_write : (Tryd.prog.info? 79).map (fun i => (i.zero, i.size, i.bytes)) = some (some (.agg (Value.int .i64 0 :: List.replicate 64 (.int .u8 0)).toArray), 65, 72) := by kernel_rfl
theorem burn_any (w : World) (b o : Nat) (f : Int) (h : w.cell? ⟨b, o, none⟩ = some (.int .i64 f)) (hf : w.frozen? ⟨b, o, none⟩ = false) (hr : -9223372036854775808 ≤ f ∧ f ≤ 9223372036854775807) :
    Calls Tryd.prog 60 #[.pointer (some ⟨b, o, none⟩)] w fun e w' => e = .returned (.tuple #[]) ∧ (if 0 < f then w.setCell ⟨b, o, none⟩ (.int .i64 (f - 1)) else w) = w' := by
  by_cases h0 : 0 < f
  · rw [if_pos h0]
    go_enter Tryd.func60, Tryd.ntmps60
    go_wp2
    go_end0
    exact ⟨rfl, rfl⟩
  · rw [if_neg h0]
    go_enter Tryd.func60, Tryd.ntmps60
    go_wp2
    go_end0
    exact ⟨rfl, rfl⟩
def DiskS.burnt (D : DiskS) : Int := if 0 < D.fuse then D.fuse - 1 else D.fuse
/-- Write, where it can be. -/
def DiskS.write (D : DiskS) (i : Nat) (x : List UInt8) : DiskS := { D with fuse := D.burnt, now := D.now.set i x, waits := D.waits ++ [(i, x)] }
theorem DiskS.write_ok {D : DiskS} (h : D.Ok) {i : Nat} {x : List UInt8} (hi : i < D.now.length) (hx : x.length = 64) : (D.write i x).Ok := by
  refine ⟨by simp [DiskS.write, h.len], h.f64, ?_, ?_, by simpa [DiskS.write] using h.few, ?_⟩
  · intro s hs
    rcases List.mem_or_eq_of_mem_set hs with hs | rfl
    · exact h.n64 s hs
    · exact hx
  · intro y hy
    rcases List.mem_append.1 hy with hy | hy
    · simpa [DiskS.write] using h.w64 y hy
    · rw [List.mem_singleton.1 hy]; simpa [DiskS.write] using ⟨hx, hi⟩
  · have := h.fuse; simp only [DiskS.write, DiskS.burnt]; split <;> omega

def WritePost (W : World) (F : DiskF) (D : DiskS) (e : Ending) (w : World) : Prop :=
  ∃ v, e = .returned (.int .i64 0) ∧ DiskAt w { F with w := v } D ∧ Upd F.blks W w ∧ (blkOf v = blkOf F.w ∨ W.heap.size < blkOf v)

theorem burnt_at {w w1 : World} {F : DiskF} {D : DiskS} (h : DiskAt w F D) (hw : (if 0 < D.fuse then w.setCell ⟨F.d, 0, none⟩ (.int .i64 (D.fuse - 1)) else w) = w1) :
    Blk w1 F.d #[.int .i64 D.burnt, .slice (some ⟨F.f, 0, none⟩) D.now.length D.now.length, .slice (some ⟨F.n, 0, none⟩) D.now.length D.now.length, F.w] 69 ∧ Upd [F.d] w w1 := by
  unfold DiskS.burnt
  by_cases h0 : 0 < D.fuse
  · rw [if_pos h0] at hw ⊢; subst hw
    exact ⟨h.top.set 0 _, upd_set (Upd.refl _ _) (.inl (by simp)) _⟩
  · rw [if_neg h0] at hw ⊢; subst hw
    exact ⟨h.top, Upd.refl _ _⟩

theorem run_build_write (w : World) (i : Nat) (cs : List Value) (h : cs.length = 64) : (Instr.build 79 #[(0, .int .i64 i), (1, .agg cs.toArray)]).run Tryd.prog w = .ok (.agg (Value.int .i64 i :: cs).toArray) w := by
  refine run_build_struct w (z := .agg (Value.int .i64 0 :: List.replicate 64 (.int .u8 0)).toArray) (places := #[(0, 1), (1, 64)]) (by kernel_rfl) Tryd.underlying79 (by kernel_rfl) ?_
  rw [fill_part (off := 0) (by rfl) (by simp [Value.cells])]
  rw [fill_part (off := 1) (by simp [Value.cells, h]) (by simp [Value.cells, splice, h])]
  simp [Instr.fill, splice, Value.cells, h]

set_option maxHeartbeats 1000000 in
theorem write_any (w : World) (F : DiskF) (D : DiskS) (i : Nat) (v : Value) (x : List UInt8) (h : DiskAt w F D) (h0 : D.fuse ≠ 0) (hi : i < D.now.length) (hv : Bytes w v x) (hx : x.length = 64) (hw : D.waits.length < 1000000) (hvF : ∀ k ∈ F.blks, blkOf v ≠ k + 1) :
    Calls Tryd.prog 42 #[.pointer (some ⟨F.d, 0, none⟩), .int .i64 i, v] w (WritePost w F (D.write i x)) := by
  obtain ⟨ao, cv, rfl, hcv⟩ := id hv
  obtain ⟨bb, o, rfl, hbb, hcell⟩ := Sl.addr hv (by omega)
  obtain ⟨d, bf, bn, wv⟩ := F
  have c0 := h.top.cell (i := 0) rfl
  have f0 := h.top.frozen 0
  have hfu := h.ok.fuse
  have hd : decide (0 ≤ (i : Int) ∧ (i : Int) < D.now.length) = true := by simp [hi]
  have N := has_any w ⟨d, bf, bn, wv⟩ D i h
  rw [hd] at N
  have H := Lib.hid h
  have NH := Lib.hid N
  have h0' : (D.fuse == 0) = false := by simpa using h0
  have HV := Lib.hid (And.intro hv (And.intro hcell hvF))
  have hx64 := Lib.hid (And.intro hx (And.intro hw hfu))
  have hlc : 64 ≤ cv := by have := hcv.1; omega
  rw [hx]
  clear hd N h hv hcell hvF hcv h0 hx hw hfu
  dsimp only at *
  go_enter Tryd.func42, Tryd.ntmps42
  go_wp2_with fail
  refine (off_any _ _ _ _ c0).mono ?_; rintro e w' ⟨rfl, rfl⟩
  go_wp2_with fail
  refine NH.out.mono ?_; rintro e w' ⟨rfl, rfl⟩
  go_wp2_with fail
  refine (burn_any _ _ _ _ c0 f0 hx64.out.2.2).mono ?_
  rintro e w1 ⟨rfl, hw1⟩
  have B1 := burnt_at H.out hw1
  have c0' := B1.1.cell (i := 0) rfl
  have hv1 : Bytes w1 (.slice (some ⟨bb, o, none⟩) x.length cv) x := HV.out.1.upd B1.2 (only (HV.out.2.2 d (by simp [DiskF.blks])))
  have hl1 : (x.map bv).length = 64 := by simpa using hx64.out.1
  have HB := Lib.hid (And.intro B1 (And.intro hv1 (And.intro hl1 (by rw [hl1]; kernel_rfl : (Tryd.prog.info? 77).map (·.size) = some (x.map bv).length))))
  clear B1 hw1 c0 f0 c0' NH hv1 hl1
  have hb31 := run_build_write w1 i (x.map bv) HB.out.2.2.1
  have hl65 : (Value.int .i64 i :: x.map bv).length = 65 := by rw [List.length_cons, HB.out.2.2.1]
  have hi65 : (Tryd.prog.info? 79).map (·.size) = some (Value.int .i64 i :: x.map bv).length := by rw [hl65]; kernel_rfl
  have ha65 : ((Value.int .i64 i :: x.map bv).all fun u => u.oneCell') = true := by rw [List.all_cons]; exact List.all_eq_true.2 (bv_one x)
  have hi65 := Lib.hid hi65
  have hl65 := Lib.hid hl65
  have HB31a := Lib.hid ha65
  have HB31 := Lib.hid (And.intro hb31 (And.intro hl65.out (And.intro hi65.out ha65))); clear hb31 ha65
  go_wp2_with (first | (with_reducible refine wpList_arrayAt (o := ⟨some 29, _, _, _, _, _⟩) rfl 77 5 (.tmp 28) rfl 64 64 cv _ rfl Tryd.underlying77 (Nat.le_refl _) ?_) | (with_reducible refine wpList_load_cells (o := ⟨some 30, _, _, _, _, _⟩) rfl 77 (.tmp 29) rfl ⟨bb, o, none⟩ rfl _ (x.map bv) HB.out.2.1.at Tryd.underlying77 rfl HB.out.2.2.2 ?_) | (with_reducible refine wpList_build2 (o := ⟨some 31, _, _, _, _, _⟩) rfl 79 (.tmp 27) (.tmp 30) 0 1 rfl (.int .i64 i) (.agg (x.map bv).toArray) rfl rfl _ HB31.out.1 ?_) | (with_reducible refine wpList_store_blk (o := ⟨none, .store 79 (.tmp 7) (.tmp 31), _, _, _, _⟩) rfl 79 (.tmp 7) (.tmp 31) rfl (b := w1.heap.size) 0 rfl (Blk.new w1 _ _) (.agg (Value.int .i64 i :: x.map bv).toArray) rfl (Value.int .i64 i :: x.map bv) rfl ?_ HB31.out.2.2.2 HB31.out.2.2.1 ?_))
  · rw [HB31.out.2.1]; decide
  intro w2 b2 u2
  rw [splice_all (by rw [HB31.out.2.1]; decide)] at b2
  have hdf := H.out.top.ne H.out.fl (by decide)
  have hdn := H.out.top.ne H.out.nw (by decide)
  have hfn := H.out.ne
  have hwd := own_ne H.out.ws H.out.top (by decide)
  have hwf := own_ne H.out.ws H.out.fl (by decide)
  have hwn := own_ne H.out.ws H.out.nw (by decide)
  dsimp only at hdf hdn hfn hwd hwf hwn
  have U2 : Upd [d] w w2 := HB.out.1.2.trans u2.fresh (by simp)
  have T2 := HB.out.1.1.upd u2.fresh (by simp)
  have N2 := H.out.nw.upd U2 (by simp; omega)
  have hq : w.heap.size ≤ w1.heap.size := HB.out.1.2.size
  have hqd : d < w.heap.size := H.out.top.lt
  have hqn : bn < w.heap.size := H.out.nw.lt
  have hl64 := HB.out.2.2
  obtain ⟨q, hqe⟩ : ∃ q, w1.heap.size = q := ⟨_, rfl⟩
  rw [hqe] at b2 hq ⊢
  have h0i : (0 : Int) ≤ (i : Int) := by omega
  have hidx : ∀ w, (Instr.indexAt 66 (.slice (some ⟨bn, 0, none⟩) D.now.length D.now.length) (.int .i64 i)).run Tryd.prog w = .ok (.pointer (some ⟨bn, i * 64, none⟩)) w := fun w => by simp [go_sem, hi]
  have hfq : ∀ w, (Instr.fieldAt 79 (.pointer (some ⟨q, 0, none⟩)) 1).run Tryd.prog w = .ok (.pointer (some ⟨q, 1, none⟩)) w := fun w => by simp [go_sem]
  have G := Lib.hid (And.intro T2 (And.intro N2 (And.intro U2 (And.intro b2 (And.intro hidx (And.intro hfq hl64))))))
  have NE := Lib.hid (And.intro hdf (And.intro hdn (And.intro hfn (And.intro hwd (And.intro hwf (And.intro hwn (And.intro hq (And.intro hqd hqn))))))))
  clear T2 N2 U2 b2 u2 hdf hdn hfn hwd hwf hwn hq hqd hqn hidx hfq hqe hl64 HB31
  go_wp2
  go_outline
  have S0 : Blk w2.drew d _ _ ∧ Blk w2.drew q _ _ := ⟨G.out.1, G.out.2.2.2.1⟩
  refine wp_region_ord (S := fun w => Blk w d #[.int .i64 D.burnt, .slice (some ⟨bf, 0, none⟩) D.now.length D.now.length, .slice (some ⟨bn, 0, none⟩) D.now.length D.now.length, wv] 69 ∧ Blk w q (Value.int .i64 i :: x.map bv).toArray 79) (.take 0 (.take 1 (.take 2 (.take 3 (.take 4 (.take 5 (.take 6 (.take 7 (.act 8 .done))))))))) (by kernel_rfl) (by kernel_rfl) (fun _ _ d _ _ h => by cases d <;> exact h) ?_
  refine ord_get d 0 2 (.slice (some ⟨bn, 0, none⟩) D.now.length D.now.length) rfl rfl rfl S0 (field_disk d 2 (by decide)) (fun w hw => run_loadVar_one Tryd.underlying66 rfl (Blk.cell hw.1 (i := 2) rfl)) ?_
  simp only [Act.put, List.setIfInBounds_toArray, List.set_cons_zero, List.set_cons_succ]
  refine ord_move (x := .tmp 1) rfl rfl (.inl rfl) S0 ?_
  refine ord_field rfl rfl rfl _ _ rfl S0 G.out.2.2.2.2.2.1 ?_
  refine ord_load_blk rfl rfl rfl q 1 rfl _ 79 (fun _ h => h.2) _ (x.map bv) (fun j u h => by rw [Nat.add_comm]; simpa using h) Tryd.underlying77 rfl G.out.2.2.2.2.2.2.2 S0 ?_
  simp only [Act.put, List.setIfInBounds_toArray, List.set_cons_zero, List.set_cons_succ]
  refine ord_index rfl rfl rfl _ _ _ rfl rfl S0 G.out.2.2.2.2.1 ?_
  refine ord_act rfl ?_
  simp only [Act.put, List.setIfInBounds_toArray, List.set_cons_zero, List.set_cons_succ]
  refine wpList_store_blk rfl 77 (.tmp 39) (.tmp 38) rfl (b := bn) (i * 64) rfl G.out.2.1 _ rfl (x.map bv) rfl ?_ (List.all_eq_true.2 (bv_one x)) G.out.2.2.2.2.2.2.2 ?_
  · rw [rowCells_size H.out.ok.n64, G.out.2.2.2.2.2.2.1]; omega
  intro w3 b3 u3
  refine ⟨fun h => Bool.noConfusion (h.symm.trans (by kernel_rfl : waitsAll _ _ _ = true)), ?_⟩
  show Exit.then _ _ Exit.normal _ _
  have U3 : Upd [d, bn] w w3 := (G.out.2.2.1.more (by simp)).trans u3.undrew (by simp)
  have T3 := G.out.1.upd u3.undrew (by simpa using NE.out.2.1)
  have Q3 := G.out.2.2.2.1.upd u3.undrew (by have := NE.out.2.2.2.2.2.2; simp; omega)
  have W3 := own_upd H.out.ws U3 (by have := NE.out; simp; omega)
  have G3 := Lib.hid (And.intro T3 (And.intro Q3 (And.intro W3 (And.intro b3 U3))))
  clear T3 Q3 W3 b3 U3 u3
  go_wp2
  go_outline
  have S0 : Blk w3.drew d _ _ ∧ Blk w3.drew q _ _ := ⟨G3.out.1, G3.out.2.1⟩
  refine wp_region_ord (S := fun w => Blk w d #[.int .i64 D.burnt, .slice (some ⟨bf, 0, none⟩) D.now.length D.now.length, .slice (some ⟨bn, 0, none⟩) D.now.length D.now.length, wv] 69 ∧ Blk w q (Value.int .i64 i :: x.map bv).toArray 79) (.take 0 (.take 1 (.take 2 (.take 3 (.take 4 (.take 5 (.act 6 (.act 7 (.take 8 (.take 9 (.act 10 .done))))))))))) (by kernel_rfl) (by kernel_rfl) (fun _ _ d _ _ h => by cases d <;> exact h) ?_
  refine ord_move (x := .tmp 0) rfl rfl (.inl rfl) S0 ?_
  refine ord_get d 0 3 wv rfl rfl rfl S0 (field_disk d 3 (by decide)) (fun w hw => run_loadVar_one Tryd.underlying67 rfl (Blk.cell hw.1 (i := 3) rfl)) ?_
  simp only [Act.put, List.setIfInBounds_toArray, List.set_cons_zero, List.set_cons_succ]
  refine ord_load_blk rfl rfl rfl q 0 rfl _ 79 (fun _ h => h.2) _ (Value.int .i64 i :: x.map bv) (fun j u h => by rw [Nat.zero_add]; simpa using h) Tryd.underlying79 rfl hi65.out S0 ?_
  simp only [Act.put, List.setIfInBounds_toArray, List.set_cons_zero, List.set_cons_succ]
  refine ord_act rfl ?_
  refine wpList_buildSlice1 (by kernel_rfl) 67 79 (.tmp 45) (by kernel_rfl) (.agg (Value.int .i64 i :: x.map bv).toArray) _ 65 72 (by kernel_rfl) Tryd.underlying67 info_write hl65.out (by decide) (by decide) ?_
  simp only [Act.put, List.setIfInBounds_toArray, List.set_cons_zero, List.set_cons_succ]
  have S1 := And.intro (S0.1.alloc (.cells (Value.int .i64 i :: x.map bv).toArray 79)) (S0.2.alloc (.cells (Value.int .i64 i :: x.map bv).toArray 79))
  refine ⟨fun _ => S1, ?_⟩
  refine ord_act rfl ?_
  refine wpList_app _ (by kernel_rfl) (.tmp 44) (.tmp 46) 67 (by kernel_rfl) 0 79 _ 65 72 Tryd.underlying67 info_write ?_ (by decide) wv D.waits.length (waitCells D.waits) (by kernel_rfl) ?_ (.slice (some ⟨w3.drew.heap.size, 0, none⟩) 1 1) 1 (Value.int .i64 i :: x.map bv) (by kernel_rfl) ?_ ?_ ?_ (by decide) (Nat.zero_le _) ?_
  · rfl
  · exact own_upd (S := []) G3.out.2.2.1 ((Upd.refl [] w3).drew.alloc _) (by simp)
  · exact Sl.ofBlk (Blk.newAt rfl _ _) (by simpa using hl65.out) (by unfold maxLen; omega)
  · exact List.all_eq_true.1 HB31a.out
  · have := hx64.out.2.1; omega
  intro ao c w4 h4
  have hB := own_lt h4.own
  have hk := own_lt G3.out.2.2.1
  have hb4 := h4.blk
  have q3 := G3.out.2.1.lt
  have n3 := G3.out.2.2.2.1.lt
  have d3 := G3.out.1.lt
  have T4 := h4.keeps S1.1 NE.out.2.2.2.1
  have Q4 := h4.keeps S1.2 (by have h1 := (own_lt H.out.ws).1; have h2 := NE.out.2.2.2.2.2.2.1; dsimp only at h1; omega)
  have N4 := h4.keeps (G3.out.2.2.2.1.drew.alloc (.cells (Value.int .i64 i :: x.map bv).toArray 79)) NE.out.2.2.2.2.2.1
  have U4 : Upd (d :: bn :: (if blkOf wv = 0 then [] else [blkOf wv - 1])) w w4 := by
    refine ((G3.out.2.2.2.2.drew.alloc (.cells (Value.int .i64 i :: x.map bv).toArray 79)).more (T := d :: bn :: (if blkOf wv = 0 then [] else [blkOf wv - 1])) (by simp)).trans h4.upd ?_
    rw [own_block]; split <;> simp
  have G4 := Lib.hid (And.intro T4 (And.intro Q4 (And.intro N4 (And.intro U4 (And.intro h4 (And.intro hb4 hB))))))
  have f3 := T4.frozen 3
  have hs4 : (w3.drew.alloc (.cells (Value.int .i64 i :: x.map bv).toArray 79)).heap.size = w3.heap.size + 1 := by simp
  have hs3 : w.heap.size ≤ w3.heap.size := G3.out.2.2.2.2.size
  have HS := Lib.hid (And.intro hs4 hs3)
  clear U4 N4 h4 hb4 hB hk q3 n3 d3 hs4 hs3
  simp only [Act.put, List.setIfInBounds_toArray, List.set_cons_zero, List.set_cons_succ]
  refine ⟨fun _ => ⟨T4, Q4⟩, ?_⟩
  refine ord_nil (x := .tmp 40) rfl (by kernel_rfl) (by kernel_rfl) ⟨d, 0, none⟩ (by kernel_rfl) ⟨T4, Q4⟩ ?_
  refine ord_field (T := 69) (k := 3) (x := .tmp 48) rfl (by kernel_rfl) (by kernel_rfl) (.pointer (some ⟨d, 0, none⟩)) (.pointer (some ⟨d, 3, none⟩)) (by kernel_rfl) ⟨T4, Q4⟩ (fun w => field_disk d 3 (by decide) w) ?_
  simp only [Act.put, List.setIfInBounds_toArray, List.set_cons_zero, List.set_cons_succ]
  refine ord_act rfl ?_
  refine wpList_store_blk (by kernel_rfl) 67 (.tmp 49) (.tmp 47) (by kernel_rfl) (b := d) 3 (by kernel_rfl) T4 (.slice ao (D.waits.length + 1) c) (by kernel_rfl) [.slice ao (D.waits.length + 1) c] (by kernel_rfl) (Nat.le_refl 4) (by rfl) (by kernel_rfl) ?_
  intro w5 b5 u5
  refine ⟨fun h => Bool.noConfusion (h.symm.trans (by kernel_rfl : waitsAll _ _ _ = true)), ?_⟩
  show Exit.then _ _ Exit.normal _ _
  have G5 := Lib.hid (And.intro b5 u5)
  clear b5 u5 T4 Q4 f3
  go_wp2
  go_ret
  have hU := G5.out.2
  have hap := G4.out.2.2.2.2.1
  have hne := NE.out
  have hB := G4.out.2.2.2.2.2
  have hs := HS.out
  have n1 := H.out.ne
  have hwl := (own_lt H.out.ws).1
  dsimp only at n1 hwl
  have hv : blkOf (.slice ao (D.waits.length + 1) c) = blkOf wv ∨ w.heap.size < blkOf (.slice ao (D.waits.length + 1) c) := by
    rcases hB.1 with h | h
    · exact .inl h
    · right; have h := h.trans (congrArg (· + 1) hs.1); omega
  have hvd : blkOf (.slice ao (D.waits.length + 1) c) ≠ d + 1 := by rcases hv with h | h <;> omega
  have U4 := G4.out.2.2.2.1
  have U5 : Upd (d :: bn :: (if blkOf wv = 0 then [] else [blkOf wv - 1])) w w5 := U4.trans hU (by simp)
  refine ⟨.slice ao (D.waits.length + 1) c, rfl, ⟨DiskS.write_ok H.out.ok hi hx64.out.1, ?_, ?_, ?_, ?_, n1⟩, U5.more ?_, hv⟩
  · have := G5.out.1
    simp only [DiskS.write, List.length_set]
    exact this
  · refine H.out.fl.upd U5 ?_
    split <;> simp <;> omega
  · have := G4.out.2.2.1.upd hU (by simp; omega)
    rw [rowCells_set H.out.ok.n64 hi hx64.out.1] at this
    exact this
  · have := own_upd hap.own hU (only hvd)
    simpa [DiskS.write, waitCells] using this
  · intro k hk
    left
    simp only [DiskF.blks]
    simp at hk ⊢
    rcases hk with rfl | rfl | hk
    · exact .inl rfl
    · exact .inr (.inr (.inl rfl))
    · exact .inr (.inr (.inr hk))
end Go.Proofs.YtnfnaedoejgpiaaDoor
