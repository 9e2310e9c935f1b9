/- A book in memory, and what take does to it. -/
import Derived.Test.YtnfnaedoejgpiaaDoorStand
import Derived.Test.YtnfnaedoejgpiaaDoorHeadF
namespace Go.Proofs.YtnfnaedoejgpiaaDoor
open Go.RowKit

/-- A book: its generation, the sector behind its records, its records, their head's hash, whether it is over. -/
structure BookS where
  gen : Nat
  next : Nat
  recs : List (List UInt8)
  hash : List UInt8
  over : Bool
/-- Where a book's parts lie. -/
structure BookF where
  p : Nat
  F : DiskF
  rv : Value
  vs : List Value
def bookCells (d gen next : Nat) (rv : Value) (h : List UInt8) (c : Int) (over : Bool) : Array Value :=
  (Value.pointer (some ⟨d, 0, none⟩) :: Value.int .i64 gen :: Value.int .i64 next :: rv :: (h.map bv ++ [Value.int .i64 c, Value.bool over])).toArray
structure BookAt (w : World) (B : BookF) (S : BookS) (D : DiskS) : Prop where
  top : Blk w B.p (bookCells B.F.d S.gen S.next B.rv S.hash S.recs.length S.over) 60
  disk : DiskAt w B.F D
  rows : RowsAt w 0 B.rv B.vs S.recs
  hash : S.hash.length = 32
  lens : ∀ r ∈ S.recs, r.length ≤ 4096
  few : S.recs.length ≤ S.next
  next : S.next ≤ D.now.length
  gen : S.gen < 4294967296
def blkL (v : Value) : List Nat := if blkOf v = 0 then [] else [blkOf v - 1]
theorem mem_blkL {k : Nat} {v : Value} : k ∈ blkL v ↔ blkOf v = k + 1 := by
  unfold blkL; split
  · simp; omega
  · simp; omega
theorem mem_blks {k : Nat} {F : DiskF} : k ∈ F.blks ↔ k = F.d ∨ k = F.f ∨ k = F.n ∨ blkOf F.w = k + 1 := by
  have : F.blks = F.d :: F.f :: F.n :: blkL F.w := rfl
  rw [this]; simp [mem_blkL]
theorem BookAt.upd {S : List Nat} {w w' : World} {B : BookF} {b : BookS} {D : DiskS} (h : BookAt w B b D) (hu : Upd S w w') (hS : ∀ k ∈ S, k ≠ B.p ∧ k ∉ B.F.blks ∧ blkOf B.rv ≠ k + 1 ∧ ∀ x ∈ B.vs, blkOf x ≠ k + 1) : BookAt w' B b D :=
  ⟨h.top.upd hu (fun hm => (hS _ hm).1 rfl), h.disk.upd hu (fun k hk => (hS k hk).2.1), h.rows.upd hu (fun k hk => (hS k hk).2.2.1) (fun x hx k hk => (hS k hk).2.2.2 x hx), h.hash, h.lens, h.few, h.next, h.gen⟩
theorem BookAt.upd0 {w w' : World} {B : BookF} {b : BookS} {D : DiskS} (h : BookAt w B b D) (hu : Upd [] w w') : BookAt w' B b D := h.upd hu (by simp)
theorem bk_size {d gen next : Nat} {rv : Value} {h : List UInt8} {c : Int} {over : Bool} (hh : h.length = 32) : (bookCells d gen next rv h c over).size = 38 := by simp [bookCells, hh]
theorem bk_set2 {d gen next next' : Nat} {rv : Value} {h : List UInt8} {c : Int} {over : Bool} : (bookCells d gen next rv h c over).setIfInBounds 2 (.int .i64 next') = bookCells d gen next' rv h c over := by simp [bookCells]
theorem bk_set3 {d gen next : Nat} {rv rv' : Value} {h : List UInt8} {c : Int} {over : Bool} : (bookCells d gen next rv h c over).setIfInBounds 3 rv' = bookCells d gen next rv' h c over := by simp [bookCells]
theorem bk_head {d gen next : Nat} {rv : Value} {h h' : List UInt8} {c c' : Int} {over : Bool} (hh : h.length = 32) (hh' : h'.length = 32) : splice (bookCells d gen next rv h c over) 4 (h'.map bv ++ [Value.int .i64 c']) = bookCells d gen next rv h' c' over := by
  unfold splice bookCells
  simp [hh', List.drop_append, hh]
theorem bk_at {d gen next : Nat} {rv : Value} {h : List UInt8} {c : Int} {over : Bool} (j : Nat) (u : Value) (hj : (h.map bv ++ [Value.int .i64 c])[j]? = some u) : (bookCells d gen next rv h c over)[4 + j]? = some u := by
  have e : (bookCells d gen next rv h c over) = ([Value.pointer (some ⟨d, 0, none⟩), Value.int .i64 gen, Value.int .i64 next, rv] ++ ((h.map bv ++ [Value.int .i64 c]) ++ [Value.bool over])).toArray := by simp [bookCells]
  rw [e, List.getElem?_toArray, List.getElem?_append_right (by simp)]
  simp only [List.length_cons, List.length_nil, Nat.add_sub_cancel_left]
  rw [List.getElem?_append_left (List.getElem?_eq_some_iff.1 hj).1]; exact hj
theorem bk_over {d gen next : Nat} {rv : Value} {h : List UInt8} {c : Int} {over : Bool} (hh : h.length = 32) : (bookCells d gen next rv h c over)[37]? = some (.bool over) := by
  simp [bookCells, hh]
theorem head_one (h : List UInt8) (c : Int) : ((h.map bv ++ [Value.int .i64 c]).all fun u => u.oneCell') = true := by
  rw [List.all_append, List.all_eq_true.2 (bv_one h)]; rfl
theorem field_book (p k : Nat) (hk : k < 6) (w : World) : (Instr.fieldAt 60 (.pointer (some ⟨p, 0, none⟩)) k).run Tryd.prog w = .ok (.pointer (some ⟨p, if k = 5 then 37 else k, none⟩)) w := by
  have h : k = 0 ∨ k = 1 ∨ k = 2 ∨ k = 3 ∨ k = 4 ∨ k = 5 := by omega
  rcases h with rfl | rfl | rfl | rfl | rfl | rfl <;> simp [go_sem]

def BTakePost (W : World) (B : BookF) (b : BookS) (D : DiskS) (record : List UInt8) (k : Nat) (e : Ending) (w : World) : Prop :=
  ∃ rv x, e = .returned (.tuple #[]) ∧ BookAt w { B with rv := rv, vs := B.vs ++ [x] } { b with recs := b.recs ++ [record], hash := linkOf b.hash record, next := b.next + k } D ∧
    Upd (B.p :: blkL B.rv) W w ∧ (blkOf rv = blkOf B.rv ∨ W.heap.size < blkOf rv) ∧ (blkOf x = 0 ∨ W.heap.size < blkOf x)
theorem own_sep {w : World} {B : BookF} {b : BookS} {D : DiskS} (h : BookAt w B b D) : ∀ k ∈ B.p :: blkL B.rv, k ∉ B.F.blks := by
  intro k hk hm
  have hT := h.top
  have hR := h.rows.row
  have hD := h.disk
  rcases List.mem_cons.1 hk with hk | hk
  · rcases mem_blks.1 hm with h | h | h | h
    · exact hT.ne hD.top (by decide) (hk.symm.trans h)
    · exact hT.ne hD.fl (by decide) (hk.symm.trans h)
    · exact hT.ne hD.nw (by decide) (hk.symm.trans h)
    · exact own_ne hD.ws hT (by decide) (by rw [← hk]; exact h)
  · have hk := mem_blkL.1 hk
    rcases mem_blks.1 hm with h | h | h | h
    · exact own_ne hR hD.top (by decide) (by rw [← h]; exact hk)
    · exact own_ne hR hD.fl (by decide) (by rw [← h]; exact hk)
    · exact own_ne hR hD.nw (by decide) (by rw [← h]; exact hk)
    · rcases own_ne2 hR hD.ws (by decide) with h0 | h0 <;> omega
theorem linkOf_len (h r : List UInt8) : (linkOf h r).length = 32 := by unfold linkOf ofParts StreamS.sum; simp [toldN_len]
set_option maxRecDepth 4000 in
set_option maxHeartbeats 1000000 in
theorem btake_any (w : World) (B : BookF) (b : BookS) (D : DiskS) (record : List UInt8) (ro : Option Addr) (rc k : Nat) (hB : BookAt w B b D) (hr : Bytes w (.slice ro record.length rc) record) (hrb : blkE (.slice ro record.length rc) ≤ w.heap.size) (hrp : blkE (.slice ro record.length rc) ≠ B.p + 1 ∧ (blkOf B.rv = 0 ∨ blkE (.slice ro record.length rc) ≠ blkOf B.rv))
    (hl : record.length ≤ 4096) (ht : Table w) (htp : B.p ≠ 0 ∧ blkOf B.rv ≠ 1) (hk : 1 ≤ k) (hn : b.next + k ≤ D.now.length) :
    Calls Tryd.prog 28 #[.pointer (some ⟨B.p, 0, none⟩), .slice ro record.length rc, .int .i64 k] w (BTakePost w B b D record k) := by
  have hfew := hB.disk.ok.few
  have hfew2 := hB.few
  obtain ⟨p, F, rv, vs⟩ := B
  dsimp only at hrp htp
  have HS := Lib.hid (And.intro hB (And.intro hr (And.intro hrb (And.intro hrp (And.intro ht (And.intro htp (And.intro hn hl)))))))
  obtain ⟨n, hnl⟩ : ∃ n, record.length = n := ⟨_, rfl⟩
  have HNL := Lib.hid hnl
  have C := Lib.hid (fun w' (hu : Upd [] w w') => clone_any w' (.slice ro record.length rc) record (hr.upd hu (by simp)) (by omega))
  rw [hnl] at C ⊢
  clear hB hr hrb hrp ht htp hl hnl
  go_enter Tryd.func28, Tryd.ntmps28
  go_wp2_with fail
  have T := HS.out.1.top
  dsimp only at T
  have S0 : Blk w.drew p (bookCells F.d b.gen b.next rv b.hash b.recs.length b.over) 60 := T
  refine wp_region_ord (S := fun w => Blk w p (bookCells F.d b.gen b.next rv b.hash b.recs.length b.over) 60) (.take 0 (.take 1 (.take 2 (.take 3 (.take 4 (.take 5 (.act 6 (.act 7 (.act 8 (.take 9 (.take 10 (.act 11 .done)))))))))))) (by kernel_rfl) (by kernel_rfl) (fun _ _ d _ _ h => by cases d <;> exact h) ?_
  repeat (refine ord_ex rfl rfl S0 ?_; apply Exists.intro; refine ⟨fun _ _ => ?_, ?_⟩; (focus (rename_i w hw; have c3 := Blk.cell hw (i := 3) (v := rv) rfl; go_simp; rfl)); simp only [Act.put, List.setIfInBounds_toArray, List.set_cons_zero, List.set_cons_succ, List.getElem_toArray, List.getElem_cons_succ, List.getElem_cons_zero])
  refine ord_act rfl ?_
  go_wp2_with fail
  refine (C.out _ ((Upd.refl [] w).drew)).mono ?_
  rintro e w1 ⟨ao1, c1, rfl, h1⟩
  have hU1 : Upd [] w w1 := (Upd.refl [] w).drew.trans h1.2 (by simp)
  have S1 : Blk w1 p (bookCells F.d b.gen b.next rv b.hash b.recs.length b.over) 60 := T.upd hU1 (by simp)
  obtain ⟨q, hq⟩ : ∃ q, w1.heap.size = q := ⟨_, rfl⟩
  have hx1 := own_base (base' := 0) h1.1 (by rcases h1.blk.2 with h | h; exact .inl h; right; omega)
  rw [HNL.out] at hx1 ⊢
  have hbx := h1.blk
  rw [HNL.out] at hbx
  have H1 := Lib.hid (And.intro hU1 (And.intro S1 (And.intro hx1 (And.intro hq hbx))))
  clear h1 hU1 hq hx1 hbx T
  go_wp2_with fail
  refine ⟨fun _ => S1, ?_⟩
  refine ord_act rfl ?_
  refine wpList_buildSlice1 (o := ⟨some 13, _, _, _, _, _⟩) rfl 24 26 (.tmp 12) rfl (.slice ao1 n c1) _ 1 24 rfl Tryd.underlying24 info_bytes rfl (by decide) (by decide) ?_
  simp only [Act.put, List.setIfInBounds_toArray, List.set_cons_zero, List.set_cons_succ, List.getElem_toArray, List.getElem_cons_succ, List.getElem_cons_zero]
  obtain ⟨w2, hw2⟩ : ∃ w2, w1.alloc (.cells (Value.slice ao1 n c1).cells 26) = w2 := ⟨_, rfl⟩
  have hU2 : Upd [] w1 w2 := by rw [← hw2]; exact (Upd.refl [] w1).alloc _
  have hb2 : Blk w2 q #[.slice ao1 n c1] 26 := by rw [← hw2]; exact Blk.newAt H1.out.2.2.2.1.symm _ _
  have S2 := S1.upd hU2 (by simp)
  rw [hw2, H1.out.2.2.2.1]
  have hrow := HS.out.1.rows.upd0 (H1.out.1.trans hU2 (by simp))
  dsimp only at hrow
  have hx2 := own_upd H1.out.2.2.1 hU2 (by simp)
  have hs2 : w2.heap.size = q + 1 := by rw [← hw2]; simp; exact H1.out.2.2.2.1
  have H2 := Lib.hid (And.intro hU2 (And.intro hb2 (And.intro S2 (And.intro hrow (And.intro hx2 hs2)))))
  clear hU2 hb2 hrow hx2 hs2 hw2 S1
  refine ⟨fun _ => S2, ?_⟩
  refine ord_act rfl ?_
  refine wpList_app _ (by rfl) (.tmp 10) (.tmp 13) 24 (by rfl) 0 26 (.slice none 0 0) 1 24 Tryd.underlying24 info_bytes rfl (by decide) rv b.recs.length vs (by rfl) H2.out.2.2.2.1.row (.slice (some ⟨q, 0, none⟩) 1 1) 1 [.slice ao1 n c1] (by rfl) H2.out.2.1.sl1 (by simp [Value.oneCell']) (by omega) (by decide) (Nat.zero_le _) ?_
  intro ao2 c2 w3 h3
  have hrow3 := RowsAt.app (l := record) H2.out.2.2.2.1 (by rw [HNL.out]; exact H2.out.2.2.2.2.1) h3
  have S3 := h3.keeps S2 (own_ne H2.out.2.2.2.1.row S2 (by decide))
  have hbk := h3.blk
  rw [H2.out.2.2.2.2.2] at hbk
  have hU3 := h3.upd
  have H3 := Lib.hid (And.intro hrow3 (And.intro hU3 hbk))
  clear hrow3 hU3 hbk h3 S2
  simp only [Act.put, List.setIfInBounds_toArray, List.set_cons_zero, List.set_cons_succ, List.getElem_toArray, List.getElem_cons_succ, List.getElem_cons_zero]
  refine ⟨fun _ => S3, ?_⟩
  repeat (refine ord_ex rfl rfl S3 ?_; apply Exists.intro; refine ⟨fun _ _ => ?_, ?_⟩; (focus (rename_i w hw; have c3 := Blk.cell hw (i := 3) (v := rv) rfl; go_simp; rfl)); simp only [Act.put, List.setIfInBounds_toArray, List.set_cons_zero, List.set_cons_succ, List.getElem_toArray, List.getElem_cons_succ, List.getElem_cons_zero])
  refine ord_act rfl ?_
  refine wpList_store_blk (by rfl) 24 (.tmp 16) (.tmp 14) (by rfl) (b := p) 3 (by rfl) S3 (.slice ao2 (b.recs.length + 1) c2) (by rfl) [.slice ao2 (b.recs.length + 1) c2] (by rfl) (by rw [bk_size HS.out.1.hash]; simp) (by rfl) (by kernel_rfl) ?_
  intro w4 b4 u4
  have e4 : splice (bookCells F.d b.gen b.next rv b.hash b.recs.length b.over) 3 [.slice ao2 (b.recs.length + 1) c2] = bookCells F.d b.gen b.next (.slice ao2 (b.recs.length + 1) c2) b.hash b.recs.length b.over := by simp [splice, bookCells]
  rw [e4] at b4
  refine ⟨fun h => Bool.noConfusion (h.symm.trans (by kernel_rfl : waitsAll _ _ _ = true)), ?_⟩
  show Exit.then _ _ Exit.normal _ _
  have hpw := HS.out.1.top.lt
  dsimp only at hpw
  have hrow4 := H3.out.1.upd u4 (by
    intro k hk; rw [List.mem_singleton.1 hk]
    have := own_ne H3.out.1.row S3 (by decide); exact this) (by
    intro x hx k hk; rw [List.mem_singleton.1 hk]
    obtain ⟨l, _, ho⟩ := H3.out.1.all.mem hx
    exact own_ne ho S3 (by decide))
  have hUa : Upd (p :: blkL rv) w w4 := by
    have h1 : Upd (p :: blkL rv) w w2 := ((H1.out.1).trans H2.out.1 (by simp)).more (by simp)
    refine (h1.trans H3.out.2.1 (fun k hk => .inl ?_)).trans u4 (by simp)
    rw [own_block] at hk
    refine List.mem_cons_of_mem _ (mem_blkL.2 ?_)
    split at hk
    · simp at hk
    · simp at hk; omega
  have HA := Lib.hid (And.intro b4 (And.intro hrow4 (And.intro hUa e4)))
  clear b4 hrow4 hUa u4 S3 e4 S0
  have hld : (Tryd.prog.info? 38).map (·.size) = some (b.hash.map bv ++ [Value.int .i64 b.recs.length]).length := by simp only [List.length_append, List.length_map, HS.out.1.hash]; kernel_rfl
  have HLD := Lib.hid hld
  clear hld
  go_wp2_with (first | (with_reducible refine wpList_load_blk (o := ⟨some 21, _, _, _, _, _⟩) rfl 38 (.tmp 20) rfl (b := p) 4 rfl HA.out.1 _ (b.hash.map bv ++ [Value.int .i64 b.recs.length]) bk_at Tryd.underlying38 rfl HLD.out ?_) | (go_at_call 999999; fail))
  have hr4 : Bytes w4 (.slice ro record.length rc) record := HS.out.2.1.updE HA.out.2.2.1 (by
    intro k hk
    rcases List.mem_cons.1 hk with rfl | hk
    · exact HS.out.2.2.2.1.1
    · have h1 := mem_blkL.1 hk
      have h2 := HS.out.2.2.2.1.2
      omega)
  have hsz4 := HA.out.2.2.1.size
  have ht4 : Table w4 := HS.out.2.2.2.2.1.upd HA.out.2.2.1 (by
    have h1 := HS.out.2.2.2.2.2.1
    simp only [List.mem_cons, mem_blkL]
    omega)
  have hN := next1_any w4 b.hash record b.recs.length ro rc HS.out.1.hash hr4 (Nat.le_trans HS.out.2.2.1 hsz4) (by have := HS.out.2.2.2.2.2.2.2; omega) ht4 (by omega)
  rw [HNL.out] at hN
  refine hN.mono ?_
  rintro e w5 ⟨rfl, u5⟩
  have b5 := HA.out.1.upd u5 (by simp)
  have hrow5 := HA.out.2.1.upd0 u5
  have hU5 := HA.out.2.2.1.trans u5 (by simp)
  have hll := linkOf_len b.hash record
  obtain ⟨lk, hlk⟩ : ∃ lk, linkOf b.hash record = lk := ⟨_, rfl⟩
  rw [hlk] at hll ⊢
  have hst : (Tryd.prog.info? 38).map (·.size) = some (lk.map bv ++ [Value.int .i64 ((b.recs.length : Int) + 1)]).length := by simp only [List.length_append, List.length_map, hll]; kernel_rfl
  have H5 := Lib.hid (And.intro b5 (And.intro hrow5 (And.intro hU5 (And.intro hll (And.intro hst hlk)))))
  clear b5 hrow5 hU5 hll hst hlk u5 hN ht4 hr4 hsz4
  go_wp2_with (with_reducible refine wpList_store_blk (o := ⟨none, .store 38 (.tmp 25) (.tmp 23), _, _, _, _⟩) rfl 38 (.tmp 25) (.tmp 23) rfl (b := p) 4 rfl H5.out.1 (.agg (headCells lk ((b.recs.length : Int) + 1))) rfl (lk.map bv ++ [Value.int .i64 ((b.recs.length : Int) + 1)]) rfl ?_ (head_one _ _) H5.out.2.2.2.2.1 ?_)
  · rw [bk_size HS.out.1.hash]; simp [H5.out.2.2.2.1]
  intro w6 b6 u6
  rw [bk_head HS.out.1.hash H5.out.2.2.2.1] at b6
  have hrow6 := H5.out.2.1.upd u6 (by
    intro k hk; rw [List.mem_singleton.1 hk]
    exact own_ne H5.out.2.1.row H5.out.1 (by decide)) (by
    intro x hx k hk; rw [List.mem_singleton.1 hk]
    obtain ⟨l, _, ho⟩ := H5.out.2.1.all.mem hx
    exact own_ne ho H5.out.1 (by decide))
  have hU6 := H5.out.2.2.1.trans u6 (by simp)
  have cn2 := b6.cell (i := 2) (v := .int .i64 b.next) rfl
  have f2 := b6.frozen 2
  have b7 := b6.set 2 (.int .i64 ((b.next + k : Nat) : Int))
  rw [bk_set2] at b7
  have u7 := upd_set (Upd.refl [p] w6) (b := p) (i := 2) (.inl (by simp)) (.int .i64 ((b.next + k : Nat) : Int))
  have hrow7 := hrow6.upd u7 (by
    intro k hk; rw [List.mem_singleton.1 hk]
    exact own_ne hrow6.row b6 (by decide)) (by
    intro x hx k hk; rw [List.mem_singleton.1 hk]
    obtain ⟨l, _, ho⟩ := hrow6.all.mem hx
    exact own_ne ho b6 (by decide))
  have hU7 := hU6.trans u7 (by simp)
  have hblk := H3.out.2.2
  have H7 := Lib.hid (And.intro b7 (And.intro hrow7 (And.intro hU7 hblk)))
  clear b6 hrow6 hU6 u6 b7 u7 hrow7 hU7 hblk
  have hsum : ((b.next + k : Nat) : Int) = (b.next : Int) + (k : Int) := by omega
  rw [hsum] at H7
  clear hsum
  go_wp2
  go_end0
  have hq : w.heap.size ≤ q := by have := H1.out.1.size; have := H1.out.2.2.2.1; omega
  have hd := own_sep HS.out.1
  have A1 := H7.out.1
  have e1 : ((b.recs.length : Int) + 1) = (((b.recs ++ [record]).length : Nat) : Int) := by simp
  rw [e1, ← H5.out.2.2.2.2.2] at A1
  have A2 := HS.out.1.disk.upd H7.out.2.2.1 hd
  have A3 := H7.out.2.1
  have A4 : ∀ r ∈ b.recs ++ [record], r.length ≤ 4096 := by
    intro r hr
    rcases List.mem_append.1 hr with hr | hr
    · exact HS.out.1.lens r hr
    · rw [List.mem_singleton.1 hr]; exact HS.out.2.2.2.2.2.2.2
  have A5 : (b.recs ++ [record]).length ≤ b.next + k := by simp; omega
  have A6 := HS.out.2.2.2.2.2.2.1
  have A7 := HS.out.1.gen
  have A8 := H7.out.2.2.1
  have A9 : blkOf (.slice ao2 (b.recs.length + 1) c2) = blkOf rv ∨ w.heap.size < blkOf (.slice ao2 (b.recs.length + 1) c2) := by
    rcases H7.out.2.2.2 with h | h
    · exact .inl h
    · right; omega
  have A10 : blkOf (.slice ao1 n c1) = 0 ∨ w.heap.size < blkOf (.slice ao1 n c1) := by
    rcases H1.out.2.2.2.2.2 with h | h
    · exact .inl h
    · right; exact h
  have A11 := linkOf_len b.hash record
  clear HS HNL C H1 H2 H3 HA HLD H5 H7 hd
  unfold BTakePost
  generalize w6.setCell ⟨p, 2, none⟩ (.int .i64 ((b.next : Int) + (k : Int))) = w8 at *
  generalize linkOf b.hash record = lk2 at *
  have K : BookAt w8 ⟨p, F, .slice ao2 (b.recs.length + 1) c2, vs ++ [.slice ao1 n c1]⟩ ⟨b.gen, b.next + k, b.recs ++ [record], lk2, b.over⟩ D := ⟨A1, A2, A3, A11, A4, A5, A6, A7⟩
  exact ⟨.slice ao2 (b.recs.length + 1) c2, .slice ao1 n c1, rfl, K, A8, A9, A10⟩
end Go.Proofs.YtnfnaedoejgpiaaDoor
