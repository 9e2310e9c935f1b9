/- BookOwn: whatever the record, the law's call returns true, and only new memory is written. -/
import Derived.Test.YtnfnaedoejgpiaaDoorRecords
import Derived.Stop.BytesEq
namespace Go.Proofs.YtnfnaedoejgpiaaDoor
open Go.RowKit

/-- A new disk's book. -/
theorem open_new (w : World) (F : DiskF) (m : Nat) (hD : DiskAt w F (DiskS.new m)) (ht : Table w) :
    Calls Tryd.prog 10 #[.pointer (some ⟨F.d, 0, none⟩)] w fun e w' => ∃ p rv vs, e = .returned (.tuple #[.pointer (some ⟨p, 0, none⟩), .int .i64 0]) ∧ BookAt w' ⟨p, F, rv, vs⟩ ⟨1, 0, [], List.replicate 32 0, false⟩ (DiskS.new m) ∧ Upd [] w w' ∧ w.heap.size ≤ p ∧ (blkOf rv = 0 ∨ w.heap.size < blkOf rv) ∧ ∀ x ∈ vs, blkOf x = 0 ∨ w.heap.size < blkOf x := by
  refine (open_any w F (DiskS.new m) hD (by show (-1 : Int) ≠ 0; decide) ht).mono ?_
  intro e w' h
  unfold OpenPost at h
  have e0 : (DiskS.new m).now = List.replicate m zeros := rfl
  rw [e0, mostOf_zeros, if_neg (by decide), openS_zeros] at h
  exact h
/-- All blocks of a book, but the disk's, lie from B0 on. -/
structure From (B0 : Nat) (B : BookF) : Prop where
  p : B0 ≤ B.p
  blks : ∀ k ∈ B.F.blks, B0 ≤ k
  rv : blkOf B.rv = 0 ∨ B0 < blkOf B.rv
  vs : ∀ x ∈ B.vs, blkOf x = 0 ∨ B0 < blkOf x
theorem From.wr {B0 : Nat} {B : BookF} (h : From B0 B) : ∀ k ∈ B.p :: blkL B.rv ++ B.F.blks, B0 ≤ k := by
  intro k hk
  rcases List.mem_append.1 hk with hk | hk
  · rcases List.mem_cons.1 hk with rfl | hk
    · exact h.p
    · have := mem_blkL.1 hk; have := h.rv; omega
  · exact h.blks k hk
/-- Where all parts of a book lie: below the heap's size. -/
theorem BookAt.lt {w : World} {B : BookF} {b : BookS} {D : DiskS} (h : BookAt w B b D) : (∀ k ∈ B.p :: blkL B.rv ++ B.F.blks, k < w.heap.size) ∧ ∀ x ∈ B.vs, blkOf x ≤ w.heap.size := by
  refine ⟨fun k hk => ?_, fun x hx => ?_⟩
  · rcases List.mem_append.1 hk with hk | hk
    · rcases List.mem_cons.1 hk with rfl | hk
      · exact h.top.lt
      · have := mem_blkL.1 hk; have := (own_lt h.rows.row).1; omega
    · exact h.disk.lt k hk
  · obtain ⟨l, _, ho⟩ := h.rows.all.mem hx; exact (own_lt ho).1
/-- A write to blocks that are not the book's. -/
theorem BookAt.far {S : List Nat} {w w' : World} {B : BookF} {b : BookS} {D : DiskS} (h : BookAt w B b D) (hu : Upd S w w') (h1 : ∀ k ∈ S, k ∉ B.p :: blkL B.rv ++ B.F.blks) (h2 : ∀ x ∈ B.vs, ∀ k ∈ S, blkOf x ≠ k + 1) : BookAt w' B b D :=
  h.upd hu (fun k hk => by
    have := h1 k hk
    simp only [List.mem_append, List.mem_cons, mem_blkL, not_or] at this
    exact ⟨this.1.1, this.2, this.1.2, fun x hx => h2 x hx k hk⟩)
theorem From.app {B0 W : Nat} {B : BookF} {v rv : Value} {vs : List Value} (h : From B0 B) (hW : B0 ≤ W) (hv : blkOf v = blkOf B.F.w ∨ blkOf v = 0 ∨ W < blkOf v) (hr : blkOf rv = blkOf B.rv ∨ W < blkOf rv) (hvs : vs = B.vs ∨ ∃ x, vs = B.vs ++ [x] ∧ (blkOf x = 0 ∨ W < blkOf x)) : From B0 ⟨B.p, { B.F with w := v }, rv, vs⟩ := by
  refine ⟨h.p, fun k hk => ?_, ?_, fun x hx => ?_⟩
  · rcases mem_blks.1 hk with h1 | h1 | h1 | h1
    · exact h.blks k (mem_blks.2 (.inl h1))
    · exact h.blks k (mem_blks.2 (.inr (.inl h1)))
    · exact h.blks k (mem_blks.2 (.inr (.inr (.inl h1))))
    · dsimp only at h1
      rcases hv with hv | hv | hv
      · exact h.blks k (mem_blks.2 (.inr (.inr (.inr (by rw [← hv]; exact h1)))))
      · omega
      · omega
  · have := h.rv; dsimp only; omega
  · rcases hvs with rfl | ⟨y, rfl, hy⟩
    · exact h.vs x hx
    · rcases List.mem_append.1 hx with hx | hx
      · exact h.vs x hx
      · rw [List.mem_singleton.1 hx]; omega
/-- A slice of the call's own that has elements: its block. -/
theorem own_blk {w : World} {base e n : Nat} {v : Value} {xs : List Value} (h : w.ownsRow base e 1 v n xs) (hn : 0 < n) : ∃ g c cur, v = .slice (some ⟨g, 0, none⟩) n c ∧ Blk w g cur e ∧ base ≤ g ∧ ∀ i u, xs[i]? = some u → w.cell? ⟨g, i, none⟩ = some u := by
  rcases h.2 with ⟨rfl, rfl⟩ | ⟨g, cap, cur, rfl, hb, hh, hn', hm, hs, ht⟩
  · have := h.1; simp at this; omega
  · refine ⟨g, cap, cur, rfl, hh, hb, fun i u hi => ?_⟩
    rw [cell_of_row w g i cur e (0, 0) hh]
    rw [← ht, List.getElem?_take] at hi
    split at hi
    · simpa using hi
    · cases hi
theorem BookAt.byte_far {w : World} {B : BookF} {b : BookS} {D : DiskS} {base n : Nat} {v : Value} {xs : List Value} (h : BookAt w B b D) (hv : w.ownsRow base 5 1 v n xs) : ∀ k ∈ blkL v, k ∉ B.p :: blkL B.rv ++ B.F.blks := by
  intro k hk hm
  have hk := mem_blkL.1 hk
  have hD := h.disk
  rcases List.mem_append.1 hm with hm | hm
  · rcases List.mem_cons.1 hm with rfl | hm
    · exact own_ne hv h.top (by decide) hk
    · have h1 := mem_blkL.1 hm
      rcases own_ne2 hv h.rows.row (by decide) with h0 | h0 <;> omega
  · rcases mem_blks.1 hm with h1 | h1 | h1 | h1
    · exact own_ne hv hD.top (by decide) (by rw [← h1]; exact hk)
    · exact own_ne hv hD.fl (by decide) (by rw [← h1]; exact hk)
    · exact own_ne hv hD.nw (by decide) (by rw [← h1]; exact hk)
    · rcases own_ne2 hv hD.ws (by decide) with h0 | h0 <;> omega
def RelInc (W : World) (n : Nat) (v : Value) (i : Value) (w : World) : Prop :=
  ∃ (k : Nat) (l : List UInt8), k ≤ n ∧ i = .int .i64 k ∧ l.length = n ∧ w.ownsRow 0 5 1 v n (l.map bv) ∧ Upd (blkL v) W w
theorem byte_add (b : UInt8) (k : UInt8) : Value.int .u8 (((b.toNat : Int) + (k.toNat : Int)) % 256) = bv (b + k) := by
  unfold bv; congr 1
set_option maxRecDepth 20000 in
theorem eq_head (w : World) (h h' : List UInt8) (c c' : Int) (hh : h.length = 32) (hh' : h'.length = 32) : (binOp .eql 38 (.agg (headCells h c)) (.agg (headCells h' c'))).run Tryd.prog w = .ok (.bool (h == h' && c == c')) w := by
  have hf : ((Tryd.prog.fieldsOf 38).toList.map fun f => (f.name, f.type, f.offset)) = [("Hash", 36, 0), ("Count", 3, 32)] := by kernel_rfl
  have ha : ∀ (x : List UInt8) (k : Int), x.length = 32 → (part 36 (headCells x k) 0).run Tryd.prog w = .ok (.agg (bsArr x)) w := fun x k hx => by
    have h1 : (isAgg 36).run Tryd.prog w = .ok true w := by kernel_rfl
    have h2 : (sizeOf 36).run Tryd.prog w = .ok 32 w := by kernel_rfl
    simp only [part, Sem.run_bind, h1, Result.andThen_ok, if_true, h2, Sem.run_pure]
    have e : (headCells x k).extract 0 (0 + 32) = bsArr x := by
      apply Array.ext'
      simp [headCells, bsArr, hx]
    rw [e]
  have hb : ∀ (x : List UInt8) (k : Int), x.length = 32 → (part 3 (headCells x k) 32).run Tryd.prog w = .ok (.int .i64 k) w := fun x k hx => by
    have h1 : (isAgg 3).run Tryd.prog w = .ok false w := by kernel_rfl
    have h2 : (headCells x k)[32]? = some (.int .i64 k) := by simp [headCells, hx]
    simp [part, Sem.run_bind, h1, h2]
  have hbs : (Op.equalIn 9999 36 (.agg (bsArr h)) (.agg (bsArr h'))).run Tryd.prog w = .ok (h == h') w := run_equalIn_bytes (P := Tryd.prog) w 9997 36 5 32 Tryd.underlying36 Tryd.underlying5 (fun w => by kernel_rfl) h h' hh hh'
  have hci : (Op.equalIn 9999 3 (.int .i64 c) (.int .i64 c')).run Tryd.prog w = .ok (c == c') w := run_equalIn_int w 9998 3 .i64 .i64 c c' Tryd.underlying3
  rw [run_eql_struct]
  obtain ⟨d, hd⟩ : ∃ d, 9999 = d := ⟨_, rfl⟩
  have hr := run_equalIn_struct (P := Tryd.prog) w d 38 (headCells h c) (headCells h' c') (by kernel_rfl) (by kernel_rfl)
  rw [hd] at hbs hci
  have h10 : (10000 : Nat) = d + 1 := by omega
  rw [h10, hr]
  obtain ⟨l, hl⟩ : ∃ l, (Tryd.prog.fieldsOf 38).toList = l := ⟨_, rfl⟩
  rw [hl] at hf ⊢
  match l, hf with
  | [f, g], hf =>
    simp only [List.map_cons, List.map_nil, List.cons.injEq, Prod.mk.injEq, and_true] at hf
    obtain ⟨⟨n1, t1, o1⟩, n2, t2, o2⟩ := hf
    have e1 := ha h c hh
    have e2 := ha h' c' hh'
    have e3 := hb h c hh
    have e4 := hb h' c' hh'
    clear ha hb hr hl
    generalize (h == h') = b1 at *
    generalize (c == c') = b2 at *
    cases b1 <;> cases b2 <;> simp [Op.eqFields, n1, t1, o1, n2, t2, o2, e1, e2, e3, e4, hbs, hci]
section
variable {P : Program} {md : Region.Mode} {ops : Array Oper} {S : World → Prop} {Q : Exit → Act → World → Prop}
/-- A guarded operation whose guard holds. -/
theorem ord_takeg {i : Nat} {o : Oper} {v : Value} {r : Ord} {a : Act} {w : World} (ho : ops[i]? = some o) (hg : Region.wanted o (yielded ops a.tmps) = true) (hS : S w) (hy : ∀ w, S w → (execOp a.eval o).run P w = .ok (.value v) w)
    (h : wpOrd P md ops S Q r (a.put o.dst v) w) : wpOrd P md ops S Q (.take i r) a w := ⟨hS, o, v, ho, .inl ⟨hg, hy⟩, h⟩
theorem ord_exg {i : Nat} {o : Oper} {r : Ord} {a : Act} {w : World} (ho : ops[i]? = some o) (hg : Region.wanted o (yielded ops a.tmps) = true) (hS : S w)
    (h : ∃ v, (∀ w, S w → (execOp a.eval o).run P w = .ok (.value v) w) ∧ wpOrd P md ops S Q r (a.put o.dst v) w) : wpOrd P md ops S Q (.take i r) a w := by
  obtain ⟨v, h1, h2⟩ := h
  exact ord_takeg ho hg hS h1 h2
end
set_option maxRecDepth 4000 in
set_option maxHeartbeats 4000000 in
theorem lawOwn_any (w : World) (ro : Option Addr) (rc : Nat) (r : List UInt8) (hr : Bytes w (.slice ro r.length rc) r) (hrb : blkOf (.slice ro r.length rc) ≤ w.heap.size) (ht : Table w) :
    Calls Tryd.prog 4 #[.slice ro r.length rc] w fun e w' => e = .returned (.bool true) ∧ Upd [] w w' := by
  obtain ⟨n, hn⟩ : ∃ n, r.length = n := ⟨_, rfl⟩
  have HS := Lib.hid (And.intro hr (And.intro hrb (And.intro ht hn)))
  rw [hn]
  clear hr hrb ht hn
  go_enter Tryd.func4, Tryd.ntmps4
  go_wp2_with fail
  refine (awake_any w HS.out.2.2.1).mono ?_
  rintro e w1 ⟨rfl, u1⟩
  have H1 := Lib.hid u1
  clear u1
  rcases Nat.lt_or_ge 300 n with hlong | hshort
  · go_wp2_with fail
    refine (awake_any w1 (HS.out.2.2.1.upd H1.out (by simp))).mono ?_
    rintro e w2 ⟨rfl, u2⟩
    have H2 := Lib.hid (H1.out.trans u2 (by simp))
    clear u2
    go_wp2
    go_ret
    exact ⟨rfl, H2.out⟩
  · go_wp2_with fail
    refine (new_any w1 20 (by decide)).mono ?_
    rintro e w2 ⟨d, bf, bn, rfl, h1, h2, h3, h4, h5⟩
    have H2 := Lib.hid (And.intro h1 (And.intro (H1.out.trans h2 (by simp)) (And.intro h3 (And.intro h4 (And.intro h5 h2)))))
    clear h1 h2 h3 h4 h5
    go_wp2_with fail
    refine (open_new w2 ⟨d, bf, bn, .slice none 0 0⟩ 20 H2.out.1 (HS.out.2.2.1.upd H2.out.2.1 (by simp))).mono ?_
    rintro e w3 ⟨p, rv, vs, rfl, k1, k2, k3, k4, k5⟩
    have hF : From w.heap.size ⟨p, ⟨d, bf, bn, .slice none 0 0⟩, rv, vs⟩ := by
      have a1 := H1.out.size
      have a2 := H2.out.2.1.size
      have a3 := H2.out.2.2
      refine ⟨by dsimp only; omega, fun k hk => ?_, by dsimp only; omega, fun x hx => by have := k5 x hx; omega⟩
      rcases mem_blks.1 hk with h | h | h | h
      · dsimp only at h; omega
      · dsimp only at h; omega
      · dsimp only at h; omega
      · simp [blkOf] at h
    have H3 := Lib.hid (And.intro k1 (And.intro (H2.out.2.1.trans k2 (by simp)) hF))
    clear k1 k2 k3 k4 k5 hF
    obtain ⟨q, hq⟩ : ∃ q, w3.heap.size = q := ⟨_, rfl⟩
    have hv0 : (w3.alloc (.cells #[] 5)).ownsRow 0 5 1 (.slice (some ⟨q, 0, none⟩) 0 0) 0 [] := ⟨rfl, .inr ⟨q, 0, #[], rfl, by omega, Blk.newAt hq.symm _ _, Nat.le_refl _, by unfold maxLen; omega, rfl, rfl⟩⟩
    have hsl3 : Sl (w3.alloc (.cells #[] 5)) (.slice ro n rc) n 1 (r.map bv) := by have := HS.out.1.upd (H3.out.2.1.alloc (.cells #[] 5)) (by simp); unfold Bytes at this; rw [HS.out.2.2.2] at this; exact this
    have HV := Lib.hid (And.intro hv0 (And.intro hsl3 hq))
    clear hv0 hsl3 hq
    go_wp2_with (at_builtin; refine wpList_app _ rfl (.tmp 24) (.tmp 25) 26 rfl 0 5 (.int .u8 0) 1 1 Tryd.underlying26 info_byte rfl (by decide) (.slice (some ⟨q, 0, none⟩) 0 0) 0 [] (by rw [← HV.out.2.2]; rfl) HV.out.1 (.slice ro n rc) n (r.map bv) rfl HV.out.2.1 (bv_one r) (by omega) (by decide) (Nat.zero_le _) ?_)
    intro ao c w4 h4
    have hup4 : Upd [] w3 w4 := by
      have hb := h4.upd
      have ha : Upd [] w3 (w3.alloc (.cells #[] 5)) := (Upd.refl [] w3).alloc _
      have hqe := HV.out.2.2
      exact ha.trans hb (fun k hk => .inr (by simp [Value.ownBlock] at hk; omega))
    have hxb : q < blkOf (.slice ao n c) := by
      have hqe := HV.out.2.2
      rcases h4.blk with h | h
      · rw [h]; simp [blkOf]
      · rw [h]; simp; omega
    have hU4 := H3.out.2.1.trans hup4 (by simp)
    have B4 := H3.out.1.upd0 hup4
    have hown := h4.own
    rw [List.nil_append, Nat.zero_add] at hown
    have hlt3 := H3.out.1.lt
    have hqe := HV.out.2.2
    have hx4 := own_lt hown
    have hT4 := HS.out.2.2.1.upd hU4 (by simp)
    have hxS : Bytes w4 (.slice ao r.length c) r := by unfold Bytes; rw [HS.out.2.2.2]; exact own_sl hown
    have hw0 := HS.out.2.2.1.1
    have hA := append_any w4 ⟨p, ⟨d, bf, bn, .slice none 0 0⟩, rv, vs⟩ ⟨1, 0, [], List.replicate 32 0, false⟩ (DiskS.new 20) ao c r B4 hxS (by rw [HS.out.2.2.2]; exact blkE_le hx4.1) (fun k hk => by rw [HS.out.2.2.2]; have := hlt3.1 k hk; have := blkE_or (.slice ao n c); omega) (by rw [HS.out.2.2.2]; omega) hT4 (fun h => by have := H3.out.2.2.wr 0 h; omega) (by show 0 ≤ _; omega)
    have hpl : (parts52 r).length ≤ 20 := by rw [parts52_len, HS.out.2.2.2]; omega
    have hgood := appendS_good (b := ⟨1, 0, [], List.replicate 32 0, false⟩) (D := DiskS.new 20) (r := r) rfl (by rw [HS.out.2.2.2]; omega) (by show _ ≤ 20 - 0; omega) (by show (-1 : Int) < 0; decide)
    obtain ⟨D2, hD2⟩ : ∃ D2, (bwrite 1 1 0 (parts52 r).length (DiskS.new 20) 0 (parts52 r)).1 = D2 := ⟨_, rfl⟩
    obtain ⟨lk, hlk⟩ : ∃ lk, linkOf (List.replicate 32 0) r = lk := ⟨_, rfl⟩
    have hlkl : lk.length = 32 := by rw [← hlk]; exact linkOf_len _ _
    dsimp only at hgood
    rw [show ([] : List (List UInt8)).length + 1 = 1 from rfl, hD2, hlk, List.nil_append] at hgood
    rw [hgood, HS.out.2.2.2] at hA
    have H4 := Lib.hid (And.intro hA (And.intro hU4 (And.intro hown (And.intro hxb hlkl))))
    clear hA hgood hD2 hlk hpl hw0 hxS hT4 hx4 hlt3 hown B4 hU4 hxb hup4 hlkl h4 hqe
    go_wp2_with fail
    refine H4.out.1.mono ?_
    rintro e w5 ⟨v5, rv5, vs5, rfl, m1, m2, m3, m4, m5⟩
    dsimp only at m1 m2 m3 m4 m5
    have hF5 : From w.heap.size ⟨p, ⟨d, bf, bn, v5⟩, rv5, vs5⟩ := From.app H3.out.2.2 H4.out.2.1.size m3 m4 m5
    have hU5 : Upd [] w w5 := H4.out.2.1.trans m2 (fun k hk => .inr (H3.out.2.2.wr k hk))
    have hx5 := own_upd H4.out.2.2.1 m2 (fun k hk => by have := H3.out.1.lt.1 k hk; have := H4.out.2.2.2.1; have := HV.out.2.2; omega)
    have hxv : ∀ x ∈ vs5, blkOf x ≠ blkOf (.slice ao n c) ∨ blkOf x = 0 := fun x hx => by
      have hx4 := (own_lt H4.out.2.2.1).1
      have hb4 := H4.out.2.2.2.1
      have hqe := HV.out.2.2
      rcases m5 with rfl | ⟨y, rfl, hy⟩
      · have := H3.out.1.lt.2 x hx; left; omega
      · rcases List.mem_append.1 hx with hx | hx
        · have := H3.out.1.lt.2 x hx; left; omega
        · rw [List.mem_singleton.1 hx]; omega
    have H5 := Lib.hid (And.intro m1 (And.intro hU5 (And.intro hF5 (And.intro hx5 hxv))))
    clear m1 m2 m3 m4 m5 hF5 hU5 hx5 hxv
    go_wp2_with fail
    refine (bhead_any w5 _ _ _ H5.out.1).mono ?_
    rintro e w6 ⟨rfl, u6⟩
    have B6 := H5.out.1.upd0 u6
    have x6 := own_upd H5.out.2.2.2.1 u6 (by simp)
    have U6 := H5.out.2.1.trans u6 (by simp)
    have hst : (Tryd.prog.info? 38).map (·.size) = some (lk.map bv ++ [Value.int .i64 1]).length := by simp only [List.length_append, List.length_map, H4.out.2.2.2.2]; kernel_rfl
    have hlk1 : (lk.map bv ++ [Value.int .i64 1]).length = 33 := by simp [H4.out.2.2.2.2]
    have H6 := Lib.hid (And.intro B6 (And.intro x6 (And.intro U6 (And.intro hst hlk1))))
    clear B6 x6 U6 u6 hst hlk1
    go_wp2_with (with_reducible refine wpList_store_blk (o := ⟨none, .store 38 (.tmp 6) (.tmp 36), _, _, _, _⟩) rfl 38 (.tmp 6) (.tmp 36) rfl (b := w6.heap.size) 0 rfl (Blk.new w6 _ _) (.agg (headCells lk 1)) rfl (lk.map bv ++ [Value.int .i64 1]) rfl ?_ (head_one _ _) H6.out.2.2.2.1 ?_)
    · rw [H6.out.2.2.2.2]; simp
    intro w7 b7 u7
    rw [splice_all (by rw [H6.out.2.2.2.2]; simp)] at b7
    have U7 := u7.fresh
    obtain ⟨q6, hq6⟩ : ∃ q, w6.heap.size = q := ⟨_, rfl⟩
    rw [hq6] at b7 ⊢
    have B7 := H6.out.1.upd0 U7
    have x7 := own_upd H6.out.2.1 U7 (by simp)
    have hxq := (own_lt H6.out.2.1).1
    have H7 := Lib.hid (And.intro B7 (And.intro x7 (And.intro (H6.out.2.2.1.trans U7 (by simp)) (And.intro b7 (And.intro hq6 hxq)))))
    clear B7 x7 U7 b7 u7 hq6 hxq
    go_wp2_with fail
    refine (records_any w7 _ _ _ H7.out.1).mono ?_
    rintro e w8 ⟨lo, lc, us, rfl, r8, u8⟩
    dsimp only at r8
    obtain ⟨y, hy⟩ : ∃ y, us = [y] := by
      have := r8.len
      match us, this with
      | [y], _ => exact ⟨y, rfl⟩
    subst hy
    have y8 := r8.all.2 0 (by simp) (by simp)
    simp only [List.getElem_cons_zero] at y8
    obtain ⟨yo, yc, rfl, -⟩ := own_sl y8
    obtain ⟨lb, lcc, lcur, hl8, lblk8, -, lcell8⟩ := own_blk r8.row (by simp)
    have hlcell := lcell8 0 _ rfl
    rw [HS.out.2.2.2] at y8 hlcell
    obtain rfl : lo = some ⟨lb, 0, none⟩ := by simp only [Value.slice.injEq] at hl8; exact hl8.1
    have B8 := H7.out.1.upd0 u8
    have x8 := own_upd H7.out.2.1 u8 (by simp)
    have b8 := H7.out.2.2.2.1.upd u8 (by simp)
    have U8 := H7.out.2.2.1.trans u8 (by simp)
    have hyb := own_lt y8
    have hxs := own_lt H7.out.2.1
    have H8 := Lib.hid (And.intro B8 (And.intro x8 (And.intro b8 (And.intro U8 (And.intro y8 (And.intro lblk8 (And.intro hlcell (And.intro hyb hxs))))))))
    clear B8 x8 b8 U8 y8 lblk8 hlcell r8 u8 hl8 lcell8 hyb hxs
    have hr1 : [r].length = 1 := rfl
    rw [hr1]
    clear hr1
    go_wp2_with fail
    go_loopw [8] (RelInc w8 n (.slice ao n c)) (fun i _ => ((n : Int) - intOf i).toNat)
    case atStart => exact ⟨0, r, Nat.zero_le _, rfl, HS.out.2.2.2, H8.out.2.1, Upd.refl _ _⟩
    case round =>
      obtain ⟨k, l, hk, rfl, hll, hown, hu⟩ := hrel
      rcases Nat.lt_or_ge k n with hlt | hge
      · obtain ⟨g, gc, gcur, hv, gb, -, gcell⟩ := own_blk hown (by omega)
        simp only [Value.slice.injEq, true_and] at hv
        obtain ⟨rfl, rfl⟩ := hv
        have hkl : k < l.length := by omega
        obtain ⟨bb, hbb⟩ : ∃ b, l[k] = b := ⟨_, rfl⟩
        have hc := gcell k (bv bb) (by simp [hkl, hbb])
        have hf := gb.frozen k
        have hval : Value.int .u8 (((bb.toNat : Int) + 1) % 256) = bv (bb + 1) := byte_add bb 1
        have hset := own_set (u := bv (bb + 1)) hown hlt
        have hus := upd_set hu (b := g) (i := k) (.inl (mem_blkL.2 rfl)) (bv (bb + 1))
        unfold bv at hc
        have HK := Lib.hid (And.intro hset (And.intro hus (And.intro hll hval)))
        have hb1 := bb.toNat_lt
        clear hset hus hval gb gcell hown hu hll hbb hkl
        have hkn : decide (k < n) = true := by rw [decide_eq_true_eq]; exact hlt
        go_wp2
        go_roundw
        case rel => exact ⟨k + 1, l.set k (bb + 1), by omega, by go_num, by rw [List.length_set]; exact HK.out.2.2.1, by rw [HK.out.2.2.2, List.map_set]; exact HK.out.1, by rw [HK.out.2.2.2]; exact HK.out.2.1⟩
        case measure => simp [intOf]; omega
      · obtain rfl : k = n := by omega
        have hkn : decide (k < k) = false := by simp
        have hxl : blkOf (.slice ao k c) ≠ lb + 1 := own_ne H8.out.2.1 H8.out.2.2.2.2.2.1 (by decide)
        have hyx : ∀ j ∈ blkL (.slice ao k c), blkOf (.slice yo k yc) ≠ j + 1 := fun j hj => by
          have h1 := mem_blkL.1 hj
          have h2 := H8.out.2.2.2.2.2.2.2.1.2
          have h3 := H8.out.2.2.2.2.2.2.2.2.1
          omega
        have hlb : lb ∉ blkL (.slice ao k c) := fun h => hxl (mem_blkL.1 h)
        have lblk9 := H8.out.2.2.2.2.2.1.upd hu hlb
        have hlcell : wr.cell? ⟨lb, 0, none⟩ = some (.slice yo k yc) := by
          rw [World.cell?_of_block (hu.block lb H8.out.2.2.2.2.2.1.lt hlb)]; exact H8.out.2.2.2.2.2.2.1
        have y9 := own_upd H8.out.2.2.2.2.1 hu hyx
        have hq6 : q6 ∉ blkL (.slice ao k c) := fun h => own_ne H8.out.2.1 H8.out.2.2.1 (by decide) (mem_blkL.1 h)
        have b9 := H8.out.2.2.1.upd hu hq6
        have B9 := H8.out.1.far hu (H8.out.1.byte_far H8.out.2.1) (fun x hx j hj => by
          have h1 := mem_blkL.1 hj
          have h2 := H5.out.2.2.2.2 x hx
          omega)
        have hxw : ∀ j ∈ blkL (.slice ao k c), w.heap.size ≤ j := fun j hj => by
          have h1 := mem_blkL.1 hj
          have h2 := H4.out.2.2.2.1
          have h3 := HV.out.2.2
          have h4 := H3.out.2.1.size
          omega
        have U9 : Upd [] w wr := H8.out.2.2.2.1.trans hu (fun j hj => .inr (hxw j hj))
        have H9 := Lib.hid (And.intro B9 (And.intro b9 (And.intro U9 (And.intro y9 (And.intro lblk9 hlcell)))))
        clear hxl hyx hlb lblk9 y9 hq6 b9 B9 hxw U9 hown hu
        have hone : ((1 : Int) != 1) = false := by decide
        go_wp2_with fail
        obtain ⟨wA, hwA⟩ : ∃ wA : World, wA = wr := ⟨_, rfl⟩
        subst hwA
        go_loopw [9] (RelInc wA k (.slice yo k yc)) (fun i _ => ((k : Int) - intOf i).toNat)
        case atStart => exact ⟨0, r, Nat.zero_le _, rfl, HS.out.2.2.2, own_base H9.out.2.2.2.1 (by rcases (own_lt H9.out.2.2.2.1).2 with h | h; exact .inl h; right; omega), Upd.refl _ _⟩
        case round =>
          obtain ⟨j, l2, hj, rfl, hll2, hown, hu⟩ := hrel
          have hlb : lb ∉ blkL (.slice yo k yc) := fun h => own_ne H9.out.2.2.2.1 H9.out.2.2.2.2.1 (by decide) (mem_blkL.1 h)
          have hlcell : wr.cell? ⟨lb, 0, none⟩ = some (.slice yo k yc) := by
            rw [World.cell?_of_block (hu.block lb H9.out.2.2.2.2.1.lt hlb)]; exact H9.out.2.2.2.2.2
          rcases Nat.lt_or_ge j k with hlt | hge
          · obtain ⟨g, gc, gcur, hv, gb, -, gcell⟩ := own_blk hown (by omega)
            simp only [Value.slice.injEq, true_and] at hv
            obtain ⟨rfl, rfl⟩ := hv
            have hkl : j < l2.length := by omega
            obtain ⟨bb, hbb⟩ : ∃ b, l2[j] = b := ⟨_, rfl⟩
            have hc := gcell j (bv bb) (by simp [hkl, hbb])
            have hf := gb.frozen j
            have hval : Value.int .u8 (((bb.toNat : Int) + 2) % 256) = bv (bb + 2) := byte_add bb 2
            have hset := own_set (u := bv (bb + 2)) hown hlt
            have hus := upd_set hu (b := g) (i := j) (.inl (mem_blkL.2 rfl)) (bv (bb + 2))
            unfold bv at hc
            have HK := Lib.hid (And.intro hset (And.intro hus (And.intro hll2 hval)))
            have hb1 := bb.toNat_lt
            clear hset hus hval gb gcell hown hu hll2 hbb hkl hlb
            have hkn : decide (j < k) = true := by rw [decide_eq_true_eq]; exact hlt
            go_wp2
            go_roundw
            case rel => exact ⟨j + 1, l2.set j (bb + 2), by omega, by go_num, by rw [List.length_set]; exact HK.out.2.2.1, by rw [HK.out.2.2.2, List.map_set]; exact HK.out.1, by rw [HK.out.2.2.2]; exact HK.out.2.1⟩
            case measure => simp [intOf]; omega
          · obtain rfl : j = k := by omega
            have hkn : decide (j < j) = false := by simp
            have hyq := H8.out.2.2.2.2.2.2.2.1
            have hyw : ∀ i ∈ blkL (.slice yo j yc), w.heap.size ≤ i := fun i hi => by
              have h1 := mem_blkL.1 hi
              have h4 := H7.out.2.2.1.size
              omega
            have hq6 : q6 ∉ blkL (.slice yo j yc) := fun h => own_ne H9.out.2.2.2.1 H9.out.2.1 (by decide) (mem_blkL.1 h)
            have b10 := H9.out.2.1.upd hu hq6
            have B10 := H9.out.1.far hu (H9.out.1.byte_far H9.out.2.2.2.1) (fun x hx i hi => by
              have h1 := mem_blkL.1 hi
              have h2 := H7.out.1.lt.2 x hx
              omega)
            have U10 : Upd [] w wr := H9.out.2.2.1.trans hu (fun i hi => .inr (hyw i hi))
            have H10 := Lib.hid (And.intro B10 (And.intro b10 U10))
            clear hyq hyw hq6 b10 B10 U10 hown hu hlb hlcell
            go_wp2_with fail
            refine (records_any wr _ _ _ H10.out.1).mono ?_
            rintro e w11 ⟨mo, mc, ms, rfl, r11, u11⟩
            dsimp only at r11
            obtain ⟨z, hz⟩ : ∃ z, ms = [z] := by
              have := r11.len
              match ms, this with
              | [z], _ => exact ⟨z, rfl⟩
            subst hz
            have z11 := r11.all.2 0 (by simp) (by simp)
            simp only [List.getElem_cons_zero] at z11
            obtain ⟨zo, zc, rfl, -⟩ := own_sl z11
            obtain ⟨mb, mcc, mcur, hm11, mblk, -, mcell⟩ := own_blk r11.row (by simp)
            have hmcell := mcell 0 _ rfl
            have hz11 := own_sl z11
            rw [HS.out.2.2.2] at hmcell
            obtain rfl : mo = some ⟨mb, 0, none⟩ := by simp only [Value.slice.injEq] at hm11; exact hm11.1
            have hone1 : [r].length = 1 := rfl
            rw [hone1]
            have U11 := H10.out.2.2.trans u11 (by simp)
            have hrec : Bytes w11 (.slice ro r.length rc) r := HS.out.1.upd U11 (by simp)
            rw [HS.out.2.2.2] at hrec hz11
            have B11 := H10.out.1.upd0 u11
            have b11 := H10.out.2.1.upd u11 (by simp)
            have H11 := Lib.hid (And.intro B11 (And.intro b11 (And.intro U11 (And.intro mblk (And.intro hmcell (And.intro hz11 hrec))))))
            clear B11 b11 U11 mblk hmcell hz11 hrec r11 u11 z11 hm11 mcell hone1
            have S0 : Blk w11.drew q6 (lk.map bv ++ [Value.int .i64 1]).toArray 38 ∧ w11.drew.cell? ⟨mb, 0, none⟩ = some (.slice zo j zc) ∧ Bytes w11.drew (.slice zo j zc) r ∧ Bytes w11.drew (.slice ro j rc) r := ⟨H11.out.2.1, H11.out.2.2.2.2.1, by unfold Bytes; rw [HS.out.2.2.2]; exact H11.out.2.2.2.2.2.1.drew, H11.out.2.2.2.2.2.2.drew⟩
            go_wp2_with fail
            refine wp_region_ord (S := fun w => Blk w q6 (lk.map bv ++ [Value.int .i64 1]).toArray 38 ∧ w.cell? ⟨mb, 0, none⟩ = some (.slice zo j zc) ∧ Bytes w (.slice zo j zc) r ∧ Bytes w (.slice ro j rc) r) (.take 0 (.take 2 (.act 1 (.take 3 (.take 4 (.take 5 (.take 6 (.take 7 (.take 8 (.take 9 (.take 10 (.take 11 (.take 12 (.take 13 (.take 14 (.take 15 (.take 16 (.take 17 (.take 18 .done))))))))))))))))))) (by kernel_rfl) (by kernel_rfl) (fun _ _ d _ _ h => by cases d <;> exact h) ?_
            (refine ord_ex rfl rfl S0 ?_; apply Exists.intro; refine ⟨fun _ _ => ?_, ?_⟩; (focus (rename_i w hw; skip; go_simp; rfl)); simp only [Act.put, List.setIfInBounds_toArray, List.set_cons_zero, List.set_cons_succ, List.getElem_toArray, List.getElem_cons_succ, List.getElem_cons_zero])
            refine ord_load_blk rfl rfl rfl q6 0 rfl _ 38 (fun _ h => h.1) _ (lk.map bv ++ [Value.int .i64 1]) (fun i u hi => by rw [Nat.zero_add]; simpa using hi) Tryd.underlying38 rfl H6.out.2.2.2.1 S0 ?_
            simp only [Act.put, List.setIfInBounds_toArray, List.set_cons_zero, List.set_cons_succ, List.getElem_toArray, List.getElem_cons_succ, List.getElem_cons_zero]
            refine ord_act rfl ?_
            go_wp2_with fail
            refine (bhead_any _ _ _ _ (H11.out.1.upd0 (Upd.refl [] w11).drew)).mono ?_
            rintro e w12 ⟨rfl, u12⟩
            have S1 : Blk w12 q6 (lk.map bv ++ [Value.int .i64 1]).toArray 38 ∧ w12.cell? ⟨mb, 0, none⟩ = some (.slice zo j zc) ∧ Bytes w12 (.slice zo j zc) r ∧ Bytes w12 (.slice ro j rc) r :=
              ⟨S0.1.upd u12 (by simp), cell_upd S0.2.1 H11.out.2.2.2.1.lt u12 (by simp), S0.2.2.1.upd u12 (by simp), S0.2.2.2.upd u12 (by simp)⟩
            have U12 := (H11.out.2.2.1.drew).trans u12 (by simp)
            have H12 := Lib.hid U12
            clear u12 U12
            go_wp2_with fail
            refine ⟨fun _ => S1, ?_⟩
            have hEq : ∀ w, (binOp .eql 38 (.agg (headCells lk 1)) (.agg (lk.map bv ++ [Value.int .i64 1]).toArray)).run Tryd.prog w = .ok (.bool true) w := fun w => by
              have := eq_head w lk lk 1 1 H4.out.2.2.2.2 H4.out.2.2.2.2
              simp only [beq_self_eq_true, Bool.and_self] at this
              exact this
            (refine ord_ex rfl rfl S1 ?_; apply Exists.intro; refine ⟨fun _ _ => ?_, ?_⟩; (focus (rename_i w hw; have he := hEq w; go_simp; rfl)); simp only [Act.put, List.setIfInBounds_toArray, List.set_cons_zero, List.set_cons_succ, List.getElem_toArray, List.getElem_cons_succ, List.getElem_cons_zero])
            clear hEq
            (refine ord_ex rfl rfl S1 ?_; apply Exists.intro; refine ⟨fun _ _ => ?_, ?_⟩; (focus (rename_i w hw; skip; go_simp; rfl)); simp only [Act.put, List.setIfInBounds_toArray, List.set_cons_zero, List.set_cons_succ, List.getElem_toArray, List.getElem_cons_succ, List.getElem_cons_zero])
            iterate 3 (refine ord_exg rfl (by kernel_rfl) S1 ?_; apply Exists.intro; refine ⟨fun _ _ => ?_, ?_⟩; (focus (rename_i w hw; skip; go_simp; rfl)); simp only [Act.put, List.setIfInBounds_toArray, List.set_cons_zero, List.set_cons_succ, List.getElem_toArray, List.getElem_cons_succ, List.getElem_cons_zero])
            iterate 2 (refine ord_ex rfl rfl S1 ?_; apply Exists.intro; refine ⟨fun _ _ => ?_, ?_⟩; (focus (rename_i w hw; skip; go_simp; rfl)); simp only [Act.put, List.setIfInBounds_toArray, List.set_cons_zero, List.set_cons_succ, List.getElem_toArray, List.getElem_cons_succ, List.getElem_cons_zero])
            iterate 3 (refine ord_exg rfl (by kernel_rfl) S1 ?_; apply Exists.intro; refine ⟨fun _ _ => ?_, ?_⟩; (focus (rename_i w hw; have hmc := hw.2.1; go_simp; rfl)); simp only [Act.put, List.setIfInBounds_toArray, List.set_cons_zero, List.set_cons_succ, List.getElem_toArray, List.getElem_cons_succ, List.getElem_cons_zero])
            (refine ord_exg rfl (by kernel_rfl) S1 ?_; apply Exists.intro; refine ⟨fun _ _ => ?_, ?_⟩; (focus (rename_i w hw; have hs1 := run_str (P := Tryd.prog) hw.2.2.1 26 5 Tryd.underlying26 Tryd.underlying5 9 Tryd.underlying9; go_simp; rfl)); simp only [Act.put, List.setIfInBounds_toArray, List.set_cons_zero, List.set_cons_succ, List.getElem_toArray, List.getElem_cons_succ, List.getElem_cons_zero])
            (refine ord_exg rfl (by kernel_rfl) S1 ?_; apply Exists.intro; refine ⟨fun _ _ => ?_, ?_⟩; (focus (rename_i w hw; skip; go_simp; rfl)); simp only [Act.put, List.setIfInBounds_toArray, List.set_cons_zero, List.set_cons_succ, List.getElem_toArray, List.getElem_cons_succ, List.getElem_cons_zero])
            (refine ord_exg rfl (by kernel_rfl) S1 ?_; apply Exists.intro; refine ⟨fun _ _ => ?_, ?_⟩; (focus (rename_i w hw; have hs1 := run_str (P := Tryd.prog) hw.2.2.2 26 5 Tryd.underlying26 Tryd.underlying5 9 Tryd.underlying9; go_simp; rfl)); simp only [Act.put, List.setIfInBounds_toArray, List.set_cons_zero, List.set_cons_succ, List.getElem_toArray, List.getElem_cons_succ, List.getElem_cons_zero])
            (refine ord_exg rfl (by kernel_rfl) S1 ?_; apply Exists.intro; refine ⟨fun _ _ => ?_, ?_⟩; (focus (rename_i w hw; skip; go_simp; rfl)); simp only [Act.put, List.setIfInBounds_toArray, List.set_cons_zero, List.set_cons_succ, List.getElem_toArray, List.getElem_cons_succ, List.getElem_cons_zero])
            iterate 2 (refine ord_ex rfl rfl S1 ?_; apply Exists.intro; refine ⟨fun _ _ => ?_, ?_⟩; (focus (rename_i w hw; skip; go_simp; rfl)); simp only [Act.put, List.setIfInBounds_toArray, List.set_cons_zero, List.set_cons_succ, List.getElem_toArray, List.getElem_cons_succ, List.getElem_cons_zero])
            show Exit.then _ _ Exit.normal _ _
            go_wp2
            go_ret
            exact ⟨rfl, H12.out⟩
end Go.Proofs.YtnfnaedoejgpiaaDoor
