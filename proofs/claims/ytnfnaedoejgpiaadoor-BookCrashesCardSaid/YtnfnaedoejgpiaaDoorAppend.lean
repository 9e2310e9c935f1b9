/- Book.Append, and the small methods of a book. -/
import Derived.Test.YtnfnaedoejgpiaaDoorBWrite
namespace Go.Proofs.YtnfnaedoejgpiaaDoor
open Go.RowKit

theorem room_any (w : World) (B : BookF) (b : BookS) (D : DiskS) (h : BookAt w B b D) :
    Calls Tryd.prog 16 #[.pointer (some ⟨B.p, 0, none⟩)] w fun e w' => e = .returned (.int .i64 ((D.now.length - b.next : Nat) : Int)) ∧ Upd [] w w' := by
  have hn := h.next
  have hfew := h.disk.ok.few
  obtain ⟨nl, hnl⟩ : ∃ nl, D.now.length = nl := ⟨_, rfl⟩
  rw [hnl] at hn hfew ⊢
  obtain ⟨p, F, rv, vs⟩ := B
  have T := h.top
  dsimp only at T
  have HS := Lib.hid (And.intro h (And.intro hnl T))
  clear h hnl T
  have e : IntKind.i64.wrap ((nl : Int) - (b.next : Int)) = ((nl - b.next : Nat) : Int) := by rw [IntKind.wrap_i64]; omega
  have HE := Lib.hid e
  clear e
  go_enter Tryd.func16, Tryd.ntmps16
  go_wp2_with fail
  have S0 : Blk w.drew p (bookCells F.d b.gen b.next rv b.hash b.recs.length b.over) 60 := HS.out.2.2
  refine wp_region_ord (S := fun w => Blk w p (bookCells F.d b.gen b.next rv b.hash b.recs.length b.over) 60) (.take 0 (.take 1 (.take 2 (.take 3 (.take 5 (.take 6 (.take 7 (.take 8 (.act 4 (.take 9 (.take 10 .done))))))))))) (by kernel_rfl) (by kernel_rfl) (fun _ _ d _ _ h => by cases d <;> exact h) ?_
  iterate 8 (refine ord_ex rfl rfl S0 ?_; apply Exists.intro; refine ⟨fun _ _ => ?_, ?_⟩; (focus (rename_i w hw; have c0 := Blk.cell hw (i := 0) (v := .pointer (some ⟨F.d, 0, none⟩)) rfl; have c2 := Blk.cell hw (i := 2) (v := .int .i64 b.next) rfl; go_simp; rfl)); simp only [Act.put, List.setIfInBounds_toArray, List.set_cons_zero, List.set_cons_succ, List.getElem_toArray, List.getElem_cons_succ, List.getElem_cons_zero])
  refine ord_act rfl ?_
  go_wp2_with fail
  refine (sectors_any _ F D (HS.out.1.disk.upd (Upd.refl [] w).drew (by simp))).mono ?_
  rintro e w' ⟨rfl, rfl⟩
  rw [HS.out.2.1]
  go_wp2_with fail
  refine ⟨fun _ => S0, ?_⟩
  have HE1 := HE.out
  iterate 2 (refine ord_ex rfl rfl S0 ?_; apply Exists.intro; refine ⟨fun _ _ => ?_, ?_⟩; (focus (rename_i w hw; skip; go_simp; rfl)); simp only [Act.put, List.setIfInBounds_toArray, List.set_cons_zero, List.set_cons_succ, List.getElem_toArray, List.getElem_cons_succ, List.getElem_cons_zero])
  show Exit.then _ _ Exit.normal _ _
  clear HE1
  go_wp2
  go_ret
  exact ⟨rfl, (Upd.refl [] w).drew⟩
theorem over_any (w : World) (B : BookF) (b : BookS) (D : DiskS) (h : BookAt w B b D) :
    Calls Tryd.prog 17 #[.pointer (some ⟨B.p, 0, none⟩)] w fun e w' => e = .returned (.bool b.over) ∧ w = w' := by
  obtain ⟨p, F, rv, vs⟩ := B
  have c37 := h.top.cell (bk_over h.hash)
  dsimp only at c37
  clear h
  go_enter Tryd.func17, Tryd.ntmps17
  go_wp2
  go_ret
  exact ⟨rfl, rfl⟩
set_option maxRecDepth 4000 in
theorem bhead_any (w : World) (B : BookF) (b : BookS) (D : DiskS) (h : BookAt w B b D) :
    Calls Tryd.prog 13 #[.pointer (some ⟨B.p, 0, none⟩)] w fun e w' => e = .returned (.agg (headCells b.hash b.recs.length)) ∧ Upd [] w w' := by
  obtain ⟨p, F, rv, vs⟩ := B
  have hld : (Tryd.prog.info? 38).map (·.size) = some (b.hash.map bv ++ [Value.int .i64 b.recs.length]).length := by simp only [List.length_append, List.length_map, h.hash]; kernel_rfl
  have HLD := Lib.hid hld
  clear hld
  have T := h.top
  dsimp only at T
  have hone := head_one b.hash b.recs.length
  obtain ⟨q, hq⟩ : ∃ q, w.heap.size = q := ⟨_, rfl⟩
  have hz : headCells (List.replicate 32 0) 0 = headCells (List.replicate 32 0) 0 := rfl
  have HQ := Lib.hid (And.intro hq (And.intro T (And.intro hone h.hash)))
  clear hone hq hz T h
  go_enter Tryd.func13, Tryd.ntmps13
  go_wp2_with (first | (with_reducible refine wpList_load_blk (o := ⟨some 6, _, _, _, _, _⟩) rfl 38 (.tmp 5) rfl (b := p) 4 rfl (HQ.out.2.1.alloc _) _ (b.hash.map bv ++ [Value.int .i64 b.recs.length]) bk_at Tryd.underlying38 rfl HLD.out ?_) | (with_reducible refine wpList_store_blk (o := ⟨none, .store 38 (.tmp 2) (.tmp 6), _, _, _, _⟩) rfl 38 (.tmp 2) (.tmp 6) rfl (b := w.heap.size) 0 rfl (Blk.new w _ _) (.agg (b.hash.map bv ++ [Value.int .i64 b.recs.length]).toArray) rfl (b.hash.map bv ++ [Value.int .i64 b.recs.length]) rfl ?_ HQ.out.2.2.1 HLD.out ?_))
  · simp [HQ.out.2.2.2]
  intro w2 b2 u2
  rw [splice_all (by simp [HQ.out.2.2.2])] at b2
  have H2 := Lib.hid (And.intro b2 u2.fresh)
  clear b2 u2
  go_wp2
  exact bodyPost_ret (results_blk rfl _ H2.out.1 _ rfl Tryd.underlying38 rfl (by rw [List.size_toArray]; exact HLD.out)) rfl ⟨rfl, H2.out.2⟩

/-- What Append hands back, and leaves. -/
def appendS (b : BookS) (D : DiskS) (r : List UInt8) : BookS × DiskS × Int :=
  if b.over = true then (b, D, 5)
  else if 4096 < r.length then (b, D, 3)
  else if D.now.length - b.next < (parts52 r).length then (b, D, 4)
  else
    let R := bwrite (b.recs.length + 1) b.gen b.next (parts52 r).length D 0 (parts52 r)
    if R.2 ≠ 0 then ({ b with over := true }, R.1, R.2) else ({ b with recs := b.recs ++ [r], hash := linkOf b.hash r, next := b.next + (parts52 r).length }, R.1, 0)
def BAppendPost (W : World) (B : BookF) (r : BookS × DiskS × Int) (e : Ending) (w : World) : Prop :=
  ∃ v rv vs, e = .returned (.int .i64 r.2.2) ∧ BookAt w ⟨B.p, { B.F with w := v }, rv, vs⟩ r.1 r.2.1 ∧ Upd (B.p :: blkL B.rv ++ B.F.blks) W w ∧ (blkOf v = blkOf B.F.w ∨ blkOf v = 0 ∨ W.heap.size < blkOf v) ∧ (blkOf rv = blkOf B.rv ∨ W.heap.size < blkOf rv) ∧ (vs = B.vs ∨ ∃ x, vs = B.vs ++ [x] ∧ (blkOf x = 0 ∨ W.heap.size < blkOf x))
theorem bwrite_res (num gen next cnt : Nat) : ∀ (ls : List (List UInt8)) (D : DiskS) (i : Nat), (bwrite num gen next cnt D i ls).2 = 0 ∨ (bwrite num gen next cnt D i ls).2 = 5
  | [], D, i => by unfold bwrite; split <;> simp
  | x :: xs, D, i => by unfold bwrite; split; simp; exact bwrite_res num gen next cnt xs _ _
theorem bwrite_len (num gen next cnt : Nat) : ∀ (ls : List (List UInt8)) (D : DiskS) (i : Nat), (bwrite num gen next cnt D i ls).1.now.length = D.now.length
  | [], D, i => by unfold bwrite; split <;> rfl
  | x :: xs, D, i => by unfold bwrite; split; rfl; rw [bwrite_len num gen next cnt xs]; simp [DiskS.write]
set_option maxRecDepth 4000 in
set_option maxHeartbeats 2000000 in
theorem append_any (w : World) (B : BookF) (b : BookS) (D : DiskS) (ro : Option Addr) (rc : Nat) (r : List UInt8) (hB : BookAt w B b D) (hr : Bytes w (.slice ro r.length rc) r) (hrb : blkE (.slice ro r.length rc) ≤ w.heap.size) (hrn : ∀ k ∈ B.p :: blkL B.rv ++ B.F.blks, blkE (.slice ro r.length rc) ≠ k + 1)
    (hl : r.length ≤ 1000000000) (ht : Table w) (ht0 : 0 ∉ B.p :: blkL B.rv ++ B.F.blks) (hw : D.waits.length ≤ 10000) :
    Calls Tryd.prog 12 #[.pointer (some ⟨B.p, 0, none⟩), .slice ro r.length rc] w (BAppendPost w B (appendS b D r)) := by
  obtain ⟨R, hR⟩ : ∃ R, appendS b D r = R := ⟨_, rfl⟩
  rw [hR]
  obtain ⟨n, hn⟩ : ∃ n, r.length = n := ⟨_, rfl⟩
  have HP := Lib.hid (fun w' (hu : Upd [] w w') => bparts_any w' ro rc r (hr.upd hu (by simp)) (Nat.le_trans hrb hu.size) hl)
  have c37 := hB.top.cell (bk_over hB.hash)
  have f37 := hB.top.frozen 37
  rw [hn] at HP hl ⊢
  have HS := Lib.hid (And.intro hB (And.intro hr (And.intro hrb (And.intro hrn (And.intro ht (And.intro ht0 (And.intro hw (And.intro hR hn))))))))
  clear hB hr hrb hrn ht ht0 hw hR hn
  obtain ⟨p, F, rv, vs⟩ := B
  dsimp only at c37 f37
  obtain ⟨bk, hbk⟩ : ∃ bk, blkE (.slice ro n rc) = bk := ⟨_, rfl⟩
  rw [hbk] at HP
  have HBK := Lib.hid hbk
  clear hbk
  go_enter Tryd.func12, Tryd.ntmps12
  go_wp2_with fail
  refine (HP.out w (Upd.refl [] w)).mono ?_
  rintro e w1 ⟨ao, c, ps, rfl, h1, h2⟩
  have B1 := HS.out.1.upd0 h2
  obtain ⟨pn, hpn⟩ : ∃ pn, (parts52 r).length = pn := ⟨_, rfl⟩
  rw [hpn] at h1 ⊢
  have H1 := Lib.hid (And.intro h1 (And.intro h2 (And.intro B1 hpn)))
  clear c37 f37
  have c37 := B1.top.cell (bk_over B1.hash)
  have f37 := B1.top.frozen 37
  dsimp only at c37 f37
  clear h1 h2 B1 hpn
  have same : ∀ (w' : World) (k : Int), Upd [] w w' → R = (b, D, k) → BAppendPost w ⟨p, F, rv, vs⟩ R (.returned (.int .i64 k)) w' := fun w' k hu he => by
    rw [he]
    exact ⟨F.w, rv, vs, rfl, HS.out.1.upd0 hu, hu.more (by simp), .inl rfl, .inl rfl, .inl rfl⟩
  have SAME := Lib.hid same
  clear same
  cases ho : b.over with
  | true =>
    rw [ho] at c37
    have hR : R = (b, D, 5) := by rw [← HS.out.2.2.2.2.2.2.2.1]; unfold appendS; rw [if_pos ho]
    have HZ := Lib.hid hR
    clear hR ho
    go_wp2
    go_ret
    exact SAME.out _ 5 H1.out.2.1 HZ.out
  | false =>
    rw [ho] at c37
    have HO := Lib.hid ho
    clear ho
    rcases Nat.lt_or_ge 4096 n with hlong | hlong
    · have hR : R = (b, D, 3) := by rw [← HS.out.2.2.2.2.2.2.2.1]; unfold appendS; rw [if_neg (by rw [HO.out]; decide), if_pos (by rw [HS.out.2.2.2.2.2.2.2.2]; exact hlong)]
      have HZ := Lib.hid hR
      clear hR
      go_wp2
      go_ret
      exact SAME.out _ 3 H1.out.2.1 HZ.out
    · go_wp2_with fail
      refine (room_any w1 ⟨p, F, rv, vs⟩ b D H1.out.2.2.1).mono ?_
      rintro e w2 ⟨rfl, u2⟩
      have hU2 := H1.out.2.1.trans u2 (by simp)
      have B2 := H1.out.2.2.1.upd0 u2
      have f37' := B2.top.frozen 37
      have c37' := B2.top.cell (bk_over B2.hash)
      rw [HO.out] at c37'
      dsimp only at f37' c37'
      have H2 := Lib.hid (And.intro hU2 (And.intro B2 u2))
      clear hU2 B2 u2 c37 f37
      obtain ⟨rm, hrm⟩ : ∃ rm, D.now.length - b.next = rm := ⟨_, rfl⟩
      rw [hrm]
      have HRM := Lib.hid hrm
      clear hrm
      rcases Nat.lt_or_ge rm pn with hfull | hfull
      · have hR : R = (b, D, 4) := by
          rw [← HS.out.2.2.2.2.2.2.2.1]; unfold appendS
          rw [if_neg (by rw [HO.out]; decide), if_neg (by rw [HS.out.2.2.2.2.2.2.2.2]; omega), if_pos (by rw [HRM.out, H1.out.2.2.2]; exact hfull)]
        have HZ := Lib.hid hR
        clear hR
        go_wp2
        go_ret
        exact SAME.out _ 4 H2.out.1 HZ.out
      · go_wp2_with fail
        have hcut := H1.out.1.upd0 H2.out.2.2
        have hpn := H1.out.2.2.2
        have h79 : pn ≤ 79 := by rw [← hpn, parts52_len, HS.out.2.2.2.2.2.2.2.2]; omega
        have hnx := HS.out.1.next
        have hrow := hcut.row
        rw [← hpn] at hrow
        have hlt1 := HS.out.1.disk.lt
        have hblk := own_lt hrow
        have hu1 := H1.out.2.1.size
        have hu2 := H2.out.2.2.size
        have hbkn : ∀ k ∈ p :: blkL rv ++ F.blks, bk ≠ k + 1 := fun k hk => by have := HS.out.2.2.2.1 k hk; rw [HS.out.2.2.2.2.2.2.2.2, HBK.out] at this; exact this
        have hbkw : bk ≤ w.heap.size := by have := HS.out.2.2.1; rw [HS.out.2.2.2.2.2.2.2.2, HBK.out] at this; exact this
        have hW := bwrite_any w2 ⟨p, F, rv, vs⟩ b D ao c bk ps (parts52 r) H2.out.2.1 (by rw [hpn]; have := own_sl hrow; rw [hpn] at this; exact this) (by rw [hpn]; rw [hpn] at hblk; exact hblk.1) (fun k hk => by have := hlt1 k hk; rw [hpn] at hblk ⊢; omega) hcut.reads hcut.at_ (by omega) (fun k hk => hbkn k (by simp [hk])) (parts52_le r) (by omega) (by rw [hpn]; have := HRM.out; omega) HS.out.2.2.2.2.2.2.1
        rw [hpn] at hW
        refine hW.mono ?_
        clear hW hrow hblk hcut
        rintro e w3 ⟨v, rfl, k1, k2, k3⟩
        obtain ⟨Rw, hRw⟩ : ∃ Rw, bwrite (b.recs.length + 1) b.gen b.next pn D 0 (parts52 r) = Rw := ⟨_, rfl⟩
        have hR : R = if Rw.2 ≠ 0 then ({ b with over := true }, Rw.1, Rw.2) else ({ b with recs := b.recs ++ [r], hash := linkOf b.hash r, next := b.next + pn }, Rw.1, 0) := by
          rw [← HS.out.2.2.2.2.2.2.2.1]; unfold appendS
          rw [if_neg (by rw [HO.out]; decide), if_neg (by rw [HS.out.2.2.2.2.2.2.2.2]; omega), if_neg (by rw [HRM.out, hpn]; omega), hpn, hRw]
        have h05 : Rw.2 = 0 ∨ Rw.2 = 5 := by rw [← hRw]; exact bwrite_res _ _ _ _ _ _ _
        have hlen : Rw.1.now.length = D.now.length := by rw [← hRw]; exact bwrite_len _ _ _ _ _ _ _
        rw [hRw] at k1 ⊢
        dsimp only at k1 k2 k3
        have hU3 : Upd F.blks w w3 := (H2.out.1.more (T := F.blks) (by simp)).trans k2 (fun x hx => .inl hx)
        have hk3 : blkOf v = blkOf F.w ∨ blkOf v = 0 ∨ w.heap.size < blkOf v := by rcases k3 with h | h | h; exact .inl h; exact .inr (.inl h); right; right; omega
        have c37 := k1.top.cell (bk_over k1.hash)
        have f37 := k1.top.frozen 37
        rw [HO.out] at c37
        dsimp only at c37 f37
        have hrm := HRM.out
        have hnx2 : b.next + pn ≤ Rw.1.now.length := by omega
        have hp1 : 1 ≤ pn := by rw [← hpn, parts52_len]; omega
        have H3 := Lib.hid (And.intro k1 (And.intro hU3 (And.intro hk3 (And.intro hR (And.intro hlen (And.intro hbkn hbkw))))))
        clear k1 k2 k3 hU3 hk3 hR hRw hlen hbkn hbkw hlt1 hpn hnx hu1 hu2 hrm c37' f37' HP
        rcases h05 with h0 | h5
        · have h0' : (Rw.2 != 0) = false := by rw [h0]; rfl
          have HZ := Lib.hid h0
          clear h0
          have hbkn := H3.out.2.2.2.2.2.1
          have hr3 : Bytes w3 (.slice ro r.length rc) r := HS.out.2.1.updE H3.out.2.1 (fun k hk => HS.out.2.2.2.1 k (by simp [hk]))
          have hT := btake_any w3 ⟨p, { F with w := v }, rv, vs⟩ b Rw.1 r ro rc pn H3.out.1 hr3 (Nat.le_trans HS.out.2.2.1 H3.out.2.1.size) ⟨HS.out.2.2.2.1 p (by simp), by
            rcases Nat.eq_zero_or_pos (blkOf rv) with h | h
            · exact .inl h
            · right; have := HS.out.2.2.2.1 (blkOf rv - 1) (List.mem_append.2 (.inl (List.mem_cons_of_mem _ (mem_blkL.2 (by omega))))); dsimp only; omega⟩ (by rw [HS.out.2.2.2.2.2.2.2.2]; omega) (HS.out.2.2.2.2.1.upd H3.out.2.1 (fun h => HS.out.2.2.2.2.2.1 (by simp [h]))) ⟨fun h => HS.out.2.2.2.2.2.1 (by dsimp only at h; simp [h]), fun h => HS.out.2.2.2.2.2.1 (List.mem_append.2 (.inl (List.mem_cons_of_mem _ (mem_blkL.2 h))))⟩ hp1 hnx2
          rw [HS.out.2.2.2.2.2.2.2.2] at hT
          have HT := Lib.hid hT
          clear hT hr3 hbkn hnx2 hp1
          go_wp2_with fail
          refine HT.out.mono ?_
          rintro e w4 ⟨rv2, x, rfl, k1, k2, k3, k4⟩
          dsimp only at k1 k2 k3 k4
          have hsz := H3.out.2.1.size
          have H4 := Lib.hid (And.intro k1 (And.intro k2 (And.intro k3 k4)))
          clear k1 k2 k3 k4
          go_wp2
          go_ret
          have hR := H3.out.2.2.2.1
          rw [if_neg (by rw [HZ.out]; simp)] at hR
          have G := H4.out
          have U := H3.out.2.1
          have V := H3.out.2.2.1
          rw [hR]
          clear HS HT SAME H1 H2 H3 H4 hR
          generalize linkOf b.hash r = lk at *
          refine ⟨v, rv2, vs ++ [x], rfl, G.1, ?_, V, ?_, .inr ⟨x, rfl, ?_⟩⟩
          · exact (U.more (T := p :: blkL rv ++ F.blks) (fun k hk => .inl (by simp [hk]))).trans G.2.1 (fun k hk => .inl (by rw [List.mem_append]; exact .inl hk))
          · rcases G.2.2.1 with h | h
            · exact .inl h
            · right; omega
          · rcases G.2.2.2 with h | h
            · exact .inl h
            · right; omega
        · have h5' : (Rw.2 != 0) = true := by rw [h5]; rfl
          have HZ := Lib.hid h5
          clear h5
          have b4 := H3.out.1.top.set 37 (.bool true)
          have u4 := upd_set (Upd.refl [p] w3) (b := p) (i := 37) (.inl (by simp)) (.bool true)
          have H4 := Lib.hid (And.intro b4 u4)
          clear b4 u4
          go_wp2
          go_ret
          have hR := H3.out.2.2.2.1
          rw [if_pos (by rw [HZ.out]; simp)] at hR
          rw [hR]
          have h1 := H3.out.1
          have hs := book_sep h1
          have ho := own_sep h1
          have hbc : (bookCells F.d b.gen b.next rv b.hash b.recs.length b.over).setIfInBounds 37 (.bool true) = bookCells F.d b.gen b.next rv b.hash b.recs.length true := by
            have hh := h1.hash
            unfold bookCells
            apply Array.ext'
            simp only [Array.toList_setIfInBounds]
            rw [show (37 : Nat) = 33 + 1 + 1 + 1 + 1 from rfl]
            simp only [List.set_cons_succ]
            rw [List.set_append_right _ _ (by simp [hh])]
            simp [hh]
          have hb4 := H4.out.1
          rw [hbc] at hb4
          refine ⟨v, rv, vs, rfl, ⟨hb4, h1.disk.upd H4.out.2 (fun k hk => by rw [List.mem_singleton.1 hk]; exact hs.1), h1.rows.upd H4.out.2 (fun k hk => by rw [List.mem_singleton.1 hk]; exact own_ne h1.rows.row h1.top (by decide)) (fun x hx k hk => by rw [List.mem_singleton.1 hk]; obtain ⟨l, _, hl⟩ := h1.rows.all.mem hx; exact own_ne hl h1.top (by decide)), h1.hash, h1.lens, h1.few, h1.next, h1.gen⟩, ?_, H3.out.2.2.1, .inl rfl, .inl rfl⟩
          exact (H3.out.2.1.more (T := p :: blkL rv ++ F.blks) (fun k hk => .inl (by simp [hk]))).trans H4.out.2 (by simp)
end Go.Proofs.YtnfnaedoejgpiaaDoor
