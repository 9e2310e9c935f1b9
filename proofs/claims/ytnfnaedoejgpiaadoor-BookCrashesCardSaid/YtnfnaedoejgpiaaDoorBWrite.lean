/- What book.write does: a record's sectors, one behind the other, and a flush. -/
import Derived.Test.YtnfnaedoejgpiaaDoorWrite
namespace Go.Proofs.YtnfnaedoejgpiaaDoor
open Go.RowKit

def bwrite (num gen next cnt : Nat) : DiskS → Nat → List (List UInt8) → DiskS × Int
  | D, _, [] => if D.fuse = 0 then (D, 5) else ({ D with flushed := D.now, waits := [] }, 0)
  | D, i, x :: xs => if D.fuse = 0 then (D, 5) else bwrite num gen next cnt (D.write (next + i) (secOf num gen i cnt x)) (i + 1) xs
theorem secOf_len (n g i c : Nat) {x : List UInt8} (h : x.length ≤ 52) : (secOf n g i c x).length = 64 := by
  unfold secOf; rw [List.length_append, secHead_length, List.length_replicate]; omega
theorem flush_off (w : World) (F : DiskF) (D : DiskS) (h : DiskAt w F D) (h0 : D.fuse = 0) :
    Calls Tryd.prog 43 #[.pointer (some ⟨F.d, 0, none⟩)] w fun e w' => e = .returned (.int .i64 5) ∧ w = w' := by
  have c0 := h.top.cell (i := 0) rfl
  have h0' : (D.fuse == 0) = true := by simpa using h0
  clear h h0
  go_enter Tryd.func43, Tryd.ntmps43
  go_wp2
  go_ret
  exact ⟨rfl, rfl⟩
theorem write_off (w : World) (F : DiskF) (D : DiskS) (i : Int) (v : Value) (h : DiskAt w F D) (h0 : D.fuse = 0) :
    Calls Tryd.prog 42 #[.pointer (some ⟨F.d, 0, none⟩), .int .i64 i, v] w fun e w' => e = .returned (.int .i64 5) ∧ w = w' := by
  have c0 := h.top.cell (i := 0) rfl
  have h0' : (D.fuse == 0) = true := by simpa using h0
  clear h h0
  go_enter Tryd.func42, Tryd.ntmps42
  go_wp2_with (go_at_call 36; refine (off_any _ _ _ _ c0).mono ?_; rintro e w' ⟨rfl, rfl⟩)
  go_ret
  exact ⟨rfl, rfl⟩
theorem book_sep {w : World} {B : BookF} {b : BookS} {D : DiskS} (h : BookAt w B b D) : B.p ∉ B.F.blks ∧ (∀ k ∈ B.F.blks, blkOf B.rv ≠ k + 1) ∧ ∀ x ∈ B.vs, ∀ k ∈ B.F.blks, blkOf x ≠ k + 1 := by
  refine ⟨own_sep h _ (by simp), fun k hk he => own_sep h k (List.mem_cons_of_mem _ (mem_blkL.2 he)) hk, fun x hx k hk he => ?_⟩
  obtain ⟨l, _, ho⟩ := h.rows.all.mem hx
  have hD := h.disk
  rcases mem_blks.1 hk with h1 | h1 | h1 | h1
  · exact own_ne ho hD.top (by decide) (by rw [← h1]; exact he)
  · exact own_ne ho hD.fl (by decide) (by rw [← h1]; exact he)
  · exact own_ne ho hD.nw (by decide) (by rw [← h1]; exact he)
  · rcases own_ne2 ho hD.ws (by decide) with h0 | h0 <;> omega
theorem BookAt.step {w w' : World} {B : BookF} {b : BookS} {D D' : DiskS} {v : Value} (h : BookAt w B b D) (hd : DiskAt w' { B.F with w := v } D') (hu : Upd B.F.blks w w') (hl : D'.now.length = D.now.length) :
    BookAt w' { B with F := { B.F with w := v } } b D' := by
  have hs := book_sep h
  exact ⟨h.top.upd hu hs.1, hd, h.rows.upd hu hs.2.1 hs.2.2, h.hash, h.lens, h.few, by rw [hl]; exact h.next, h.gen⟩
theorem DiskAt.lt {w : World} {F : DiskF} {D : DiskS} (h : DiskAt w F D) : ∀ k ∈ F.blks, k < w.heap.size := by
  intro k hk
  rcases mem_blks.1 hk with h1 | h1 | h1 | h1
  · rw [h1]; exact h.top.lt
  · rw [h1]; exact h.fl.lt
  · rw [h1]; exact h.nw.lt
  · have := (own_lt h.ws).1; omega
theorem blks_w {F : DiskF} {v : Value} {B : Nat} (h : blkOf v = blkOf F.w ∨ B < blkOf v) : ∀ k ∈ ({ F with w := v } : DiskF).blks, k ∈ F.blks ∨ B ≤ k := by
  intro k hk
  rcases mem_blks.1 hk with h1 | h1 | h1 | h1
  · exact .inl (mem_blks.2 (.inl h1))
  · exact .inl (mem_blks.2 (.inr (.inl h1)))
  · exact .inl (mem_blks.2 (.inr (.inr (.inl h1))))
  · rcases h with h | h
    · exact .inl (mem_blks.2 (.inr (.inr (.inr (by rw [← h]; exact h1)))))
    · right; dsimp only at h1; omega
def BWritePost (W : World) (B : BookF) (b : BookS) (R : DiskS × Int) (e : Ending) (w : World) : Prop :=
  ∃ v, e = .returned (.int .i64 R.2) ∧ BookAt w { B with F := { B.F with w := v } } b R.1 ∧ Upd B.F.blks W w ∧ (blkOf v = blkOf B.F.w ∨ blkOf v = 0 ∨ W.heap.size < blkOf v)
def RelWr (W : World) (B : BookF) (b : BookS) (D0 : DiskS) (num : Nat) (ls : List (List UInt8)) (R : DiskS × Int) (i : Value) (w : World) : Prop :=
  ∃ (n : Nat) (D : DiskS) (v : Value), n ≤ ls.length ∧ i = .int .i64 n ∧ BookAt w { B with F := { B.F with w := v } } b D ∧ Upd B.F.blks W w ∧ (blkOf v = blkOf B.F.w ∨ W.heap.size < blkOf v) ∧ D.now.length = D0.now.length ∧ D.waits.length = D0.waits.length + n ∧
    bwrite num b.gen b.next ls.length D n (ls.drop n) = R
set_option maxRecDepth 4000 in
set_option maxHeartbeats 2000000 in
theorem bwrite_any (w : World) (B : BookF) (b : BookS) (D : DiskS) (po : Option Addr) (pc bk : Nat) (vs : List Value) (ls : List (List UInt8)) (hB : BookAt w B b D) (hv : Sl w (.slice po ls.length pc) ls.length 1 vs) (hvr : blkOf (.slice po ls.length pc) ≤ w.heap.size) (hvb : ∀ k ∈ B.F.blks, blkOf (.slice po ls.length pc) ≠ k + 1) (hP : Reads w vs ls) (hbk : ∀ x ∈ vs, blkE x = bk) (hbw : bk ≤ w.heap.size) (hbb : ∀ k ∈ B.F.blks, bk ≠ k + 1)
    (h52 : ∀ x ∈ ls, x.length ≤ 52) (hm : ls.length ≤ 79) (hn : b.next + ls.length ≤ D.now.length) (hw : D.waits.length ≤ 10000) :
    Calls Tryd.prog 30 #[.pointer (some ⟨B.p, 0, none⟩), .slice po ls.length pc] w (BWritePost w B b (bwrite (b.recs.length + 1) b.gen b.next ls.length D 0 ls)) := by
  obtain ⟨R, hR⟩ : ∃ R, bwrite (b.recs.length + 1) b.gen b.next ls.length D 0 ls = R := ⟨_, rfl⟩
  rw [hR]
  obtain ⟨num, hnum⟩ : ∃ num, b.recs.length + 1 = num := ⟨_, rfl⟩
  rw [hnum] at hR
  have hfew := hB.disk.ok.few
  have hfew2 := hB.few
  have hgen := hB.gen
  obtain ⟨nl, hnl⟩ : ∃ nl, D.now.length = nl := ⟨_, rfl⟩
  rw [hnl] at hfew hn
  have W1 : IntKind.i64.wrap ((b.recs.length : Int) + 1) = (num : Int) := by rw [IntKind.wrap_i64]; omega
  have hnum2 : num ≤ 9000 := by omega
  obtain ⟨p, F, rv, vr⟩ := B
  dsimp only at hvb hbb
  obtain ⟨rvo, rvc, rfl, -⟩ := own_sl hB.rows.row
  obtain ⟨rl, hrl⟩ : ∃ rl, b.recs.length = rl := ⟨_, rfl⟩
  rw [hrl] at hB W1 hfew2 hnum ⊢
  have HRL := Lib.hid hrl
  clear hrl
  have HS := Lib.hid (And.intro hB (And.intro hv (And.intro hvr (And.intro hvb (And.intro hP (And.intro hbk (And.intro hbw (And.intro hbb (And.intro h52 (And.intro hR (And.intro hnl hnum)))))))))))
  clear hB hv hvr hvb hP hbk hbw hbb h52 hR hnl hnum
  go_enter Tryd.func30, Tryd.ntmps30
  go_wp2_with fail
  go_loopw [11] (RelWr w ⟨p, F, .slice rvo rl rvc, vr⟩ b D num ls R) (fun i _ => ((ls.length : Int) - intOf i).toNat)
  case atStart => exact ⟨0, D, F.w, Nat.zero_le _, rfl, HS.out.1, Upd.refl _ _, .inl rfl, rfl, rfl, HS.out.2.2.2.2.2.2.2.2.2.1⟩
  case round =>
    obtain ⟨n, D1, v1, hn1, rfl, h1, h2, h3, h4, h5, h6⟩ := hrel
    dsimp only at h1 h2 h3
    rcases Nat.lt_or_ge n ls.length with hlt | hge
    · have hvl : vs.length = ls.length := HS.out.2.2.2.2.1.1
      obtain ⟨bb, o, hpo, hb, hc⟩ := Sl.addr HS.out.2.1 (by omega)
      subst hpo
      have hcn : wr.cell? ⟨bb, o + n, none⟩ = some (vs[n]'(by omega)) := by
        rw [World.cell?_of_block (h2.block bb hb (fun hm => HS.out.2.2.2.1 bb hm (by simp [blkOf])))]
        exact hc n _ (by simp [hvl, hlt])
      have hrd := (HS.out.2.2.2.2.1.2 n (by omega) hlt).updE h2 (fun k hk => by rw [HS.out.2.2.2.2.2.1 _ (List.getElem_mem _)]; exact HS.out.2.2.2.2.2.2.2.1 k hk)
      have hdr : ls.drop n = ls[n] :: ls.drop (n + 1) := List.drop_eq_getElem_cons hlt
      have hxb := HS.out.2.2.2.2.2.1 _ (List.getElem_mem (l := vs) (n := n) (by omega))
      have hx52 := HS.out.2.2.2.2.2.2.2.2.1 ls[n] (List.getElem_mem _)
      rw [hdr] at h6
      have HX := Lib.hid (And.intro h1 (And.intro h2 (And.intro h3 (And.intro h4 (And.intro h5 (And.intro h6 (And.intro hrd (And.intro hxb hx52))))))))
      have T := h1.top
      dsimp only at T
      clear h1 h2 h3 h4 h5 h6 hrd hdr hxb hx52 hc
      generalize vs[n]'(by omega) = x at *
      generalize ls[n] = s at *
      obtain ⟨xo, xc, rfl, -⟩ := id HX.out.2.2.2.2.2.2.1
      have W2 : ∃ sl, s.length = sl := ⟨_, rfl⟩
      obtain ⟨sl, hsl⟩ := W2
      have HSL := Lib.hid hsl
      rw [hsl] at hcn
      clear hsl
      go_wp2_with fail
      have S0 : Blk wr.drew p (bookCells F.d b.gen b.next (.slice rvo rl rvc) b.hash b.recs.length b.over) 60 := T
      refine wp_region_ord (S := fun w => Blk w p (bookCells F.d b.gen b.next (.slice rvo rl rvc) b.hash b.recs.length b.over) 60) (.take 0 (.take 1 (.take 2 (.take 3 (.take 4 (.take 5 (.take 6 (.take 7 (.take 8 (.take 9 (.take 10 (.take 11 (.take 12 (.take 13 (.take 14 (.take 15 (.act 16 (.take 17 .done)))))))))))))))))) (by kernel_rfl) (by kernel_rfl) (fun _ _ d _ _ h => by cases d <;> exact h) ?_
      iterate 13 (refine ord_ex rfl rfl S0 ?_; apply Exists.intro; refine ⟨fun _ _ => ?_, ?_⟩; (focus (rename_i w hw; have c3 := Blk.cell hw (i := 3) (v := .slice rvo rl rvc) rfl; have c1 := Blk.cell hw (i := 1) (v := .int .i64 b.gen) rfl; go_simp; rfl)); simp only [Act.put, List.setIfInBounds_toArray, List.set_cons_zero, List.set_cons_succ, List.getElem_toArray, List.getElem_cons_succ, List.getElem_cons_zero])
      refine ord_take rfl rfl S0 (v := .agg #[.int .i64 num, .int .i64 b.gen, .int .i64 n, .int .i64 ls.length]) (fun w _ => by kernel_rfl) ?_
      simp only [Act.put, List.setIfInBounds_toArray, List.set_cons_zero, List.set_cons_succ, List.getElem_toArray, List.getElem_cons_succ, List.getElem_cons_zero]
      (refine ord_ex rfl rfl S0 ?_; apply Exists.intro; refine ⟨fun _ _ => ?_, ?_⟩; (focus (rename_i w hw; skip; go_simp; rfl)); simp only [Act.put, List.setIfInBounds_toArray, List.set_cons_zero, List.set_cons_succ, List.getElem_toArray, List.getElem_cons_succ, List.getElem_cons_zero])
      refine ord_take rfl rfl S0 (v := .agg (partCells num b.gen n ls.length (.slice xo sl xc))) (fun w _ => by kernel_rfl) ?_
      simp only [Act.put, List.setIfInBounds_toArray, List.set_cons_zero, List.set_cons_succ, List.getElem_toArray, List.getElem_cons_succ, List.getElem_cons_zero]
      refine ord_act rfl ?_
      go_wp2_with fail
      have hcnt : ls.length < 256 := by omega
      have hsec := sector_any wr.drew num b.gen n ls.length (.slice xo s.length xc) s HX.out.2.2.2.2.2.2.1 (by omega) hgen (by omega) hcnt HX.out.2.2.2.2.2.2.2.2
      rw [HSL.out] at hsec
      refine hsec.mono ?_
      clear hsec
      rintro e w2 ⟨ao, c, rfl, k2⟩
      obtain ⟨sc, hsc⟩ : ∃ sc, secOf num b.gen n ls.length s = sc := ⟨_, rfl⟩
      have hsl64 := secOf_len num b.gen n ls.length HX.out.2.2.2.2.2.2.2.2
      rw [hsc] at k2 hsl64 ⊢
      have U2 : Upd [] wr w2 := (Upd.refl [] wr).drew.trans k2.2 (by simp)
      have S2 : Blk w2 p (bookCells F.d b.gen b.next (.slice rvo rl rvc) b.hash b.recs.length b.over) 60 := T.upd U2 (by simp)
      have B2 := HX.out.1.upd0 U2
      have hk2 := own_lt k2.1
      have H2 := Lib.hid (And.intro hsc (And.intro hsl64 (And.intro k2 (And.intro U2 (And.intro B2 hk2)))))
      rw [hsl64]
      clear hsc hsl64 k2 U2 B2 hk2
      go_wp2_with fail
      refine ⟨fun _ => S2, ?_⟩
      (refine ord_ex rfl rfl S2 ?_; apply Exists.intro; refine ⟨fun _ _ => ?_, ?_⟩; (focus (rename_i w hw; skip; go_simp; rfl)); simp only [Act.put, List.setIfInBounds_toArray, List.set_cons_zero, List.set_cons_succ, List.getElem_toArray, List.getElem_cons_succ, List.getElem_cons_zero])
      show Exit.then _ _ Exit.normal _ _
      have W3 : IntKind.i64.wrap ((b.next : Int) + (n : Int)) = ((b.next + n : Nat) : Int) := by rw [IntKind.wrap_i64]; omega
      go_wp2_with fail
      have S0 : Blk w2.drew p (bookCells F.d b.gen b.next (.slice rvo rl rvc) b.hash b.recs.length b.over) 60 := S2
      refine wp_region_ord (S := fun w => Blk w p (bookCells F.d b.gen b.next (.slice rvo rl rvc) b.hash b.recs.length b.over) 60) (.take 0 (.take 1 (.take 2 (.take 3 (.take 4 (.take 5 (.take 6 (.take 7 (.take 8 (.take 9 (.take 10 (.act 11 (.take 12 .done))))))))))))) (by kernel_rfl) (by kernel_rfl) (fun _ _ d _ _ h => by cases d <;> exact h) ?_
      iterate 11 (refine ord_ex rfl rfl S0 ?_; apply Exists.intro; refine ⟨fun _ _ => ?_, ?_⟩; (focus (rename_i w hw; have c0 := Blk.cell hw (i := 0) (v := .pointer (some ⟨F.d, 0, none⟩)) rfl; have c2 := Blk.cell hw (i := 2) (v := .int .i64 b.next) rfl; go_simp; rfl)); simp only [Act.put, List.setIfInBounds_toArray, List.set_cons_zero, List.set_cons_succ, List.getElem_toArray, List.getElem_cons_succ, List.getElem_cons_zero])
      refine ord_act rfl ?_
      go_wp2_with fail
      rcases Decidable.em (D1.fuse = 0) with hf | hf
      · refine (write_off _ { F with w := v1 } D1 _ _ (H2.out.2.2.2.2.1.disk.upd (Upd.refl [] w2).drew (by simp)) hf).mono ?_
        rintro e w3 ⟨rfl, rfl⟩
        have hres : R = (D1, 5) := by rw [← HX.out.2.2.2.2.2.1, bwrite, if_pos hf]
        have HR := Lib.hid hres
        clear hres hf
        go_wp2_with fail
        refine ⟨fun _ => S0, ?_⟩
        (refine ord_ex rfl rfl S0 ?_; apply Exists.intro; refine ⟨fun _ _ => ?_, ?_⟩; (focus (rename_i w hw; skip; go_simp; rfl)); simp only [Act.put, List.setIfInBounds_toArray, List.set_cons_zero, List.set_cons_succ, List.getElem_toArray, List.getElem_cons_succ, List.getElem_cons_zero])
        show Exit.then _ _ Exit.normal _ _
        go_wp2
        go_ret
        rw [HR.out]
        exact ⟨v1, rfl, H2.out.2.2.2.2.1.upd0 (Upd.refl [] w2).drew, (HX.out.2.1.trans H2.out.2.2.2.1 (by simp)).drew, by rcases HX.out.2.2.1 with h | h; exact .inl h; exact .inr (.inr h)⟩
      · have hnow : D1.now.length = nl := HX.out.2.2.2.1.trans HS.out.2.2.2.2.2.2.2.2.2.2.1
        have hcl : Bytes w2.drew (.slice ao 64 c) sc := by have := (H2.out.2.2.1).bytes; unfold Bytes at this ⊢; rw [H2.out.2.1] at this ⊢; exact this
        have hbl : blkOf (.slice ao 64 c) = 0 ∨ wr.heap.size < blkOf (.slice ao 64 c) := by
          have := H2.out.2.2.2.2.2.2; rw [H2.out.2.1] at this; exact this
        have hlt2 := HX.out.1.disk.lt
        dsimp only at hlt2
        refine (write_any _ { F with w := v1 } D1 (b.next + n) _ sc (H2.out.2.2.2.2.1.disk.upd (Upd.refl [] w2).drew (by simp)) hf (by omega) hcl H2.out.2.1 (by have := HX.out.2.2.2.2.1; omega) (fun k hk => by have := hlt2 k hk; omega)).mono ?_
        rintro e w3 ⟨v2, rfl, k1, k2, k3⟩
        have hlen : (D1.write (b.next + n) sc).now.length = D1.now.length := by simp [DiskS.write]
        have hB3 := BookAt.step (w := w2.drew) (H2.out.2.2.2.2.1.upd0 (Upd.refl [] w2).drew) k1 k2 hlen
        have S3 : Blk w3 p (bookCells F.d b.gen b.next (.slice rvo rl rvc) b.hash b.recs.length b.over) 60 := hB3.top
        have hU3 : Upd F.blks w w3 := ((HX.out.2.1.trans H2.out.2.2.2.1 (by simp)).drew).trans k2 (blks_w HX.out.2.2.1)
        have hsz := HX.out.2.1.size
        have hsz2 := H2.out.2.2.2.1.size
        have hk3 : blkOf v2 = blkOf F.w ∨ w.heap.size < blkOf v2 := by
          rcases k3 with h | h
          · rcases HX.out.2.2.1 with h' | h'
            · exact .inl (h.trans h')
            · right; dsimp only at h; omega
          · right; have : w2.heap.size < blkOf v2 := h; omega
        have hwl : (D1.write (b.next + n) sc).waits.length = D.waits.length + (n + 1) := by have := HX.out.2.2.2.2.1; simp only [DiskS.write, List.length_append, List.length_singleton]; omega
        have hres : bwrite num b.gen b.next ls.length (D1.write (b.next + n) sc) (n + 1) (ls.drop (n + 1)) = R := by rw [← HX.out.2.2.2.2.2.1, bwrite, if_neg hf, H2.out.1]
        have H3 := Lib.hid (And.intro hB3 (And.intro hU3 (And.intro hk3 (And.intro (hlen.trans HX.out.2.2.2.1) (And.intro hwl hres)))))
        clear hnow hcl hbl hlt2 k1 k2 k3 hlen hB3 hU3 hsz hsz2 hk3 hwl hres hf
        go_wp2_with fail
        refine ⟨fun _ => S3, ?_⟩
        (refine ord_ex rfl rfl S3 ?_; apply Exists.intro; refine ⟨fun _ _ => ?_, ?_⟩; (focus (rename_i w hw; skip; go_simp; rfl)); simp only [Act.put, List.setIfInBounds_toArray, List.set_cons_zero, List.set_cons_succ, List.getElem_toArray, List.getElem_cons_succ, List.getElem_cons_zero])
        show Exit.then _ _ Exit.normal _ _
        go_wp2
        go_roundw
        case rel => exact ⟨n + 1, D1.write (b.next + n) sc, v2, by omega, by go_num, H3.out.1, H3.out.2.1, H3.out.2.2.1, H3.out.2.2.2.1, H3.out.2.2.2.2.1, H3.out.2.2.2.2.2⟩
        case measure => simp [intOf]; omega
    · obtain rfl : n = ls.length := by omega
      have T := h1.top
      dsimp only at T
      have c0 := T.cell (i := 0) (v := .pointer (some ⟨F.d, 0, none⟩)) rfl
      rw [List.drop_length] at h6
      have HX := Lib.hid (And.intro h1 (And.intro h2 (And.intro h3 (And.intro h4 (And.intro h5 h6)))))
      clear T h1 h2 h3 h4 h5 h6
      go_wp2_with fail
      rcases Decidable.em (D1.fuse = 0) with hf | hf
      · refine (flush_off wr { F with w := v1 } D1 HX.out.1.disk hf).mono ?_
        rintro e w3 ⟨rfl, rfl⟩
        have hres : R = (D1, 5) := by rw [← HX.out.2.2.2.2.2, bwrite, if_pos hf]
        have HR := Lib.hid hres
        clear hres hf
        go_wp2
        go_ret
        rw [HR.out]
        exact ⟨v1, rfl, HX.out.1, HX.out.2.1, by rcases HX.out.2.2.1 with h | h; exact .inl h; exact .inr (.inr h)⟩
      · refine (flush_any wr { F with w := v1 } D1 HX.out.1.disk hf).mono ?_
        rintro e w3 ⟨rfl, k1, k2⟩
        have hres : R = ({ D1 with flushed := D1.now, waits := [] }, 0) := by rw [← HX.out.2.2.2.2.2, bwrite, if_neg hf]
        have hB3 := BookAt.step HX.out.1 k1 k2 rfl
        have H3 := Lib.hid (And.intro hres (And.intro hB3 (HX.out.2.1.trans k2 (blks_w HX.out.2.2.1))))
        clear hres hf hB3 k1 k2
        go_wp2
        go_ret
        rw [H3.out.1]
        exact ⟨.slice none 0 0, rfl, H3.out.2.1, H3.out.2.2, .inr (.inl rfl)⟩
end Go.Proofs.YtnfnaedoejgpiaaDoor
