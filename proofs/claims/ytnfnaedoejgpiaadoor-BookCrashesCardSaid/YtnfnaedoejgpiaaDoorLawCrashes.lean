/- BookCrashes: whatever the calls, the law's call returns true, and only new memory is written. -/
import Derived.Test.YtnfnaedoejgpiaaDoorLawPlays
import Derived.Test.YtnfnaedoejgpiaaDoorDiskC
namespace Go.Proofs.YtnfnaedoejgpiaaDoor
open Go.RowKit

/-- What the law's loop keeps: a book, the row of what was answered OK, and what was cut off, in memory. -/
structure CrRow (W : World) (d : Nat) (B : BookF) (b : BookS) (D : DiskS) (want : List (List UInt8)) (us : List Value) (cut : List UInt8) (wv cv : Value) (w : World) : Prop where
  book : BookAt w B b D
  low : From W.heap.size B
  row : WantAt w W.heap.size wv us want
  upd : Upd [] W w
  sep : blkOf wv = 0 ∨ blkOf wv ≠ blkOf B.rv
  bd : B.F.d = d
  cutb : Bytes w cv cut
  cute : blkE cv ≤ W.heap.size
section
variable {W : World} {d : Nat} {B : BookF} {b : BookS} {D : DiskS} {want : List (List UInt8)} {us : List Value} {cut : List UInt8} {wv cv : Value} {w w' : World}
theorem CrRow.upd0 (h : CrRow W d B b D want us cut wv cv w) (hu : Upd [] w w') : CrRow W d B b D want us cut wv cv w' :=
  ⟨h.book.upd0 hu, h.low, h.row.upd0 hu, h.upd.trans hu (by simp), h.sep, h.bd, h.cutb.upd hu (by simp), h.cute⟩
theorem CrRow.far (h : CrRow W d B b D want us cut wv cv w) : ∀ j ∈ B.p :: blkL B.rv ++ B.F.blks, W.heap.size ≤ j ∧ blkOf wv ≠ j + 1 := fun j hj => ⟨h.low.wr j hj, (BookAt.row_far h.book h.row.row h.sep).1 j hj⟩
theorem CrRow.fuse (h : CrRow W d B b D want us cut wv cv w) {n : Int} (hd : DiskAt w' B.F (D.fused n)) (hu : Upd [B.F.d] w w') : CrRow W d B b (D.fused n) want us cut wv cv w' := by
  have hin : B.F.d ∈ B.p :: blkL B.rv ++ B.F.blks := List.mem_append.2 (.inr (mem_blks.2 (.inl rfl)))
  have hf := h.far B.F.d hin
  have hu2 : Upd B.F.blks w w' := hu.more (fun x hx => by rw [List.mem_singleton.1 hx]; exact .inl (mem_blks.2 (.inl rfl)))
  refine ⟨BookAt.step (v := B.F.w) h.book hd hu2 rfl, h.low, h.row.upd hu (fun j hj => by rw [List.mem_singleton.1 hj]; exact hf), h.upd.trans hu (fun j hj => by rw [List.mem_singleton.1 hj]; exact .inr hf.1), h.sep, h.bd, h.cutb.updE hu (fun j hj => by rw [List.mem_singleton.1 hj]; have := h.cute; omega), h.cute⟩
theorem CrRow.append (h : CrRow W d B b D want us cut wv cv w) (ht : Table W) {vo : Option Addr} {vc : Nat} {r : List UInt8} (hr : Bytes w (.slice vo r.length vc) r) (hb : blkE (.slice vo r.length vc) ≤ W.heap.size) (hl : r.length ≤ 5000) (hw : D.waits.length ≤ 79) :
    Calls Tryd.prog 12 #[.pointer (some ⟨B.p, 0, none⟩), .slice vo r.length vc] w (BAppendPost w B (appendS b D r)) :=
  append_any w B b D vo vc r h.book hr (Nat.le_trans hb h.upd.size) (fun j hj => by have := h.low.wr j hj; omega) (by omega) (ht.upd h.upd (by simp)) (fun h0 => by have := h.low.wr 0 h0; have := ht.1; omega) (by omega)
theorem CrRow.appended (h : CrRow W d B b D want us cut wv cv w) {cut' : List UInt8} {cv' : Value} {b' : BookS} {D' : DiskS} {v rv : Value} {vs : List Value} (hcb : Bytes w cv' cut') (hce : blkE cv' ≤ W.heap.size)
    (m1 : BookAt w' ⟨B.p, { B.F with w := v }, rv, vs⟩ b' D') (m2 : Upd (B.p :: blkL B.rv ++ B.F.blks) w w') (m3 : blkOf v = blkOf B.F.w ∨ blkOf v = 0 ∨ w.heap.size < blkOf v) (m4 : blkOf rv = blkOf B.rv ∨ w.heap.size < blkOf rv) (m5 : vs = B.vs ∨ ∃ x, vs = B.vs ++ [x] ∧ (blkOf x = 0 ∨ w.heap.size < blkOf x)) :
    CrRow W d ⟨B.p, { B.F with w := v }, rv, vs⟩ b' D' want us cut' wv cv' w' := by
  refine ⟨m1, From.app h.low h.upd.size m3 m4 m5, h.row.upd m2 h.far, h.upd.trans m2 (fun j hj => .inr (h.far j hj).1), ?_, h.bd, hcb.updE m2 (fun j hj => by have := (h.far j hj).1; omega), hce⟩
  have h1 := (own_lt h.row.row).1
  rcases m4 with h2 | h2
  · dsimp only; rw [h2]; exact h.sep
  · right; dsimp only; omega
/-- The row, one record longer. -/
theorem CrRow.longer (h : CrRow W d B b D want us cut wv cv w) {r : List UInt8} {x v' : Value} (hx : Bytes w x r) (hxb : blkE x ≤ W.heap.size) (ha : Apped W.heap.size 26 1 wv want.length 1 us [x] w v' w') :
    CrRow W d B b D (want ++ [r]) (us ++ [x]) cut v' cv w' := by
  have hob : ∀ j ∈ wv.ownBlock.toList, blkOf wv = j + 1 := by
    intro j hj
    rw [own_block] at hj
    split at hj
    · simp at hj
    · simp at hj; omega
  have hlow : ∀ j ∈ wv.ownBlock.toList, W.heap.size ≤ j := fun j hj => by have := own_lt h.row.row; have := hob j hj; omega
  have hfar := BookAt.row_far h.book h.row.row h.sep
  refine ⟨BookAt.far h.book ha.upd (fun j hj hm => hfar.1 j hm (hob j hj)) (fun y hy j hj => hfar.2 y hy j (mem_blkL.2 (hob j hj))), h.low, WantAt.app h.row hx hxb ha, h.upd.trans ha.upd (fun j hj => .inr (hlow j hj)), ?_, h.bd, h.cutb.updE ha.upd (fun j hj => by have := hlow j hj; have := h.cute; omega), h.cute⟩
  have h1 := (own_lt h.book.rows.row).1
  rcases ha.blk with h2 | h2
  · rw [h2]; exact h.sep
  · right; omega
/-- Another book on the same disk, behind a crash. -/
theorem CrRow.crashed (h : CrRow W d B b D want us cut wv cv w) {w2 : World} {D' : DiskS} {b' : BookS} {p : Nat} {F' : DiskF} {rv : Value} {vs : List Value} (hu : Upd B.F.blks w w2) (hF : F'.d = B.F.d ∧ F'.f = B.F.f ∧ F'.n = B.F.n ∧ blkOf F'.w = 0) (hx : BookAt w' ⟨p, F', rv, vs⟩ b' D') (hu2 : Upd [] w2 w') (hp : w2.heap.size ≤ p) (hrv : blkOf rv = 0 ∨ w2.heap.size < blkOf rv) (hvs : ∀ x ∈ vs, blkOf x = 0 ∨ w2.heap.size < blkOf x) :
    CrRow W d ⟨p, F', rv, vs⟩ b' D' want us cut wv cv w' := by
  have hin : ∀ j ∈ B.F.blks, j ∈ B.p :: blkL B.rv ++ B.F.blks := fun j hj => List.mem_append.2 (.inr hj)
  have hs := h.upd.size
  have hs2 := hu.size
  have hrow2 := h.row.upd hu (fun j hj => h.far j (hin j hj))
  refine ⟨hx, ⟨by dsimp only; omega, fun j hj => ?_, by dsimp only; omega, fun x hx => by have := hvs x hx; omega⟩, hrow2.upd0 hu2, (h.upd.trans hu (fun j hj => .inr (h.far j (hin j hj)).1)).trans hu2 (by simp), ?_, hF.1.trans h.bd, (h.cutb.updE hu (fun j hj => by have := (h.far j (hin j hj)).1; have := h.cute; omega)).upd hu2 (by simp), h.cute⟩
  · rcases mem_blks.1 hj with h1 | h1 | h1 | h1
    · exact h.low.blks j (mem_blks.2 (.inl (h1.trans hF.1)))
    · exact h.low.blks j (mem_blks.2 (.inr (.inl (h1.trans hF.2.1))))
    · exact h.low.blks j (mem_blks.2 (.inr (.inr (.inl (h1.trans hF.2.2.1)))))
    · have := hF.2.2.2; dsimp only at h1; omega
  · have h1 := (own_lt hrow2.row).1
    dsimp only
    omega
end
theorem same_true (w : World) (ao wo : Option Addr) (c wc n B0 B1 : Nat) (want : List (List UInt8)) (vs us : List Value) (h1 : RowsAt w B1 (.slice ao n c) vs want) (h2 : WantAt w B0 (.slice wo n wc) us want) (hn : want.length = n) (hl : n ≤ 100000) :
    Calls Tryd.prog 20 #[.slice ao n c, .slice wo n wc] w (fun e w' => e = .returned (.bool true) ∧ Upd [] w w') := by
  have hsame := same_any w ao wo n c n wc vs us want want (by have := own_sl h1.row; rw [hn] at this; exact this) hn (by have := own_sl h2.row; rw [hn] at this; exact this) hn hl hl (by have := h1.each; rw [hn] at this; exact this) (by have := h2.each; rw [hn] at this; exact this)
  rw [decide_eq_true (rfl : want = want)] at hsame
  exact hsame
theorem same_rows (w : World) (ao wo : Option Addr) (c wc n B0 B1 : Nat) (want : List (List UInt8)) (vs us : List Value) (h1 : RowsAt w B1 (.slice ao n c) vs want) (h2 : RowsAt w B0 (.slice wo n wc) us want) (hn : want.length = n) (hl : n ≤ 100000) :
    Calls Tryd.prog 20 #[.slice ao n c, .slice wo n wc] w (fun e w' => e = .returned (.bool true) ∧ Upd [] w w') := by
  have hsame := same_any w ao wo n c n wc vs us want want (by have := own_sl h1.row; rw [hn] at this; exact this) hn (by have := own_sl h2.row; rw [hn] at this; exact this) hn hl hl (by have := h1.each; rw [hn] at this; exact this) (by have := h2.each; rw [hn] at this; exact this)
  rw [decide_eq_true (rfl : want = want)] at hsame
  exact hsame
theorem hash_want (w : World) (wo : Option Addr) (wc n B0 : Nat) (want : List (List UInt8)) (us : List Value) (h : WantAt w B0 (.slice wo n wc) us want) (hn : want.length = n) (hl : n ≤ 100000) (hr : ∀ r ∈ want, r.length ≤ 4096) :
    Calls Tryd.prog 22 #[.slice wo n wc] w (RHashPost w (hashB want)) :=
  rhash_any w wo n wc us want (by have := own_sl h.row; rw [hn] at this; exact this) hn (by omega) (fun i hi => by
    obtain ⟨u, h1, h2⟩ := h.each i (by omega)
    refine ⟨u, h1, h2, ?_⟩
    have hi2 : i < want.length := by omega
    have := hr want[i] (List.getElem_mem hi2)
    rw [List.getD_eq_getElem?_getD, List.getElem?_eq_getElem hi2, Option.getD_some]; omega)
theorem neq_hash (w : World) (h : List UInt8) (hh : h.length = 32) : (binOp .neq 36 (.agg (bsArr h)) (.agg (bsArr h))).run Tryd.prog w = .ok (.bool false) w := by
  have hbs : (Op.equalIn 10000 36 (.agg (bsArr h)) (.agg (bsArr h))).run Tryd.prog w = .ok (h == h) w := run_equalIn_bytes (P := Tryd.prog) w 9998 36 5 32 Tryd.underlying36 Tryd.underlying5 (fun w => by kernel_rfl) h h hh hh
  rw [run_neq_struct, hbs, beq_self_eq_true]
  rfl
def RelCr (W : World) (d : Nat) (os : List OpS) (bv wv cv ov iv : Value) (w : World) : Prop :=
  ∃ (k : Nat) (B : BookF) (b : BookS) (D : DiskS) (want : List (List UInt8)) (us : List Value) (owed : Bool) (cut : List UInt8), k ≤ os.length ∧ iv = .int .i64 k ∧ bv = .pointer (some ⟨B.p, 0, none⟩) ∧ ov = .bool owed ∧ (∃ ao c, wv = .slice ao want.length c) ∧ (∃ co c, cv = .slice co cut.length c) ∧ CrRow W d B b D want us cut wv cv w ∧ CrashS k want owed cut b D
set_option maxRecDepth 4000 in
set_option maxHeartbeats 8000000 in
theorem lawCrashes_any (w : World) (lo : Option Addr) (m lc : Nat) (os : List OpS) (h : OpsAt w w.heap.size (.slice lo m lc) os) (hm : os.length = m) (ht : Table w) :
    Calls Tryd.prog 6 #[.slice lo m lc] w fun e w' => e = .returned (.bool true) ∧ Upd [] w w' := by
  have hm63 : m ≤ 9223372036854775807 := by
    obtain ⟨_, c, hv, h1, h2, _⟩ := h.row
    have : maxLen = 9223372036854775807 := rfl
    omega
  have HS := Lib.hid (And.intro h (And.intro hm ht))
  clear h hm ht
  go_enter Tryd.func6, Tryd.ntmps6
  go_wp2_with fail
  refine (awake_any w HS.out.2.2).mono ?_
  rintro e w1 ⟨rfl, u1⟩
  have H1 := Lib.hid u1
  clear u1
  go_wp2_with fail
  refine (few_any w1 w.heap.size lo m lc os 30 (HS.out.1.upd H1.out (by simp)) HS.out.2.1 hm63).mono ?_
  rintro e w2 ⟨fb, rfl, hfb, u2⟩
  have H2 := Lib.hid (And.intro hfb (H1.out.trans u2 (by simp)))
  clear hfb u2 hm63
  cases fb with
  | false =>
    go_wp2_with fail
    refine (awake_any w2 (HS.out.2.2.upd H2.out.2 (by simp))).mono ?_
    rintro e w3 ⟨rfl, u3⟩
    have H3 := Lib.hid (H2.out.2.trans u3 (by simp))
    clear u3
    go_wp2
    go_ret
    exact ⟨rfl, H3.out⟩
  | true =>
    have hfew := H2.out.1.1 rfl
    have hm30 : m ≤ 30 := by have := hfew.2; have := HS.out.2.1; omega
    have hok : ∀ o ∈ os, okOp o := by
      have h1 := hfew.1
      rw [List.take_of_length_le (by have := HS.out.2.1; omega)] at h1
      exact h1
    have HO := Lib.hid hok
    clear hfew hok
    go_wp2_with fail
    refine (new_any w2 300 (by omega)).mono ?_
    rintro e w3 ⟨d, bf, bn, rfl, h1, h2, h3, h4, h5⟩
    have H3 := Lib.hid (And.intro h1 (And.intro (H2.out.2.trans h2 (by simp)) (And.intro h3 (And.intro h4 (And.intro h5 h2)))))
    clear h1 h2 h3 h4 h5
    go_wp2_with fail
    refine (open_new w3 ⟨d, bf, bn, .slice none 0 0⟩ 300 H3.out.1 (HS.out.2.2.upd H3.out.2.1 (by simp))).mono ?_
    rintro e w4 ⟨p, rv, vs, rfl, k1, k2, k3, k4, k5⟩
    have hF : From w.heap.size ⟨p, ⟨d, bf, bn, .slice none 0 0⟩, rv, vs⟩ := by
      have a1 := H2.out.2.size
      have a2 := H3.out.2.1.size
      have a3 := H3.out.2.2
      refine ⟨by dsimp only; omega, fun k hk => ?_, by dsimp only; omega, fun x hx => by have := k5 x hx; omega⟩
      rcases mem_blks.1 hk with h | h | h | h
      · dsimp only at h; omega
      · dsimp only at h; omega
      · dsimp only at h; omega
      · simp [blkOf] at h
    have hI : CrRow w d ⟨p, ⟨d, bf, bn, .slice none 0 0⟩, rv, vs⟩ ⟨1, 0, [], List.replicate 32 0, false⟩ (DiskS.new 300) [] [] [] (.slice none 0 0) (.slice none 0 0) w4 :=
      ⟨k1, hF, WantAt.nil _ _, H3.out.2.1.trans k2 (by simp), .inl rfl, rfl, Sl.nil _ _, Nat.zero_le _⟩
    have HI := Lib.hid hI
    clear k1 k2 k3 k4 k5 hF hI
    go_wp2_with fail
    go_loopw [4, 6, 7, 8, 9] (RelCr w d os) (fun _ _ _ _ i _ => ((m : Int) - intOf i).toNat)
    case atStart => exact ⟨0, _, _, _, [], [], false, [], by omega, rfl, rfl, rfl, ⟨none, 0, rfl⟩, ⟨none, 0, rfl⟩, HI.out, CrashS.start⟩
    case round =>
      obtain ⟨k, B, b, D, want, us, owed, cut, hk, rfl, rfl, rfl, ⟨wo, wc, rfl⟩, ⟨co, cc, rfl⟩, hI, hst⟩ := hrel
      rw [HS.out.2.1] at hk
      obtain ⟨wl, hwl⟩ : ∃ wl, want.length = wl := ⟨_, rfl⟩
      obtain ⟨cl, hcl⟩ : ∃ cl, cut.length = cl := ⟨_, rfl⟩
      have hle := hst.le
      rw [hwl] at hI hle ⊢
      rw [hcl] at hI ⊢
      have hwl2 : wl ≤ 300 := by omega
      have HX := Lib.hid hI
      have HST := Lib.hid hst
      have HL := Lib.hid (And.intro hwl (And.intro hcl hle))
      obtain ⟨Bp, hBp⟩ : ∃ x, B.p = x := ⟨_, rfl⟩
      rw [hBp]
      have HBP := Lib.hid hBp
      clear hI hst hwl hcl hle hBp
      rcases Nat.lt_or_ge k m with hlt | hge
      · obtain ⟨bb, oo, hlo, hbb, hBB, hc⟩ := OpsAt.cell HS.out.1 HS.out.2.1 hlt
        subst hlo
        have hkl : k < os.length := by have := HS.out.2.1; omega
        have hmem : os[k] ∈ os := List.getElem_mem hkl
        have hcells : ∀ j u, (os[k]).cells[j]? = some u → wr.cell? (Addr.add ⟨bb, oo + k * 4, none⟩ j) = some u := fun j u hj => by
          rw [Addr.add_lit]; exact cell_upd (hc j u hj) hbb HX.out.upd (by simp)
        have hby := HS.out.1.bytes _ hmem
        have hoks := HO.out _ hmem
        have hpk := HS.out.1.picks _ hmem
        generalize os[k] = op at *
        obtain ⟨vo, vc, hv, -⟩ := id hby.1
        obtain ⟨po, pc, hp, -⟩ := id hpk.1
        have hby1 := hby.1.upd HX.out.upd (by simp)
        have hpk1 := hpk.1.upd HX.out.upd (by simp)
        have hble := hby.2.1
        have hple := hpk.2
        rw [hv] at hby1 hble
        rw [hp] at hpk1 hple
        obtain ⟨r, hr⟩ : ∃ r, op.b = r := ⟨_, rfl⟩
        obtain ⟨rl, hrl⟩ : ∃ rl, r.length = rl := ⟨_, rfl⟩
        obtain ⟨pl, hpl⟩ : ∃ pl, op.pick.length = pl := ⟨_, rfl⟩
        unfold okOp at hoks
        rw [hr] at hby1 hoks hble hv
        rw [hrl] at hoks hv
        rw [hpl] at hp
        have hszO : (Tryd.prog.info? 46).map (·.size) = some op.cells.length := by kernel_rfl
        have hone : (op.cells.all fun u => u.oneCell') = true := by simp [OpS.cells, hv, hp, Value.oneCell']
        have hn := hby.2.2
        obtain ⟨q, hq⟩ : ∃ q, wr.heap.size = q := ⟨_, rfl⟩
        have HC := Lib.hid (And.intro hcells (And.intro hby1 (And.intro hble (And.intro hpk1 (And.intro hple (And.intro hoks (And.intro hrl (And.intro hpl (And.intro hv (And.intro hp (And.intro hszO (And.intro hone (And.intro hn hq)))))))))))))
        clear hcells hby hby1 hble hpk hpk1 hple hoks hrl hpl hv hp hszO hone hn hq hc hmem
        go_wp2_with (first | (with_reducible refine wpList_load_cells (o := ⟨some 41, _, _, _, _, _⟩) rfl 46 (.tmp 40) rfl ⟨bb, oo + k * 4, none⟩ rfl _ op.cells HC.out.1 Tryd.underlying46 rfl HC.out.2.2.2.2.2.2.2.2.2.2.1 ?_) | (with_reducible refine wpList_store_blk (o := ⟨none, .store 46 (.tmp 10) (.tmp 41), _, _, _, _⟩) rfl 46 (.tmp 10) (.tmp 41) rfl (b := wr.heap.size) 0 rfl (Blk.new wr _ _) (.agg op.cells.toArray) rfl op.cells rfl ?_ HC.out.2.2.2.2.2.2.2.2.2.2.2.1 HC.out.2.2.2.2.2.2.2.2.2.2.1 ?_))
        · simp [OpS.cells]
        intro w5 b5 u5
        rw [splice_all (by simp [OpS.cells])] at b5
        have hvb := HC.out.2.2.2.2.2.2.2.2.1
        have hpb := HC.out.2.2.2.2.2.2.2.2.2.1
        have U5 := u5.fresh
        have c0 : w5.cell? ⟨wr.heap.size, 0, none⟩ = some (.int .u8 (op.kind.toNat : Int)) := b5.cell (i := 0) rfl
        have c1 : w5.cell? ⟨wr.heap.size, 1, none⟩ = some (.int .i64 op.n) := b5.cell (i := 1) rfl
        have c2 : w5.cell? ⟨wr.heap.size, 2, none⟩ = some (.slice vo rl vc) := by rw [← hvb]; exact b5.cell (i := 2) rfl
        have c3 : w5.cell? ⟨wr.heap.size, 3, none⟩ = some (.slice po pl pc) := by rw [← hpb]; exact b5.cell (i := 3) rfl
        have hq := HC.out.2.2.2.2.2.2.2.2.2.2.2.2.2
        rw [hq] at b5 c0 c1 c2 c3 ⊢
        have I5 := HX.out.upd0 U5
        have H5 := Lib.hid (And.intro b5 (And.intro U5 I5))
        obtain ⟨kn, hkn⟩ : ∃ kn, op.kind.toNat = kn := ⟨_, rfl⟩
        rw [hkn] at c0
        have hk256 : kn < 256 := by have := op.kind.toNat_lt; omega
        clear b5 u5 U5 hvb hpb hq I5 hkn
        have h4 : kn % 4 = 2 ∨ kn % 4 = 3 ∨ (kn % 4 ≠ 2 ∧ kn % 4 ≠ 3) := by omega
        rcases h4 with hkm | hkm | ⟨hkm, hkm'⟩
        · have e2 : ((kn : Int) % 4 == 2) = true := by rw [beq_iff_eq]; omega
          clear hkm
          go_wp2_with fail
          have hfu := fuse_any w5 B.F D op.n H5.out.2.2.book.disk HC.out.2.2.2.2.2.2.2.2.2.2.2.2.1
          rw [H5.out.2.2.bd] at hfu
          refine hfu.mono ?_
          clear hfu
          rintro e w6 ⟨rfl, hd6, u6⟩
          have H6 := Lib.hid (H5.out.2.2.fuse hd6 (by rw [H5.out.2.2.bd]; exact u6))
          clear hd6 u6 c0 c1 c2 c3 e2
          go_wp2
          go_roundw
          case rel => exact ⟨k + 1, B, b, _, want, us, owed, cut, by have := HS.out.2.1; omega, by go_num, by rw [HBP.out], rfl, ⟨wo, wc, by rw [HL.out.1]⟩, ⟨co, cc, by rw [HL.out.2.1]⟩, H6.out, (HST.out.fuse op.n).more (by omega)⟩
          case measure => simp [intOf]; omega
        · have e2 : ((kn : Int) % 4 == 2) = false := by rw [beq_eq_false_iff_ne]; omega
          have e3 : ((kn : Int) % 4 == 3) = true := by rw [beq_iff_eq]; omega
          clear hkm
          go_wp2_with fail
          have hcr := crash_any w5 B.F D (.slice po op.pick.length pc) op.pick H5.out.2.2.book.disk (HC.out.2.2.2.1.upd H5.out.2.1 (by simp)) (fun j hj => by have := (H5.out.2.2.far j (List.mem_append.2 (.inr hj))).1; have := HC.out.2.2.2.2.1; omega) (by have := HST.out.wfew; omega)
          rw [H5.out.2.2.bd, HC.out.2.2.2.2.2.2.2.1] at hcr
          refine hcr.mono ?_
          clear hcr
          rintro e w6 ⟨rfl, hd6, u6⟩
          obtain ⟨want', hw', hmost, hst⟩ := HST.out.crash (by omega) op.pick
          obtain ⟨D6, hD6⟩ : ∃ D6, D.crash op.pick = D6 := ⟨_, rfl⟩
          have hf6 : D6.fuse ≠ 0 := by rw [← hD6]; show (-1 : Int) ≠ 0; decide
          rw [hD6] at hd6 hmost hst
          obtain ⟨b6, hb6⟩ : ∃ b6, openS D6.now = b6 := ⟨_, rfl⟩
          rw [hb6] at hst
          have HB6 := Lib.hid hb6
          clear hb6
          have hU6 : Upd [] w w6 := H5.out.2.2.upd.trans u6 (fun j hj => .inr (H5.out.2.2.far j (List.mem_append.2 (.inr hj))).1)
          have H6 := Lib.hid (And.intro hd6 (And.intro u6 (And.intro hw' (And.intro hmost (And.intro hst (And.intro hf6 hU6))))))
          clear hd6 u6 hw' hmost hst hD6 hf6 hU6 c0 c1 c2 c3 e2 e3
          go_wp2_with fail
          have hO := open_any w6 ⟨d, B.F.f, B.F.n, .slice none 0 0⟩ D6 H6.out.1 H6.out.2.2.2.2.2.1 (HS.out.2.2.upd H6.out.2.2.2.2.2.2 (by simp))
          dsimp only at hO
          refine hO.mono ?_
          clear hO
          intro e w7 h7
          unfold OpenPost at h7
          rw [if_neg (by have := H6.out.2.2.2.1; omega)] at h7
          obtain ⟨px, rvx, vsx, rfl, x1, x2, x3, x4, x5⟩ := h7
          rw [HB6.out] at x1
          have H7 := Lib.hid (And.intro x1 (And.intro x2 (And.intro x3 (And.intro x4 x5))))
          clear x1 x2 x3 x4 x5
          go_wp2_with fail
          have hO := open_any w7 ⟨d, B.F.f, B.F.n, .slice none 0 0⟩ D6 H7.out.1.disk H6.out.2.2.2.2.2.1 (HS.out.2.2.upd (H6.out.2.2.2.2.2.2.trans H7.out.2.1 (by simp)) (by simp))
          dsimp only at hO
          refine hO.mono ?_
          clear hO
          intro e w8 h8
          unfold OpenPost at h8
          rw [if_neg (by have := H6.out.2.2.2.1; omega)] at h8
          obtain ⟨py, rvy, vsy, rfl, y1, y2, -, -, -⟩ := h8
          rw [HB6.out] at y1
          have R8 := H5.out.2.2.crashed (F' := ⟨d, B.F.f, B.F.n, .slice none 0 0⟩) H6.out.2.1 ⟨H5.out.2.2.bd.symm, rfl, rfl, rfl⟩ (H7.out.1.upd0 y2) (H7.out.2.1.trans y2 (by simp)) H7.out.2.2.1 H7.out.2.2.2.1 H7.out.2.2.2.2
          have hrecs : b6.recs = want' := H6.out.2.2.2.2.1.recs
          obtain ⟨xl, hxl⟩ : ∃ xl, want'.length = xl := ⟨_, rfl⟩
          have hxl2 : xl ≤ 300 := by have := H6.out.2.2.2.2.1.le; omega
          have H8 := Lib.hid (And.intro y1 (And.intro R8 (And.intro hrecs hxl)))
          clear y1 y2 R8 hrecs hxl
          go_wp2_with fail
          have hrec := records_any w8 _ _ _ H8.out.2.1.book
          rw [H8.out.2.2.1] at hrec
          refine hrec.mono ?_
          clear hrec
          rintro e w9 ⟨ao9, c9, vs9, rfl, r9, u9⟩
          rw [H8.out.2.2.2] at r9 ⊢
          have H9 := Lib.hid (And.intro r9 (And.intro (H8.out.1.upd0 u9) (H8.out.2.1.upd0 u9)))
          clear r9 u9
          go_wp2_with fail
          have hrec := records_any w9 _ _ _ H9.out.2.1
          rw [H8.out.2.2.1] at hrec
          refine hrec.mono ?_
          clear hrec
          rintro e w10 ⟨ao10, c10, vs10, rfl, r10, u10⟩
          rw [H8.out.2.2.2] at r10 ⊢
          have hsame := same_rows w10 ao9 ao10 c9 c10 xl _ _ want' vs9 vs10 (H9.out.1.upd0 u10) r10 H8.out.2.2.2 (by omega)
          have H10 := Lib.hid (And.intro hsame (H9.out.2.2.upd0 u10))
          clear hsame r10 u10
          go_wp2_with fail
          refine H10.out.1.mono ?_
          rintro e w11 ⟨rfl, u11⟩
          have H11 := Lib.hid (H10.out.2.upd0 u11)
          clear u11
          rcases H6.out.2.2.1 with hsm | ⟨how, hlg⟩
          · have HE := Lib.hid hsm
            obtain rfl : xl = wl := by rw [← H8.out.2.2.2, ← HL.out.1, hsm]
            clear hsm
            cases owed with
            | false =>
              go_wp2_with fail
              have hrec := records_any w11 _ _ _ H11.out.book
              rw [show b6.recs = want from H8.out.2.2.1.trans HE.out] at hrec
              refine hrec.mono ?_
              clear hrec
              rintro e v1a ⟨aAa, cAa, vsAa, rfl, rA, uA⟩
              rw [HL.out.1] at rA ⊢
              have hsame := same_true v1a aAa wo cAa wc xl _ _ want vsAa us rA (H11.out.row.upd0 uA) HL.out.1 (by omega)
              have HAa := Lib.hid (And.intro hsame (H11.out.upd0 uA))
              clear hsame rA uA
              go_wp2_with fail
              refine HAa.out.1.mono ?_
              rintro e v2a ⟨rfl, uB⟩
              have HBa := Lib.hid (HAa.out.2.upd0 uB)
              clear uB
              go_wp2_with fail
              obtain ⟨T, hT⟩ : ∃ T, hashB want = T := ⟨_, rfl⟩
              have hbT : b6.hash = T := by rw [H6.out.2.2.2.2.1.hash, HE.out, hashO_eq _ (fun r hr => by have := H6.out.2.2.2.2.1.le.2.2 r (by rw [HE.out]; exact hr); omega), hT]
              have hTl : T.length = 32 := by rw [← hbT]; exact HBa.out.book.hash
              have hhead := bhead_any v2a _ _ _ HBa.out.book
              rw [hbT] at hhead
              have HTa := Lib.hid (And.intro hT (And.intro hTl hhead))
              clear hT hbT hTl hhead
              refine HTa.out.2.2.mono ?_
              rintro e v3a ⟨rfl, uC⟩
              have hfd := fun w c => field_hash w T c HTa.out.2.1
              have HCa := Lib.hid (HBa.out.upd0 uC)
              clear uC
              go_wp2_with fail
              clear hfd
              have hhash := hash_want v3a wo wc xl _ want us HCa.out.row HL.out.1 (by omega) (fun r hr => H6.out.2.2.2.2.1.le.2.2 r (by rw [HE.out]; exact hr))
              rw [HTa.out.1] at hhash
              have HHa := Lib.hid hhash
              clear hhash
              refine HHa.out.mono ?_
              rintro e v4a ⟨rfl, uD⟩
              have hEq := fun w => neq_hash w T HTa.out.2.1
              have HDa := Lib.hid (HCa.out.upd0 uD)
              clear uD
              go_wp2
              clear hEq
              go_roundw
              case rel => exact ⟨k + 1, ⟨px, ⟨d, B.F.f, B.F.n, .slice none 0 0⟩, rvx, vsx⟩, b6, D6, want, us, false, cut, by have := HS.out.2.1; omega, by go_num, rfl, rfl, ⟨wo, wc, by rw [HL.out.1]⟩, ⟨co, cc, by rw [HL.out.2.1]⟩, HDa.out, by have := H6.out.2.2.2.2.1; rw [HE.out] at this; exact this⟩
              case measure => simp [intOf]; omega
            | true =>
              go_wp2_with fail
              have hrec := records_any w11 _ _ _ H11.out.book
              rw [show b6.recs = want from H8.out.2.2.1.trans HE.out] at hrec
              refine hrec.mono ?_
              clear hrec
              rintro e w12 ⟨aoz, cz, vsz, rfl, -, uz⟩
              rw [HL.out.1]
              have H12 := Lib.hid (H11.out.upd0 uz)
              clear uz
              have hne : ((xl : Int) == (xl : Int) + 1) = false := by rw [beq_eq_false_iff_ne]; omega
              have hne2 : ((xl : Int) = (xl : Int) + 1) = False := by rw [eq_iff_iff]; constructor; (intro h; omega); (intro h; exact h.elim)
              go_wp2_with fail
              clear hne hne2
              have hrec := records_any w12 _ _ _ H12.out.book
              rw [show b6.recs = want from H8.out.2.2.1.trans HE.out] at hrec
              refine hrec.mono ?_
              clear hrec
              rintro e v1b ⟨aAb, cAb, vsAb, rfl, rA, uA⟩
              rw [HL.out.1] at rA ⊢
              have hsame := same_true v1b aAb wo cAb wc xl _ _ want vsAb us rA (H12.out.row.upd0 uA) HL.out.1 (by omega)
              have HAb := Lib.hid (And.intro hsame (H12.out.upd0 uA))
              clear hsame rA uA
              go_wp2_with fail
              refine HAb.out.1.mono ?_
              rintro e v2b ⟨rfl, uB⟩
              have HBb := Lib.hid (HAb.out.2.upd0 uB)
              clear uB
              go_wp2_with fail
              obtain ⟨T, hT⟩ : ∃ T, hashB want = T := ⟨_, rfl⟩
              have hbT : b6.hash = T := by rw [H6.out.2.2.2.2.1.hash, HE.out, hashO_eq _ (fun r hr => by have := H6.out.2.2.2.2.1.le.2.2 r (by rw [HE.out]; exact hr); omega), hT]
              have hTl : T.length = 32 := by rw [← hbT]; exact HBb.out.book.hash
              have hhead := bhead_any v2b _ _ _ HBb.out.book
              rw [hbT] at hhead
              have HTb := Lib.hid (And.intro hT (And.intro hTl hhead))
              clear hT hbT hTl hhead
              refine HTb.out.2.2.mono ?_
              rintro e v3b ⟨rfl, uC⟩
              have hfd := fun w c => field_hash w T c HTb.out.2.1
              have HCb := Lib.hid (HBb.out.upd0 uC)
              clear uC
              go_wp2_with fail
              clear hfd
              have hhash := hash_want v3b wo wc xl _ want us HCb.out.row HL.out.1 (by omega) (fun r hr => H6.out.2.2.2.2.1.le.2.2 r (by rw [HE.out]; exact hr))
              rw [HTb.out.1] at hhash
              have HHb := Lib.hid hhash
              clear hhash
              refine HHb.out.mono ?_
              rintro e v4b ⟨rfl, uD⟩
              have hEq := fun w => neq_hash w T HTb.out.2.1
              have HDb := Lib.hid (HCb.out.upd0 uD)
              clear uD
              go_wp2
              clear hEq
              go_roundw
              case rel => exact ⟨k + 1, ⟨px, ⟨d, B.F.f, B.F.n, .slice none 0 0⟩, rvx, vsx⟩, b6, D6, want, us, false, cut, by have := HS.out.2.1; omega, by go_num, rfl, rfl, ⟨wo, wc, by rw [HL.out.1]⟩, ⟨co, cc, by rw [HL.out.2.1]⟩, HDb.out, by have := H6.out.2.2.2.2.1; rw [HE.out] at this; exact this⟩
              case measure => simp [intOf]; omega
          · subst how
            have HE := Lib.hid hlg
            have hxw : xl = wl + 1 := by rw [← H8.out.2.2.2, ← HL.out.1, hlg, List.length_append]; rfl
            clear hlg
            go_wp2_with fail
            have hrec := records_any w11 _ _ _ H11.out.book
            rw [show b6.recs = want' from H8.out.2.2.1] at hrec
            refine hrec.mono ?_
            clear hrec
            rintro e w12 ⟨aoz, cz, vsz, rfl, -, uz⟩
            rw [H8.out.2.2.2, hxw]
            have H12 := Lib.hid (H11.out.upd0 uz)
            have hlen2 : (want ++ [cut]).length = wl + 1 := by rw [List.length_append, HL.out.1]; rfl
            have HLN := Lib.hid hlen2
            clear uz hlen2 hxw hxl2
            have R13 := H12.out.upd0 ((Upd.refl [] w12).alloc (.cells #[.slice co cl cc] 26))
            have hrow13 := R13.row.row
            rw [HL.out.1] at hrow13
            have H13 := Lib.hid (And.intro R13 (And.intro hrow13 (And.intro (Blk.new w12 #[.slice co cl cc] 26).sl1 R13.upd.size)))
            clear R13 hrow13
            go_wp2_with (at_builtin; refine wpList_app _ rfl (.tmp 122) (.tmp 124) 24 rfl w.heap.size 26 (.slice none 0 0) 1 24 Tryd.underlying24 info_bytes rfl (by decide) (.slice wo wl wc) wl us rfl H13.out.2.1 (.slice (some ⟨w12.heap.size, 0, none⟩) 1 1) 1 [.slice co cl cc] rfl H13.out.2.2.1 (by simp [Value.oneCell']) (by omega) (by decide) H13.out.2.2.2 ?_)
            intro ao14 c14 w14 h14
            have R14 := H13.out.1.longer (r := cut) (x := .slice co cl cc) H13.out.1.cutb H13.out.1.cute (by rw [HL.out.1]; exact h14)
            have H14 := Lib.hid R14
            clear R14 h14
            go_wp2_with fail
            have hrec := records_any w14 _ _ _ H14.out.book
            rw [show b6.recs = want ++ [cut] from H8.out.2.2.1.trans HE.out] at hrec
            refine hrec.mono ?_
            clear hrec
            rintro e v1c ⟨aAc, cAc, vsAc, rfl, rA, uA⟩
            rw [HLN.out] at rA ⊢
            have hsame := same_true v1c aAc ao14 cAc c14 (wl + 1) _ _ (want ++ [cut]) vsAc (us ++ [.slice co cl cc]) rA (H14.out.row.upd0 uA) HLN.out (by omega)
            have HAc := Lib.hid (And.intro hsame (H14.out.upd0 uA))
            clear hsame rA uA
            go_wp2_with fail
            refine HAc.out.1.mono ?_
            rintro e v2c ⟨rfl, uB⟩
            have HBc := Lib.hid (HAc.out.2.upd0 uB)
            clear uB
            go_wp2_with fail
            obtain ⟨T, hT⟩ : ∃ T, hashB (want ++ [cut]) = T := ⟨_, rfl⟩
            have hbT : b6.hash = T := by rw [H6.out.2.2.2.2.1.hash, HE.out, hashO_eq _ (fun r hr => by have := H6.out.2.2.2.2.1.le.2.2 r (by rw [HE.out]; exact hr); omega), hT]
            have hTl : T.length = 32 := by rw [← hbT]; exact HBc.out.book.hash
            have hhead := bhead_any v2c _ _ _ HBc.out.book
            rw [hbT] at hhead
            have HTc := Lib.hid (And.intro hT (And.intro hTl hhead))
            clear hT hbT hTl hhead
            refine HTc.out.2.2.mono ?_
            rintro e v3c ⟨rfl, uC⟩
            have hfd := fun w c => field_hash w T c HTc.out.2.1
            have HCc := Lib.hid (HBc.out.upd0 uC)
            clear uC
            go_wp2_with fail
            clear hfd
            have hhash := hash_want v3c ao14 c14 (wl + 1) _ (want ++ [cut]) (us ++ [.slice co cl cc]) HCc.out.row HLN.out (by omega) (fun r hr => H6.out.2.2.2.2.1.le.2.2 r (by rw [HE.out]; exact hr))
            rw [HTc.out.1] at hhash
            have HHc := Lib.hid hhash
            clear hhash
            refine HHc.out.mono ?_
            rintro e v4c ⟨rfl, uD⟩
            have hEq := fun w => neq_hash w T HTc.out.2.1
            have HDc := Lib.hid (HCc.out.upd0 uD)
            clear uD
            go_wp2
            clear hEq
            go_roundw
            case rel => exact ⟨k + 1, ⟨px, ⟨d, B.F.f, B.F.n, .slice none 0 0⟩, rvx, vsx⟩, b6, D6, (want ++ [cut]), us ++ [.slice co cl cc], false, cut, by have := HS.out.2.1; omega, by go_num, rfl, rfl, ⟨ao14, c14, by rw [HLN.out]⟩, ⟨co, cc, by rw [HL.out.2.1]⟩, HDc.out, by have := H6.out.2.2.2.2.1; rw [HE.out] at this; exact this⟩
            case measure => simp [intOf]; omega
        · have e2 : ((kn : Int) % 4 == 2) = false := by rw [beq_eq_false_iff_ne]; omega
          have e3 : ((kn : Int) % 4 == 3) = false := by rw [beq_eq_false_iff_ne]; omega
          clear hkm hkm'
          have hA := H5.out.2.2.append HS.out.2.2 (HC.out.2.1.upd H5.out.2.1 (by simp)) HC.out.2.2.1 (by have := HC.out.2.2.2.2.2.1.1; have := HC.out.2.2.2.2.2.2.1; omega) HST.out.wfew
          cases owed with
          | true =>
            have hap := HST.out.gone r
            rw [hap, HBP.out, HC.out.2.2.2.2.2.2.1] at hA
            have HAP := Lib.hid hA
            clear hA hap
            go_wp2_with fail
            clear c0 c1 c2 c3 e2 e3
            refine HAP.out.mono ?_
            clear HAP
            rintro e w6 ⟨v6, rv6, vs6, rfl, m1, m2, m3, m4, m5⟩
            dsimp only at m1 m2 m3 m4 m5
            have hq6 : Blk w6 q op.cells.toArray 46 := H5.out.1.upd m2 (fun hj => by have := HX.out.book.lt.1 q hj; have := HC.out.2.2.2.2.2.2.2.2.2.2.2.2.2; omega)
            have hvb := HC.out.2.2.2.2.2.2.2.2.1
            have c2' : w6.cell? ⟨q, 2, none⟩ = some (.slice vo rl vc) := by rw [← hvb]; exact hq6.cell (i := 2) rfl
            have R6 := H5.out.2.2.appended (cut' := cut) (cv' := (.slice co cl cc)) H5.out.2.2.cutb H5.out.2.2.cute m1 m2 m3 m4 m5
            have hr6 : Bytes w6 (.slice vo rl vc) r := by
              have h1 := (HC.out.2.1.upd H5.out.2.1 (by simp)).updE m2 (fun j hj => by have := (H5.out.2.2.far j hj).1; have := HC.out.2.2.1; omega)
              have e := HC.out.2.2.2.2.2.2.1
              unfold Bytes
              rw [e] at h1 ⊢
              exact h1
            have H6 := Lib.hid (And.intro R6 hr6)
            clear m1 m2 m3 m4 m5 hq6 hvb R6 hr6
            go_wp2_with fail
            have hover := over_any w6 _ _ _ H6.out.1.book
            rw [HST.out.over] at hover
            dsimp only at hover
            rw [HBP.out] at hover
            refine hover.mono ?_
            clear hover
            rintro e v0d ⟨rfl, rfl⟩
            go_wp2_with fail
            have hrec := records_any w6 _ _ _ H6.out.1.book
            rw [HST.out.recs] at hrec
            dsimp only at hrec
            rw [HBP.out] at hrec
            refine hrec.mono ?_
            clear hrec
            rintro e v1d ⟨aAd, cAd, vsAd, rfl, rA, uA⟩
            rw [HL.out.1] at rA ⊢
            have hsame := same_true v1d aAd wo cAd wc (wl) _ _ want vsAd (us) rA (H6.out.1.row.upd0 uA) HL.out.1 (by omega)
            have HAd := Lib.hid (And.intro hsame (H6.out.1.upd0 uA))
            clear hsame rA uA
            go_wp2_with fail
            refine HAd.out.1.mono ?_
            rintro e v2d ⟨rfl, uB⟩
            have HBd := Lib.hid (HAd.out.2.upd0 uB)
            clear uB
            go_wp2
            go_roundw
            case rel => exact ⟨k + 1, ⟨B.p, { B.F with w := v6 }, rv6, vs6⟩, b, D, want, us, true, cut, by have := HS.out.2.1; omega, by go_num, by rw [← HBP.out], rfl, ⟨wo, wc, by rw [HL.out.1]⟩, ⟨co, cc, by rw [HL.out.2.1]⟩, HBd.out, HST.out.more (by omega)⟩
            case measure => simp [intOf]; omega
          | false =>
            have hcase : (4096 < rl) ∨ (rl ≤ 4096 ∧ 300 - b.next < (parts52 r).length) ∨ (rl ≤ 4096 ∧ (parts52 r).length ≤ 300 - b.next) := by omega
            rcases hcase with hlong | ⟨hshort, hfull⟩ | ⟨hshort, hfits⟩
            · have hap := HST.out.long (r := r) (by rw [HC.out.2.2.2.2.2.2.1]; exact hlong)
              rw [hap, HBP.out, HC.out.2.2.2.2.2.2.1] at hA
              have HAP := Lib.hid hA
              clear hA hap
              go_wp2_with fail
              clear c0 c1 c2 c3 e2 e3
              refine HAP.out.mono ?_
              clear HAP
              rintro e w6 ⟨v6, rv6, vs6, rfl, m1, m2, m3, m4, m5⟩
              dsimp only at m1 m2 m3 m4 m5
              have hq6 : Blk w6 q op.cells.toArray 46 := H5.out.1.upd m2 (fun hj => by have := HX.out.book.lt.1 q hj; have := HC.out.2.2.2.2.2.2.2.2.2.2.2.2.2; omega)
              have hvb := HC.out.2.2.2.2.2.2.2.2.1
              have c2' : w6.cell? ⟨q, 2, none⟩ = some (.slice vo rl vc) := by rw [← hvb]; exact hq6.cell (i := 2) rfl
              have R6 := H5.out.2.2.appended (cut' := cut) (cv' := (.slice co cl cc)) H5.out.2.2.cutb H5.out.2.2.cute m1 m2 m3 m4 m5
              have hr6 : Bytes w6 (.slice vo rl vc) r := by
                have h1 := (HC.out.2.1.upd H5.out.2.1 (by simp)).updE m2 (fun j hj => by have := (H5.out.2.2.far j hj).1; have := HC.out.2.2.1; omega)
                have e := HC.out.2.2.2.2.2.2.1
                unfold Bytes
                rw [e] at h1 ⊢
                exact h1
              have H6 := Lib.hid (And.intro R6 hr6)
              clear m1 m2 m3 m4 m5 hq6 hvb R6 hr6
              go_wp2_with fail
              have hover := over_any w6 _ _ _ H6.out.1.book
              rw [HST.out.over] at hover
              dsimp only at hover
              rw [HBP.out] at hover
              refine hover.mono ?_
              clear hover
              rintro e v0e ⟨rfl, rfl⟩
              go_wp2_with fail
              have hrec := records_any w6 _ _ _ H6.out.1.book
              rw [HST.out.recs] at hrec
              dsimp only at hrec
              rw [HBP.out] at hrec
              refine hrec.mono ?_
              clear hrec
              rintro e v1e ⟨aAe, cAe, vsAe, rfl, rA, uA⟩
              rw [HL.out.1] at rA ⊢
              have hsame := same_true v1e aAe wo cAe wc (wl) _ _ want vsAe (us) rA (H6.out.1.row.upd0 uA) HL.out.1 (by omega)
              have HAe := Lib.hid (And.intro hsame (H6.out.1.upd0 uA))
              clear hsame rA uA
              go_wp2_with fail
              refine HAe.out.1.mono ?_
              rintro e v2e ⟨rfl, uB⟩
              have HBe := Lib.hid (HAe.out.2.upd0 uB)
              clear uB
              go_wp2
              go_roundw
              case rel => exact ⟨k + 1, ⟨B.p, { B.F with w := v6 }, rv6, vs6⟩, b, D, want, us, false, cut, by have := HS.out.2.1; omega, by go_num, by rw [← HBP.out], rfl, ⟨wo, wc, by rw [HL.out.1]⟩, ⟨co, cc, by rw [HL.out.2.1]⟩, HBe.out, HST.out.more (by omega)⟩
              case measure => simp [intOf]; omega
            · have hap := HST.out.full (r := r) (by rw [HC.out.2.2.2.2.2.2.1]; exact hshort) hfull
              rw [hap, HBP.out, HC.out.2.2.2.2.2.2.1] at hA
              have HAP := Lib.hid hA
              clear hA hap
              go_wp2_with fail
              clear c0 c1 c2 c3 e2 e3
              refine HAP.out.mono ?_
              clear HAP
              rintro e w6 ⟨v6, rv6, vs6, rfl, m1, m2, m3, m4, m5⟩
              dsimp only at m1 m2 m3 m4 m5
              have hq6 : Blk w6 q op.cells.toArray 46 := H5.out.1.upd m2 (fun hj => by have := HX.out.book.lt.1 q hj; have := HC.out.2.2.2.2.2.2.2.2.2.2.2.2.2; omega)
              have hvb := HC.out.2.2.2.2.2.2.2.2.1
              have c2' : w6.cell? ⟨q, 2, none⟩ = some (.slice vo rl vc) := by rw [← hvb]; exact hq6.cell (i := 2) rfl
              have R6 := H5.out.2.2.appended (cut' := cut) (cv' := (.slice co cl cc)) H5.out.2.2.cutb H5.out.2.2.cute m1 m2 m3 m4 m5
              have hr6 : Bytes w6 (.slice vo rl vc) r := by
                have h1 := (HC.out.2.1.upd H5.out.2.1 (by simp)).updE m2 (fun j hj => by have := (H5.out.2.2.far j hj).1; have := HC.out.2.2.1; omega)
                have e := HC.out.2.2.2.2.2.2.1
                unfold Bytes
                rw [e] at h1 ⊢
                exact h1
              have H6 := Lib.hid (And.intro R6 hr6)
              clear m1 m2 m3 m4 m5 hq6 hvb R6 hr6
              go_wp2_with fail
              have hover := over_any w6 _ _ _ H6.out.1.book
              rw [HST.out.over] at hover
              dsimp only at hover
              rw [HBP.out] at hover
              refine hover.mono ?_
              clear hover
              rintro e v0f ⟨rfl, rfl⟩
              go_wp2_with fail
              have hrec := records_any w6 _ _ _ H6.out.1.book
              rw [HST.out.recs] at hrec
              dsimp only at hrec
              rw [HBP.out] at hrec
              refine hrec.mono ?_
              clear hrec
              rintro e v1f ⟨aAf, cAf, vsAf, rfl, rA, uA⟩
              rw [HL.out.1] at rA ⊢
              have hsame := same_true v1f aAf wo cAf wc (wl) _ _ want vsAf (us) rA (H6.out.1.row.upd0 uA) HL.out.1 (by omega)
              have HAf := Lib.hid (And.intro hsame (H6.out.1.upd0 uA))
              clear hsame rA uA
              go_wp2_with fail
              refine HAf.out.1.mono ?_
              rintro e v2f ⟨rfl, uB⟩
              have HBf := Lib.hid (HAf.out.2.upd0 uB)
              clear uB
              go_wp2
              go_roundw
              case rel => exact ⟨k + 1, ⟨B.p, { B.F with w := v6 }, rv6, vs6⟩, b, D, want, us, false, cut, by have := HS.out.2.1; omega, by go_num, by rw [← HBP.out], rfl, ⟨wo, wc, by rw [HL.out.1]⟩, ⟨co, cc, by rw [HL.out.2.1]⟩, HBf.out, HST.out.more (by omega)⟩
              case measure => simp [intOf]; omega
            · rcases HST.out.try (by omega) (by rw [HC.out.2.2.2.2.2.2.1]; exact hshort) hfits with ⟨b', D', hap, hs'⟩ | ⟨b', D', hap, hs'⟩
              · have HS6 := Lib.hid hs'
                clear hs'
                rw [hap, HBP.out, HC.out.2.2.2.2.2.2.1] at hA
                have HAP := Lib.hid hA
                clear hA hap
                go_wp2_with fail
                clear c0 c1 c2 c3 e2 e3
                refine HAP.out.mono ?_
                clear HAP
                rintro e w6 ⟨v6, rv6, vs6, rfl, m1, m2, m3, m4, m5⟩
                dsimp only at m1 m2 m3 m4 m5
                have hq6 : Blk w6 q op.cells.toArray 46 := H5.out.1.upd m2 (fun hj => by have := HX.out.book.lt.1 q hj; have := HC.out.2.2.2.2.2.2.2.2.2.2.2.2.2; omega)
                have hvb := HC.out.2.2.2.2.2.2.2.2.1
                have c2' : w6.cell? ⟨q, 2, none⟩ = some (.slice vo rl vc) := by rw [← hvb]; exact hq6.cell (i := 2) rfl
                have R6 := H5.out.2.2.appended (cut' := cut) (cv' := (.slice co cl cc)) H5.out.2.2.cutb H5.out.2.2.cute m1 m2 m3 m4 m5
                have hr6 : Bytes w6 (.slice vo rl vc) r := by
                  have h1 := (HC.out.2.1.upd H5.out.2.1 (by simp)).updE m2 (fun j hj => by have := (H5.out.2.2.far j hj).1; have := HC.out.2.2.1; omega)
                  have e := HC.out.2.2.2.2.2.2.1
                  unfold Bytes
                  rw [e] at h1 ⊢
                  exact h1
                have H6 := Lib.hid (And.intro R6 hr6)
                clear m1 m2 m3 m4 m5 hq6 hvb R6 hr6
                have hlen2 : (want ++ [r]).length = wl + 1 := by rw [List.length_append, HL.out.1]; rfl
                have HLN := Lib.hid hlen2
                clear hlen2
                have R13 := H6.out.1.upd0 ((Upd.refl [] w6).alloc (.cells #[.slice vo rl vc] 26))
                have hr13 := H6.out.2.upd ((Upd.refl [] w6).alloc (.cells #[.slice vo rl vc] 26)) (by simp)
                have hrow13 := R13.row.row
                rw [HL.out.1] at hrow13
                have hble13 : blkE (.slice vo rl vc) ≤ w.heap.size := by rw [blkE_cap (n' := r.length)]; exact HC.out.2.2.1
                have H13 := Lib.hid (And.intro R13 (And.intro hrow13 (And.intro (Blk.new w6 #[.slice vo rl vc] 26).sl1 (And.intro R13.upd.size (And.intro hr13 hble13)))))
                clear R13 hrow13 hr13 hble13
                go_wp2_with (at_builtin; refine wpList_app _ rfl (.tmp 51) (.tmp 54) 24 rfl w.heap.size 26 (.slice none 0 0) 1 24 Tryd.underlying24 info_bytes rfl (by decide) (.slice wo wl wc) wl us rfl H13.out.2.1 (.slice (some ⟨w6.heap.size, 0, none⟩) 1 1) 1 [.slice vo rl vc] rfl H13.out.2.2.1 (by simp [Value.oneCell']) (by omega) (by decide) H13.out.2.2.2.1 ?_)
                intro ao14 c14 w14 h14
                have R14 := H13.out.1.longer (r := r) (x := .slice vo rl vc) H13.out.2.2.2.2.1 H13.out.2.2.2.2.2 (by rw [HL.out.1]; exact h14)
                have H14 := Lib.hid R14
                clear R14 h14 c2'
                go_wp2_with fail
                have hover := over_any w14 _ _ _ H14.out.book
                rw [HS6.out.over] at hover
                dsimp only at hover
                rw [HBP.out] at hover
                refine hover.mono ?_
                clear hover
                rintro e v0g ⟨rfl, rfl⟩
                go_wp2_with fail
                have hrec := records_any w14 _ _ _ H14.out.book
                rw [HS6.out.recs] at hrec
                dsimp only at hrec
                rw [HBP.out] at hrec
                refine hrec.mono ?_
                clear hrec
                rintro e v1g ⟨aAg, cAg, vsAg, rfl, rA, uA⟩
                rw [HLN.out] at rA ⊢
                have hsame := same_true v1g aAg ao14 cAg c14 (wl + 1) _ _ (want ++ [r]) vsAg (us ++ [.slice vo rl vc]) rA (H14.out.row.upd0 uA) HLN.out (by omega)
                have HAg := Lib.hid (And.intro hsame (H14.out.upd0 uA))
                clear hsame rA uA
                go_wp2_with fail
                refine HAg.out.1.mono ?_
                rintro e v2g ⟨rfl, uB⟩
                have HBg := Lib.hid (HAg.out.2.upd0 uB)
                clear uB
                go_wp2
                go_roundw
                case rel => exact ⟨k + 1, ⟨B.p, { B.F with w := v6 }, rv6, vs6⟩, b', D', (want ++ [r]), us ++ [.slice vo rl vc], false, cut, by have := HS.out.2.1; omega, by go_num, by rw [← HBP.out], rfl, ⟨ao14, c14, by rw [HLN.out]⟩, ⟨co, cc, by rw [HL.out.2.1]⟩, HBg.out, HS6.out.more (by omega)⟩
                case measure => simp [intOf]; omega
              · have HS6 := Lib.hid hs'
                clear hs'
                rw [hap, HBP.out, HC.out.2.2.2.2.2.2.1] at hA
                have HAP := Lib.hid hA
                clear hA hap
                go_wp2_with fail
                clear c0 c1 c2 c3 e2 e3
                refine HAP.out.mono ?_
                clear HAP
                rintro e w6 ⟨v6, rv6, vs6, rfl, m1, m2, m3, m4, m5⟩
                dsimp only at m1 m2 m3 m4 m5
                have hq6 : Blk w6 q op.cells.toArray 46 := H5.out.1.upd m2 (fun hj => by have := HX.out.book.lt.1 q hj; have := HC.out.2.2.2.2.2.2.2.2.2.2.2.2.2; omega)
                have hvb := HC.out.2.2.2.2.2.2.2.2.1
                have c2' : w6.cell? ⟨q, 2, none⟩ = some (.slice vo rl vc) := by rw [← hvb]; exact hq6.cell (i := 2) rfl
                have hcb5 : Bytes w5 (.slice vo rl vc) r := by
                  have h1 := HC.out.2.1.upd H5.out.2.1 (by simp)
                  have e := HC.out.2.2.2.2.2.2.1
                  unfold Bytes
                  rw [e] at h1 ⊢
                  exact h1
                have hce5 : blkE (.slice vo rl vc) ≤ w.heap.size := by rw [blkE_cap (n' := r.length)]; exact HC.out.2.2.1
                have HCB := Lib.hid hcb5
                have HCE := Lib.hid hce5
                clear hcb5 hce5
                have R6 := H5.out.2.2.appended (cut' := r) (cv' := (.slice vo rl vc)) HCB.out HCE.out m1 m2 m3 m4 m5
                have hr6 : Bytes w6 (.slice vo rl vc) r := by
                  have h1 := (HC.out.2.1.upd H5.out.2.1 (by simp)).updE m2 (fun j hj => by have := (H5.out.2.2.far j hj).1; have := HC.out.2.2.1; omega)
                  have e := HC.out.2.2.2.2.2.2.1
                  unfold Bytes
                  rw [e] at h1 ⊢
                  exact h1
                have H6 := Lib.hid (And.intro R6 hr6)
                clear m1 m2 m3 m4 m5 hq6 hvb R6 hr6
                go_wp2_with fail
                clear c2'
                have hover := over_any w6 _ _ _ H6.out.1.book
                rw [HS6.out.over] at hover
                dsimp only at hover
                rw [HBP.out] at hover
                refine hover.mono ?_
                clear hover
                rintro e v0h ⟨rfl, rfl⟩
                go_wp2_with fail
                have hrec := records_any w6 _ _ _ H6.out.1.book
                rw [HS6.out.recs] at hrec
                dsimp only at hrec
                rw [HBP.out] at hrec
                refine hrec.mono ?_
                clear hrec
                rintro e v1h ⟨aAh, cAh, vsAh, rfl, rA, uA⟩
                rw [HL.out.1] at rA ⊢
                have hsame := same_true v1h aAh wo cAh wc (wl) _ _ want vsAh (us) rA (H6.out.1.row.upd0 uA) HL.out.1 (by omega)
                have HAh := Lib.hid (And.intro hsame (H6.out.1.upd0 uA))
                clear hsame rA uA
                go_wp2_with fail
                refine HAh.out.1.mono ?_
                rintro e v2h ⟨rfl, uB⟩
                have HBh := Lib.hid (HAh.out.2.upd0 uB)
                clear uB
                go_wp2
                go_roundw
                case rel => exact ⟨k + 1, ⟨B.p, { B.F with w := v6 }, rv6, vs6⟩, b', D', want, us, true, r, by have := HS.out.2.1; omega, by go_num, by rw [← HBP.out], rfl, ⟨wo, wc, by rw [HL.out.1]⟩, ⟨vo, vc, by rw [HC.out.2.2.2.2.2.2.1]⟩, HBh.out, HS6.out.more (by omega)⟩
                case measure => simp [intOf]; omega
      · obtain rfl : k = m := by omega
        have HZ := Lib.hid HX.out.upd
        go_wp2
        go_ret
        exact ⟨rfl, HZ.out⟩
end Go.Proofs.YtnfnaedoejgpiaaDoor
