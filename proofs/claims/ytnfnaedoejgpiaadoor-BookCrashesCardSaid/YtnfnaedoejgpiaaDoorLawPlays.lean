/- BookPlays: whatever the calls, the law's call returns true, and only new memory is written. -/
import Derived.Test.YtnfnaedoejgpiaaDoorPlays
import Derived.Test.YtnfnaedoejgpiaaDoorLawAll
import Derived.Test.YtnfnaedoejgpiaaDoorLawOwn
import Derived.Test.YtnfnaedoejgpiaaDoorRefSame
import Derived.Test.YtnfnaedoejgpiaaDoorWaits
import Derived.Test.YtnfnaedoejgpiaaDoorHeadF
namespace Go.Proofs.YtnfnaedoejgpiaaDoor
open Go.RowKit

/-- A row of the call's own whose elements are slices that came in. -/
structure WantAt (w : World) (B : Nat) (v : Value) (vs : List Value) (ls : List (List UInt8)) : Prop where
  row : w.ownsRow B 26 1 v ls.length vs
  reads : Reads w vs ls
  at_ : ∀ x ∈ vs, blkE x ≤ B
theorem WantAt.nil (w : World) (B : Nat) : WantAt w B (.slice none 0 0) [] [] := ⟨World.ownsRow_nil _ _ _ _, ⟨rfl, fun i h => by simp at h⟩, by simp⟩
theorem WantAt.upd {S : List Nat} {w w' : World} {B : Nat} {v : Value} {vs : List Value} {ls : List (List UInt8)} (h : WantAt w B v vs ls) (hu : Upd S w w') (hS : ∀ k ∈ S, B ≤ k ∧ blkOf v ≠ k + 1) : WantAt w' B v vs ls :=
  ⟨own_upd h.row hu (fun k hk => (hS k hk).2), ⟨h.reads.1, fun i h1 h2 => (h.reads.2 i h1 h2).updE hu (fun k hk => by have := h.at_ _ (List.getElem_mem h1); have := (hS k hk).1; omega)⟩, h.at_⟩
theorem WantAt.upd0 {w w' : World} {B : Nat} {v : Value} {vs : List Value} {ls : List (List UInt8)} (h : WantAt w B v vs ls) (hu : Upd [] w w') : WantAt w' B v vs ls := h.upd hu (by simp)
theorem WantAt.app {w w' : World} {B : Nat} {v v' x : Value} {vs : List Value} {ls : List (List UInt8)} {l : List UInt8} (h : WantAt w B v vs ls) (hx : Bytes w x l) (hxb : blkE x ≤ B)
    (ha : Apped B 26 1 v ls.length 1 vs [x] w v' w') : WantAt w' B v' (vs ++ [x]) (ls ++ [l]) := by
  have hk : ∀ k ∈ v.ownBlock.toList, B ≤ k := by
    intro k hk
    rw [own_block] at hk
    split at hk
    · simp at hk
    · simp at hk; have := (own_lt h.row).2; omega
  refine ⟨by simpa using ha.own, ⟨by simp [h.reads.1], fun i h1 h2 => ?_⟩, fun y hy => ?_⟩
  · rcases Nat.lt_or_ge i vs.length with hi | hi
    · have hi' : i < ls.length := by rw [← h.reads.1]; exact hi
      rw [List.getElem_append_left hi, List.getElem_append_left hi']
      exact (h.reads.2 i hi hi').updE ha.upd (fun k hk' => by have := h.at_ _ (List.getElem_mem hi); have := hk k hk'; omega)
    · have : i = vs.length := by simp at h1; omega
      subst this
      have := h.reads.1
      simp only [List.getElem_append_right (Nat.le_refl _), List.getElem_append_right (Nat.le_of_eq h.reads.1.symm)]
      have := hx.updE ha.upd (fun k hk' => by have := hk k hk'; omega)
      simpa [‹vs.length = ls.length›] using this
  · rcases List.mem_append.1 hy with hy | hy
    · exact h.at_ y hy
    · rw [List.mem_singleton.1 hy]; exact hxb
/-- What the comparisons ask of a row. -/
theorem WantAt.each {w : World} {B : Nat} {v : Value} {vs : List Value} {ls : List (List UInt8)} (h : WantAt w B v vs ls) : ∀ i, i < ls.length → ∃ u, vs[i]? = some u ∧ Bytes w u (ls.getD i []) := fun i hi => by
  have h1 : i < vs.length := by rw [h.reads.1]; exact hi
  refine ⟨vs[i], List.getElem?_eq_getElem h1, ?_⟩
  rw [List.getD_eq_getElem?_getD, List.getElem?_eq_getElem hi, Option.getD_some]
  exact h.reads.2 i h1 hi
theorem RowsAt.each {w : World} {B : Nat} {v : Value} {vs : List Value} {ls : List (List UInt8)} (h : RowsAt w B v vs ls) : ∀ i, i < ls.length → ∃ u, vs[i]? = some u ∧ Bytes w u (ls.getD i []) := fun i hi => by
  have h1 : i < vs.length := by rw [h.len]; exact hi
  refine ⟨vs[i], List.getElem?_eq_getElem h1, ?_⟩
  rw [List.getD_eq_getElem?_getD, List.getElem?_eq_getElem hi, Option.getD_some]
  exact own_sl (h.all.2 i h1 hi)
/-- A row of slices of the call's own, and a book: they lie apart. -/
theorem BookAt.row_far {w : World} {B : BookF} {b : BookS} {D : DiskS} {base n : Nat} {v : Value} {xs : List Value} (h : BookAt w B b D) (hv : w.ownsRow base 26 1 v n xs) (hne : blkOf v = 0 ∨ blkOf v ≠ blkOf B.rv) :
    (∀ k ∈ B.p :: blkL B.rv ++ B.F.blks, blkOf v ≠ k + 1) ∧ ∀ x ∈ B.vs, ∀ k ∈ blkL v, blkOf x ≠ k + 1 := by
  have hD := h.disk
  refine ⟨fun k hm hk => ?_, fun x hx k hk he => ?_⟩
  · rcases List.mem_append.1 hm with hm | hm
    · rcases List.mem_cons.1 hm with rfl | hm
      · exact own_ne hv h.top (by decide) hk
      · have h1 := mem_blkL.1 hm
        omega
    · rcases mem_blks.1 hm with h1 | h1 | h1 | h1
      · exact own_ne hv hD.top (by decide) (by rw [← h1]; exact hk)
      · exact own_ne hv hD.fl (by decide) (by rw [← h1]; exact hk)
      · exact own_ne hv hD.nw (by decide) (by rw [← h1]; exact hk)
      · rcases own_ne2 hv hD.ws (by decide) with h0 | h0 <;> omega
  · have hk := mem_blkL.1 hk
    obtain ⟨l, _, ho⟩ := h.rows.all.mem hx
    rcases own_ne2 hv ho (by decide) with h0 | h0 <;> omega
def RelPlays (W : World) (p d mm : Nat) (os : List OpS) (wv rv iv : Value) (w : World) : Prop :=
  ∃ (k : Nat) (B : BookF) (b : BookS) (D : DiskS) (want : List (List UInt8)) (vs : List Value), k ≤ os.length ∧ iv = .int .i64 k ∧ B.p = p ∧ B.F.d = d ∧ rv = .int .i64 ((mm - b.next : Nat) : Int) ∧ (∃ ao c, wv = .slice ao want.length c) ∧
    BookAt w B b D ∧ From W.heap.size B ∧ PlayS mm want b D ∧ WantAt w W.heap.size wv vs want ∧ want.length ≤ k ∧ Upd [] W w ∧ (blkOf wv = 0 ∨ blkOf wv ≠ blkOf B.rv)
set_option maxRecDepth 4000 in
set_option maxHeartbeats 4000000 in
theorem lawPlays_any (w : World) (x : Nat) (lo : Option Addr) (m lc : Nat) (os : List OpS) (hx : x < 256) (h : OpsAt w w.heap.size (.slice lo m lc) os) (hm : os.length = m) (ht : Table w) :
    Calls Tryd.prog 5 #[.int .u8 x, .slice lo m lc] w fun e w' => e = .returned (.bool true) ∧ Upd [] w w' := by
  have hm63 : m ≤ 9223372036854775807 := by
    obtain ⟨_, c, hv, h1, h2, _⟩ := h.row
    have : maxLen = 9223372036854775807 := rfl
    omega
  have HS := Lib.hid (And.intro h (And.intro hm ht))
  clear h hm ht
  go_enter Tryd.func5, Tryd.ntmps5
  go_wp2_with fail
  refine (awake_any w HS.out.2.2).mono ?_
  rintro e w1 ⟨rfl, u1⟩
  have H1 := Lib.hid u1
  clear u1
  go_wp2_with fail
  refine (few_any w1 w.heap.size lo m lc os 30 (HS.out.1.upd H1.out (by simp)) HS.out.2.1 hm63).mono ?_
  rintro e w2 ⟨fb, rfl, hfb, u2⟩
  have H2 := Lib.hid (And.intro hfb (H1.out.trans u2 (by simp)))
  clear hfb u2 hm63
  cases fb with
  | false =>
    go_wp2_with fail
    refine (awake_any w2 (HS.out.2.2.upd H2.out.2 (by simp))).mono ?_
    rintro e w3 ⟨rfl, u3⟩
    have H3 := Lib.hid (H2.out.2.trans u3 (by simp))
    clear u3
    go_wp2
    go_ret
    exact ⟨rfl, H3.out⟩
  | true =>
    have hfew := H2.out.1.1 rfl
    have hm30 : m ≤ 30 := by have := hfew.2; have := HS.out.2.1; omega
    have hok : ∀ o ∈ os, okOp o := by
      have h1 := hfew.1
      rw [List.take_of_length_le (by have := HS.out.2.1; omega)] at h1
      exact h1
    have HO := Lib.hid hok
    clear hfew hok
    obtain ⟨mm, hmm⟩ : ∃ mm, x % 200 = mm := ⟨_, rfl⟩
    have hmmI : (x : Int) % 200 = (mm : Int) := by omega
    have hmml : mm < 200 := by omega
    clear hmm
    go_wp2_with fail
    refine (new_any w2 mm (by omega)).mono ?_
    rintro e w3 ⟨d, bf, bn, rfl, h1, h2, h3, h4, h5⟩
    have H3 := Lib.hid (And.intro h1 (And.intro (H2.out.2.trans h2 (by simp)) (And.intro h3 (And.intro h4 (And.intro h5 h2)))))
    clear h1 h2 h3 h4 h5
    go_wp2_with fail
    refine (open_new w3 ⟨d, bf, bn, .slice none 0 0⟩ mm H3.out.1 (HS.out.2.2.upd H3.out.2.1 (by simp))).mono ?_
    rintro e w4 ⟨p, rv, vs, rfl, k1, k2, k3, k4, k5⟩
    have hF : From w.heap.size ⟨p, ⟨d, bf, bn, .slice none 0 0⟩, rv, vs⟩ := by
      have a1 := H2.out.2.size
      have a2 := H3.out.2.1.size
      have a3 := H3.out.2.2
      refine ⟨by dsimp only; omega, fun k hk => ?_, by dsimp only; omega, fun x hx => by have := k5 x hx; omega⟩
      rcases mem_blks.1 hk with h | h | h | h
      · dsimp only at h; omega
      · dsimp only at h; omega
      · dsimp only at h; omega
      · simp [blkOf] at h
    have H4 := Lib.hid (And.intro k1 (And.intro (H3.out.2.1.trans k2 (by simp)) hF))
    clear k1 k2 k3 k4 k5 hF
    go_wp2_with fail
    simp only [hmmI]
    clear hmmI
    go_loopw [8, 9, 10] (RelPlays w p d mm os) (fun _ _ i _ => ((m : Int) - intOf i).toNat)
    case atStart => exact ⟨0, _, _, _, [], [], by omega, rfl, rfl, rfl, rfl, ⟨none, 0, rfl⟩, H4.out.1, H4.out.2.2, PlayS.start mm, WantAt.nil _ _, Nat.le_refl _, H4.out.2.1, .inl rfl⟩
    case round =>
      obtain ⟨k, B, b, D, want, us, hk, rfl, hBp, hBd, rfl, ⟨wo, wc, rfl⟩, r1, r2, r3, r4, r5, r6, r7⟩ := hrel
      rw [HS.out.2.1] at hk
      obtain ⟨wl, hwl⟩ : ∃ wl, want.length = wl := ⟨_, rfl⟩
      obtain ⟨bn', hbn⟩ : ∃ y, b.next = y := ⟨_, rfl⟩
      rw [hwl] at r5 ⊢
      obtain ⟨rm, hrm⟩ : ∃ y, mm - b.next = y := ⟨_, rfl⟩
      rw [hrm]
      rw [hbn] at hrm
      have HX := Lib.hid (And.intro r1 (And.intro r2 (And.intro r3 (And.intro r4 (And.intro r6 (And.intro hBp (And.intro hBd (And.intro hwl (And.intro hbn (And.intro hrm r7))))))))))
      clear r1 r2 r3 r4 r6 hBp hBd hwl hbn hrm r7
      rcases Nat.lt_or_ge k m with hlt | hge
      · obtain ⟨bb, oo, hlo, hbb, hBB, hc⟩ := OpsAt.cell HS.out.1 HS.out.2.1 hlt
        subst hlo
        have hkl : k < os.length := by have := HS.out.2.1; omega
        have hmem : os[k] ∈ os := List.getElem_mem hkl
        have hcells : ∀ j u, (os[k]).cells[j]? = some u → wr.cell? (Addr.add ⟨bb, oo + k * 4, none⟩ j) = some u := fun j u hj => by
          rw [Addr.add_lit]; exact cell_upd (hc j u hj) hbb HX.out.2.2.2.2.1 (by simp)
        have hby := HS.out.1.bytes _ hmem
        have hoks := HO.out _ hmem
        have hpk := (HS.out.1.picks _ hmem).1
        generalize os[k] = op at *
        obtain ⟨vo, vc, hv, -⟩ := id hby.1
        obtain ⟨po, pc, hp, -⟩ := id hpk
        have hby1 := hby.1.upd HX.out.2.2.2.2.1 (by simp)
        rw [hv] at hby hby1
        obtain ⟨r, hr⟩ : ∃ r, op.b = r := ⟨_, rfl⟩
        obtain ⟨rl, hrl⟩ : ∃ rl, r.length = rl := ⟨_, rfl⟩
        unfold okOp at hoks
        rw [hr] at hby hby1 hoks
        rw [hrl] at hby hoks
        rw [hr, hrl] at hv
        have hszO : (Tryd.prog.info? 46).map (·.size) = some op.cells.length := by kernel_rfl
        have hone : (op.cells.all fun u => u.oneCell') = true := by simp [OpS.cells, hv, hp, Value.oneCell']
        have HC := Lib.hid (And.intro hcells (And.intro hby (And.intro hby1 (And.intro hoks (And.intro hr (And.intro hrl (And.intro hv (And.intro hszO hone))))))))
        clear hcells hby hby1 hoks hr hrl hv hszO hone hc hmem hpk hp
        obtain ⟨q, hq⟩ : ∃ q, wr.heap.size = q := ⟨_, rfl⟩
        have HQ := Lib.hid hq
        clear hq
        go_wp2_with (first | (with_reducible refine wpList_load_cells (o := ⟨some 48, _, _, _, _, _⟩) rfl 46 (.tmp 47) rfl ⟨bb, oo + k * 4, none⟩ rfl _ op.cells HC.out.1 Tryd.underlying46 rfl HC.out.2.2.2.2.2.2.2.1 ?_) | (with_reducible refine wpList_store_blk (o := ⟨none, .store 46 (.tmp 11) (.tmp 48), _, _, _, _⟩) rfl 46 (.tmp 11) (.tmp 48) rfl (b := wr.heap.size) 0 rfl (Blk.new wr _ _) (.agg op.cells.toArray) rfl op.cells rfl ?_ HC.out.2.2.2.2.2.2.2.2 HC.out.2.2.2.2.2.2.2.1 ?_))
        · simp [OpS.cells]
        intro w5 b5 u5
        rw [splice_all (by simp [OpS.cells])] at b5
        have hvb := HC.out.2.2.2.2.2.2.1
        have c5 : w5.cell? ⟨wr.heap.size, 2, none⟩ = some (.slice vo rl vc) := by rw [← hvb]; exact b5.cell (i := 2) rfl
        have U5 := u5.fresh
        have H5 := Lib.hid (And.intro b5 (And.intro U5 (HX.out.2.2.2.2.1.trans U5 (by simp))))
        clear b5 u5 U5 hvb
        rw [HQ.out] at c5 H5 ⊢
        go_wp2_with fail
        have hby5 : Bytes w5 (.slice vo r.length vc) r := HC.out.2.2.1.upd H5.out.2.1 (by simp)
        have hble := HC.out.2.1.2.1
        have hsz5 := H5.out.2.2.size
        have hcut := cut_any w5 vo vc r hby5 (by rw [blkE_cap (n' := rl)]; omega) (by have := HC.out.2.2.2.1.1; have := HC.out.2.2.2.2.2.1; omega)
        rw [HC.out.2.2.2.2.2.1] at hcut
        refine hcut.mono ?_
        clear hcut hby5 hble hsz5
        rintro e w6 ⟨ao6, c6, vs6, rfl, -, u6⟩
        obtain ⟨pn, hpn⟩ : ∃ pn, (parts52 r).length = pn := ⟨_, rfl⟩
        rw [hpn]
        have c6' : w6.cell? ⟨q, 2, none⟩ = some (.slice vo rl vc) := cell_upd c5 (by rw [← HQ.out]; have := H5.out.1.lt; rw [HQ.out]; exact this) u6 (by simp)
        have u56 := H5.out.2.1.trans u6 (by simp)
        have hU6 := H5.out.2.2.trans u6 (by simp)
        have hBk6 := HX.out.1.upd0 u56
        have hW6 := HX.out.2.2.2.1.upd0 u56
        have b6 := H5.out.1.upd u6 (by simp)
        have hr6 : Bytes w6 (.slice vo r.length vc) r := HC.out.2.2.1.upd u56 (by simp)
        have hble : blkE (.slice vo r.length vc) ≤ w.heap.size := by rw [blkE_cap (n' := rl)]; exact HC.out.2.1.2.1
        have hA := append_any w6 B b D vo vc r hBk6 hr6 (Nat.le_trans hble hU6.size) (fun j hj => by have := HX.out.2.1.wr j hj; omega) (by have := HC.out.2.2.2.1.1; have := HC.out.2.2.2.2.2.1; omega) (HS.out.2.2.upd hU6 (by simp)) (fun h => by have := HX.out.2.1.wr 0 h; have := HS.out.2.2.1; omega) (by rw [HX.out.2.2.1.waits]; simp)
        rw [HC.out.2.2.2.2.2.1] at hA
        have H6 := Lib.hid (And.intro hU6 (And.intro hW6 (And.intro b6 (And.intro hpn (And.intro hA (And.intro hr6 hble))))))
        clear c5 hU6 hBk6 hW6 b6 hpn u6 u56 hA hr6 hble
        have hcase : (4096 < rl) ∨ (rl ≤ 4096 ∧ rm < pn) ∨ (rl ≤ 4096 ∧ pn ≤ rm) := by omega
        rcases hcase with hlong | ⟨hshort, hfull⟩ | ⟨hshort, hfits⟩
        · have hap := HX.out.2.2.1.long (r := r) (by rw [HC.out.2.2.2.2.2.1]; exact hlong)
          have hA := H6.out.2.2.2.2.1
          rw [hap] at hA
          have HA := Lib.hid hA
          clear hA hap
          go_wp2_with fail
          rw [HX.out.2.2.2.2.2.1] at HA
          refine HA.out.mono ?_
          rintro e w7 ⟨v7, rv7, vs7, rfl, m1, m2, m3, m4, m5⟩
          dsimp only at m1 m2 m3 m4 m5
          have hF7 : From w.heap.size ⟨B.p, { B.F with w := v7 }, rv7, vs7⟩ := From.app HX.out.2.1 H6.out.1.size m3 m4 m5
          have hU7 : Upd [] w w7 := H6.out.1.trans m2 (fun j hj => .inr (HX.out.2.1.wr j hj))
          have hne := HX.out.2.2.2.2.2.2.2.2.2.2
          have hfar := (BookAt.row_far HX.out.1 HX.out.2.2.2.1.row hne).1
          have hW7 := H6.out.2.1.upd m2 (fun j hj => ⟨HX.out.2.1.wr j hj, hfar j hj⟩)
          have hne7 : blkOf (.slice wo want.length wc) = 0 ∨ blkOf (.slice wo want.length wc) ≠ blkOf rv7 := by
            have h1 := (own_lt H6.out.2.1.row).1
            rcases m4 with h | h
            · rw [h]; exact hne
            · right; omega
          have H7 := Lib.hid (And.intro m1 (And.intro hF7 (And.intro hU7 (And.intro hW7 hne7))))
          clear m1 m2 m3 m4 m5 hF7 hU7 hne hfar hW7 hne7 HA
          go_wp2_with fail
          have hroom := room_any w7 _ _ _ H7.out.1
          rw [HX.out.2.2.1.len, HX.out.2.2.2.2.2.2.2.2.1, HX.out.2.2.2.2.2.2.2.2.2.1] at hroom
          dsimp only at hroom
          rw [HX.out.2.2.2.2.2.1] at hroom
          refine hroom.mono ?_
          clear hroom
          rintro e w8 ⟨rfl, u8⟩
          have H8 := Lib.hid (And.intro (H7.out.1.upd0 u8) (And.intro (H7.out.2.2.1.trans u8 (by simp)) (H7.out.2.2.2.1.upd0 u8)))
          clear u8
          go_wp2_with fail
          have hover := over_any w8 _ _ _ H8.out.1
          rw [HX.out.2.2.1.over] at hover
          dsimp only at hover
          rw [HX.out.2.2.2.2.2.1] at hover
          refine hover.mono ?_
          clear hover
          rintro e w9 ⟨rfl, rfl⟩
          go_wp2_with fail
          have hhead := bhead_any w8 _ _ _ H8.out.1
          rw [HX.out.2.2.1.recs, HX.out.2.2.2.2.2.2.2.1] at hhead
          dsimp only at hhead
          rw [HX.out.2.2.2.2.2.1] at hhead
          refine hhead.mono ?_
          clear hhead
          rintro e w9 ⟨rfl, u9⟩
          have hfd := fun w => field_count w b.hash wl H8.out.1.hash
          have H9 := Lib.hid (And.intro (H8.out.1.upd0 u9) (And.intro (H8.out.2.1.trans u9 (by simp)) (H8.out.2.2.upd0 u9)))
          clear u9
          go_wp2
          clear hfd
          go_roundw
          case rel => exact ⟨k + 1, ⟨B.p, { B.F with w := v7 }, rv7, vs7⟩, b, D, want, us, by have := HS.out.2.1; omega, by go_num, HX.out.2.2.2.2.2.1, HX.out.2.2.2.2.2.2.1, by rw [HX.out.2.2.2.2.2.2.2.2.1, HX.out.2.2.2.2.2.2.2.2.2.1], ⟨wo, wc, by rw [HX.out.2.2.2.2.2.2.2.1]⟩, H9.out.1, H7.out.2.1, HX.out.2.2.1, by have := H9.out.2.2; rw [HX.out.2.2.2.2.2.2.2.1] at this; exact this, by have := HX.out.2.2.2.2.2.2.2.1; omega, H9.out.2.1, by have := H7.out.2.2.2.2; rw [HX.out.2.2.2.2.2.2.2.1] at this; exact this⟩
          case measure => simp [intOf]; omega
        · have hap := HX.out.2.2.1.full (r := r) (by rw [HC.out.2.2.2.2.2.1]; exact hshort) (by rw [HX.out.2.2.2.2.2.2.2.2.1, HX.out.2.2.2.2.2.2.2.2.2.1, H6.out.2.2.2.1]; exact hfull)
          have hA := H6.out.2.2.2.2.1
          rw [hap] at hA
          have HA := Lib.hid hA
          clear hA hap
          go_wp2_with fail
          rw [HX.out.2.2.2.2.2.1] at HA
          refine HA.out.mono ?_
          rintro e w7 ⟨v7, rv7, vs7, rfl, m1, m2, m3, m4, m5⟩
          dsimp only at m1 m2 m3 m4 m5
          have hF7 : From w.heap.size ⟨B.p, { B.F with w := v7 }, rv7, vs7⟩ := From.app HX.out.2.1 H6.out.1.size m3 m4 m5
          have hU7 : Upd [] w w7 := H6.out.1.trans m2 (fun j hj => .inr (HX.out.2.1.wr j hj))
          have hne := HX.out.2.2.2.2.2.2.2.2.2.2
          have hfar := (BookAt.row_far HX.out.1 HX.out.2.2.2.1.row hne).1
          have hW7 := H6.out.2.1.upd m2 (fun j hj => ⟨HX.out.2.1.wr j hj, hfar j hj⟩)
          have hne7 : blkOf (.slice wo want.length wc) = 0 ∨ blkOf (.slice wo want.length wc) ≠ blkOf rv7 := by
            have h1 := (own_lt H6.out.2.1.row).1
            rcases m4 with h | h
            · rw [h]; exact hne
            · right; omega
          have H7 := Lib.hid (And.intro m1 (And.intro hF7 (And.intro hU7 (And.intro hW7 hne7))))
          clear m1 m2 m3 m4 m5 hF7 hU7 hne hfar hW7 hne7 HA
          go_wp2_with fail
          have hroom := room_any w7 _ _ _ H7.out.1
          rw [HX.out.2.2.1.len, HX.out.2.2.2.2.2.2.2.2.1, HX.out.2.2.2.2.2.2.2.2.2.1] at hroom
          dsimp only at hroom
          rw [HX.out.2.2.2.2.2.1] at hroom
          refine hroom.mono ?_
          clear hroom
          rintro e w8 ⟨rfl, u8⟩
          have H8 := Lib.hid (And.intro (H7.out.1.upd0 u8) (And.intro (H7.out.2.2.1.trans u8 (by simp)) (H7.out.2.2.2.1.upd0 u8)))
          clear u8
          go_wp2_with fail
          have hover := over_any w8 _ _ _ H8.out.1
          rw [HX.out.2.2.1.over] at hover
          dsimp only at hover
          rw [HX.out.2.2.2.2.2.1] at hover
          refine hover.mono ?_
          clear hover
          rintro e w9 ⟨rfl, rfl⟩
          go_wp2_with fail
          have hhead := bhead_any w8 _ _ _ H8.out.1
          rw [HX.out.2.2.1.recs, HX.out.2.2.2.2.2.2.2.1] at hhead
          dsimp only at hhead
          rw [HX.out.2.2.2.2.2.1] at hhead
          refine hhead.mono ?_
          clear hhead
          rintro e w9 ⟨rfl, u9⟩
          have hfd := fun w => field_count w b.hash wl H8.out.1.hash
          have H9 := Lib.hid (And.intro (H8.out.1.upd0 u9) (And.intro (H8.out.2.1.trans u9 (by simp)) (H8.out.2.2.upd0 u9)))
          clear u9
          go_wp2
          clear hfd
          go_roundw
          case rel => exact ⟨k + 1, ⟨B.p, { B.F with w := v7 }, rv7, vs7⟩, b, D, want, us, by have := HS.out.2.1; omega, by go_num, HX.out.2.2.2.2.2.1, HX.out.2.2.2.2.2.2.1, by rw [HX.out.2.2.2.2.2.2.2.2.1, HX.out.2.2.2.2.2.2.2.2.2.1], ⟨wo, wc, by rw [HX.out.2.2.2.2.2.2.2.1]⟩, H9.out.1, H7.out.2.1, HX.out.2.2.1, by have := H9.out.2.2; rw [HX.out.2.2.2.2.2.2.2.1] at this; exact this, by have := HX.out.2.2.2.2.2.2.2.1; omega, H9.out.2.1, by have := H7.out.2.2.2.2; rw [HX.out.2.2.2.2.2.2.2.1] at this; exact this⟩
          case measure => simp [intOf]; omega
        · obtain ⟨b', D', hap, hps, hnx⟩ := HX.out.2.2.1.add (r := r) (by rw [HC.out.2.2.2.2.2.1]; exact hshort) (by rw [HX.out.2.2.2.2.2.2.2.2.1, HX.out.2.2.2.2.2.2.2.2.2.1, H6.out.2.2.2.1]; exact hfits)
          rw [H6.out.2.2.2.1, HX.out.2.2.2.2.2.2.2.2.1] at hnx
          have hA := H6.out.2.2.2.2.1
          rw [hap] at hA
          have HA := Lib.hid hA
          have HP := Lib.hid (And.intro hps hnx)
          clear hA hap hps hnx
          go_wp2_with fail
          rw [HX.out.2.2.2.2.2.1] at HA
          refine HA.out.mono ?_
          rintro e w7 ⟨v7, rv7, vs7, rfl, m1, m2, m3, m4, m5⟩
          dsimp only at m1 m2 m3 m4 m5
          have hF7 : From w.heap.size ⟨B.p, { B.F with w := v7 }, rv7, vs7⟩ := From.app HX.out.2.1 H6.out.1.size m3 m4 m5
          have hU7 : Upd [] w w7 := H6.out.1.trans m2 (fun j hj => .inr (HX.out.2.1.wr j hj))
          have hne := HX.out.2.2.2.2.2.2.2.2.2.2
          have hfar := (BookAt.row_far HX.out.1 HX.out.2.2.2.1.row hne).1
          have hW7 := H6.out.2.1.upd m2 (fun j hj => ⟨HX.out.2.1.wr j hj, hfar j hj⟩)
          have hne7 : blkOf (.slice wo want.length wc) = 0 ∨ blkOf (.slice wo want.length wc) ≠ blkOf rv7 := by
            have h1 := (own_lt H6.out.2.1.row).1
            rcases m4 with h | h
            · rw [h]; exact hne
            · right; omega
          have hq7 : Blk w7 q op.cells.toArray 46 := H6.out.2.2.1.upd m2 (fun hj => by have := HX.out.1.lt.1 q hj; have := HQ.out; omega)
          have hvb := HC.out.2.2.2.2.2.2.1
          have c7 : w7.cell? ⟨q, 2, none⟩ = some (.slice vo rl vc) := by rw [← hvb]; exact hq7.cell (i := 2) rfl
          have hr7 : Bytes w7 (.slice vo r.length vc) r := H6.out.2.2.2.2.2.1.updE m2 (fun j hj => by have := HX.out.2.1.wr j hj; have := H6.out.2.2.2.2.2.2; omega)
          have H7 := Lib.hid (And.intro m1 (And.intro hF7 (And.intro hU7 (And.intro hW7 (And.intro hne7 hr7)))))
          clear m1 m2 m3 m4 m5 hF7 hU7 hne hfar hW7 hne7 HA hq7 hvb hr7 c6'
          have hr8 : Bytes (w7.alloc (.cells #[.slice vo rl vc] 26)) (.slice vo r.length vc) r := H7.out.2.2.2.2.2.upd ((Upd.refl [] w7).alloc _) (by simp)
          have hW8 := H7.out.2.2.2.1.upd0 ((Upd.refl [] w7).alloc (.cells #[.slice vo rl vc] 26))
          have hB8 := H7.out.1.upd0 ((Upd.refl [] w7).alloc (.cells #[.slice vo rl vc] 26))
          have hrow8 := hW8.row
          rw [HX.out.2.2.2.2.2.2.2.1] at hrow8
          have hsz8 := (H7.out.2.2.1.alloc (.cells #[.slice vo rl vc] 26)).size
          have H8 := Lib.hid (And.intro hr8 (And.intro hW8 (And.intro hrow8 (And.intro (Blk.new w7 #[.slice vo rl vc] 26).sl1 (And.intro hsz8 hB8)))))
          clear hr8 hW8 hrow8 hsz8 hB8
          go_wp2_with (at_builtin; refine wpList_app _ rfl (.tmp 68) (.tmp 71) 24 rfl w.heap.size 26 (.slice none 0 0) 1 24 Tryd.underlying24 info_bytes rfl (by decide) (.slice wo wl wc) wl us rfl H8.out.2.2.1 (.slice (some ⟨w7.heap.size, 0, none⟩) 1 1) 1 [.slice vo rl vc] rfl H8.out.2.2.2.1 (by simp [Value.oneCell']) (by omega) (by decide) H8.out.2.2.2.2.1 ?_)
          intro ao8 c8 w8 h8
          have hwl := HX.out.2.2.2.2.2.2.2.1
          have hW9 := WantAt.app (l := r) (x := .slice vo rl vc) H8.out.2.1 (by have h := H8.out.1; have e := HC.out.2.2.2.2.2.1; unfold Bytes at h ⊢; rw [e] at h ⊢; exact h) (by rw [blkE_cap (n' := r.length)]; exact H6.out.2.2.2.2.2.2) (by rw [hwl]; exact h8)
          have hob : ∀ j ∈ (Value.slice wo wl wc).ownBlock.toList, blkOf (.slice wo wl wc) = j + 1 := by
            intro j hj
            rw [own_block] at hj
            split at hj
            · simp at hj
            · simp at hj; omega
          have hu8 : Upd [] w w8 := (H7.out.2.2.1.alloc _).trans h8.upd (fun j hj => .inr (by have := own_lt H8.out.2.2.1; have := hob j hj; omega))
          have hne7 := H7.out.2.2.2.2.1
          rw [hwl] at hne7
          have hfar := BookAt.row_far H8.out.2.2.2.2.2 H8.out.2.2.1 hne7
          have hB9 := BookAt.far H8.out.2.2.2.2.2 h8.upd (fun j hj hm => hfar.1 j hm (hob j hj)) (fun y hy j hj => hfar.2 y hy j (mem_blkL.2 (hob j hj)))
          have hne9 : blkOf (.slice ao8 (wl + 1) c8) = 0 ∨ blkOf (.slice ao8 (wl + 1) c8) ≠ blkOf rv7 := by
            have h1 := (own_lt H8.out.2.2.2.2.2.rows.row).1
            dsimp only at h1
            rcases h8.blk with h | h
            · rw [h]; exact hne7
            · right; omega
          obtain ⟨rm2, hrm2⟩ : ∃ y, rm - pn = y := ⟨_, rfl⟩
          have hrml : rm < 200 := by have := HX.out.2.2.2.2.2.2.2.2.2.1; omega
          have hrm2l : rm2 < 200 := by omega
          have hsub : (rm : Int) - (pn : Int) = (rm2 : Int) := by omega
          have hnx2 : mm - b'.next = rm2 := by have := HP.out.2; have := HX.out.2.2.2.2.2.2.2.2.2.1; omega
          have hlen2 : (want ++ [r]).length = wl + 1 := by rw [List.length_append, hwl]; rfl
          have H9 := Lib.hid (And.intro hW9 (And.intro hu8 (And.intro hB9 (And.intro hne9 (And.intro hnx2 hlen2)))))
          clear hW9 hu8 hB9 hne9 hnx2 hlen2 hob hne7 hfar hwl h8 c7 hrm2
          go_wp2_with fail
          clear hsub
          have hroom := room_any w8 _ _ _ H9.out.2.2.1
          rw [HP.out.1.len, H9.out.2.2.2.2.1] at hroom
          dsimp only at hroom
          rw [HX.out.2.2.2.2.2.1] at hroom
          refine hroom.mono ?_
          clear hroom
          rintro e w10 ⟨rfl, u10⟩
          have H10 := Lib.hid (And.intro (H9.out.2.2.1.upd0 u10) (And.intro (H9.out.2.1.trans u10 (by simp)) (H9.out.1.upd0 u10)))
          clear u10
          go_wp2_with fail
          have hover := over_any w10 _ _ _ H10.out.1
          rw [HP.out.1.over] at hover
          dsimp only at hover
          rw [HX.out.2.2.2.2.2.1] at hover
          refine hover.mono ?_
          clear hover
          rintro e w11 ⟨rfl, rfl⟩
          go_wp2_with fail
          have hhead := bhead_any w10 _ _ _ H10.out.1
          rw [HP.out.1.recs, H9.out.2.2.2.2.2] at hhead
          dsimp only at hhead
          rw [HX.out.2.2.2.2.2.1] at hhead
          refine hhead.mono ?_
          clear hhead
          rintro e w11 ⟨rfl, u11⟩
          have hfd := fun w => field_count w b'.hash ((wl : Int) + 1) H10.out.1.hash
          have H11 := Lib.hid (And.intro (H10.out.1.upd0 u11) (And.intro (H10.out.2.1.trans u11 (by simp)) (H10.out.2.2.upd0 u11)))
          clear u11
          go_wp2
          clear hfd
          go_roundw
          case rel => exact ⟨k + 1, ⟨B.p, { B.F with w := v7 }, rv7, vs7⟩, b', D', want ++ [r], us ++ [.slice vo rl vc], by have := HS.out.2.1; omega, by go_num, HX.out.2.2.2.2.2.1, HX.out.2.2.2.2.2.2.1, by rw [H9.out.2.2.2.2.1], ⟨ao8, c8, by rw [H9.out.2.2.2.2.2]⟩, H11.out.1, H7.out.2.1, HP.out.1, H11.out.2.2, by have := H9.out.2.2.2.2.2; omega, H11.out.2.1, H9.out.2.2.2.1⟩
          case measure => simp [intOf]; omega
      · obtain rfl : k = m := by omega
        have hp := HX.out.2.2.2.2.2.1
        have hd := HX.out.2.2.2.2.2.2.1
        have hall := all_any wr B.F D HX.out.1.disk (by rw [HX.out.2.2.1.fuse]; decide)
        rw [hd] at hall
        have HALL := Lib.hid hall
        have HPD := Lib.hid (And.intro hp hd)
        clear hall hp hd
        go_wp2_with fail
        refine HALL.out.mono ?_
        rintro e w5 ⟨ao5, c5, vs5, rfl, r5', u5⟩
        obtain ⟨nl, hnl⟩ : ∃ nl, D.now.length = nl := ⟨_, rfl⟩
        have hnlm : nl = mm := by rw [← hnl]; exact HX.out.2.2.1.len
        have h64 := HX.out.1.disk.ok.n64
        have hrd := read_all_any w5 ao5 nl c5 vs5 D.now (by have := own_sl r5'.row; rw [hnl] at this; exact this) r5'.all.reads h64 hnl (by omega)
        rw [HX.out.2.2.1.read] at hrd
        rw [hnl]
        have H5 := Lib.hid (And.intro hrd (And.intro (HX.out.2.2.2.2.1.trans u5 (by simp)) (And.intro (HX.out.1.upd0 u5) (And.intro (HX.out.2.2.2.1.upd0 u5) hnlm))))
        clear hrd u5 r5' hnl hnlm h64 HALL
        go_wp2_with fail
        refine H5.out.1.mono ?_
        rintro e w6 ⟨ao6, c6, vs6, mo, rfl, r6, u6⟩
        dsimp only at r6 ⊢
        have hwl := HX.out.2.2.2.2.2.2.2.1
        have hbn := HX.out.2.2.2.2.2.2.2.2.1
        have hrm := HX.out.2.2.2.2.2.2.2.2.2.1
        have hple := HX.out.2.2.1.le
        rw [hwl] at r6 ⊢
        rw [hbn] at hple ⊢
        have hat : (mm : Int) - (rm : Int) = (bn' : Int) := by omega
        have hmml2 : rm ≤ mm := by omega
        have hwl3 : wl ≤ 30 := by omega
        have H6 := Lib.hid (And.intro r6 (And.intro (H5.out.2.1.trans u6 (by simp)) (And.intro (H5.out.2.2.1.upd0 u6) (And.intro (H5.out.2.2.2.1.upd0 u6) hwl))))
        have HAT := Lib.hid hat
        clear r6 u6 hbn hrm hwl hat
        go_wp2_with fail
        have hrec := records_any w6 B b D H6.out.2.2.1
        rw [HX.out.2.2.1.recs, HPD.out.1] at hrec
        refine hrec.mono ?_
        clear hrec
        rintro e w7 ⟨ao7, c7, vs7, rfl, r7, u7⟩
        rw [H6.out.2.2.2.2] at r7 ⊢
        have hW7 := H6.out.2.2.2.1.upd0 u7
        have hsame := same_any w7 ao7 wo wl c7 wl wc vs7 us want want (by have := own_sl r7.row; rw [H6.out.2.2.2.2] at this; exact this) H6.out.2.2.2.2 (by have := own_sl hW7.row; rw [H6.out.2.2.2.2] at this; exact this) H6.out.2.2.2.2 (by omega) (by omega) (by have := r7.each; rw [H6.out.2.2.2.2] at this; exact this) (by have := hW7.each; rw [H6.out.2.2.2.2] at this; exact this)
        rw [decide_eq_true (rfl : want = want)] at hsame
        have hU7 := H6.out.2.1.trans u7 (by simp)
        have H7 := Lib.hid (And.intro hsame (And.intro hU7 (And.intro (H6.out.2.2.1.upd0 u7) (And.intro hW7 (H6.out.1.upd0 u7)))))
        clear hsame hU7 hW7 r7 u7
        go_wp2_with fail
        refine H7.out.1.mono ?_
        rintro e w8 ⟨rfl, u8⟩
        have hW8 := H7.out.2.2.2.1.upd0 u8
        have hr8 := H7.out.2.2.2.2.upd0 u8
        have hsame := same_any w8 ao6 wo wl c6 wl wc vs6 us want want (by have := own_sl hr8.row; rw [H6.out.2.2.2.2] at this; exact this) H6.out.2.2.2.2 (by have := own_sl hW8.row; rw [H6.out.2.2.2.2] at this; exact this) H6.out.2.2.2.2 (by omega) (by omega) (by have := hr8.each; rw [H6.out.2.2.2.2] at this; exact this) (by have := hW8.each; rw [H6.out.2.2.2.2] at this; exact this)
        rw [decide_eq_true (rfl : want = want)] at hsame
        have H8 := Lib.hid (And.intro hsame (And.intro (H7.out.2.1.trans u8 (by simp)) (And.intro (H7.out.2.2.1.upd0 u8) hW8)))
        clear hsame hW8 hr8 u8
        go_wp2_with fail
        refine H8.out.1.mono ?_
        rintro e w9 ⟨rfl, u9⟩
        have H9 := Lib.hid (And.intro (H8.out.2.1.trans u9 (by simp)) (And.intro (H8.out.2.2.1.upd0 u9) (H8.out.2.2.2.upd0 u9)))
        clear u9
        go_wp2_with fail
        have hsec := sectors_any w9 B.F D H9.out.2.1.disk
        rw [HPD.out.2, HX.out.2.2.1.len] at hsec
        refine hsec.mono ?_
        clear hsec
        rintro e w10 ⟨rfl, rfl⟩
        have hat := HAT.out
        go_wp2_with fail
        clear hat
        obtain ⟨T, hT⟩ : ∃ T, hashB want = T := ⟨_, rfl⟩
        have hbT : b.hash = T := by rw [HX.out.2.2.1.hashB, hT]
        have hTl : T.length = 32 := by rw [← hbT]; exact H9.out.2.1.hash
        have hhead := bhead_any w9 _ _ _ H9.out.2.1
        rw [HX.out.2.2.1.recs, H6.out.2.2.2.2, HPD.out.1, hbT] at hhead
        have HT := Lib.hid (And.intro hT (And.intro hTl hhead))
        clear hT hbT hTl hhead
        refine HT.out.2.2.mono ?_
        rintro e w10 ⟨rfl, u10⟩
        have hfd := fun w => field_hash w T wl HT.out.2.1
        have H10 := Lib.hid (And.intro (H9.out.1.trans u10 (by simp)) (And.intro (H9.out.2.1.upd0 u10) (H9.out.2.2.upd0 u10)))
        clear u10
        go_wp2_with fail
        clear hfd
        have hW10 := H10.out.2.2
        have hwl := H6.out.2.2.2.2
        have hhash := rhash_any w10 wo wl wc us want (by have := own_sl hW10.row; rw [hwl] at this; exact this) hwl (by omega) (fun i hi => by
          obtain ⟨u, h1, h2⟩ := hW10.each i (by omega)
          refine ⟨u, h1, h2, ?_⟩
          have hi2 : i < want.length := by omega
          have := HX.out.2.2.1.lens want[i] (List.getElem_mem hi2)
          rw [List.getD_eq_getElem?_getD, List.getElem?_eq_getElem hi2, Option.getD_some]; omega)
        rw [HT.out.1] at hhash
        have HH := Lib.hid hhash
        clear hhash hW10 hwl
        refine HH.out.mono ?_
        rintro e w11 ⟨rfl, u11⟩
        have hEq : ∀ w, (binOp .eql 36 (.agg (bsArr T)) (.agg (bsArr T))).run Tryd.prog w = .ok (.bool true) w := fun w => by
          have := eq_hash w T T HT.out.2.1 HT.out.2.1
          rw [beq_self_eq_true] at this
          exact this
        have H11 := Lib.hid (And.intro (H10.out.1.trans u11 (by simp)) (H10.out.2.1.upd0 u11))
        clear u11
        go_wp2_with fail
        clear hEq
        have hwt := waits_any w11 B.F D H11.out.2.disk
        rw [HPD.out.2, HX.out.2.2.1.waits] at hwt
        refine hwt.mono ?_
        clear hwt
        rintro e w12 ⟨rfl, rfl⟩
        go_wp2
        go_ret
        exact ⟨rfl, H11.out.1⟩
end Go.Proofs.YtnfnaedoejgpiaaDoor
