/- A disk whose power goes, and a crash. -/
import Derived.Test.YtnfnaedoejgpiaaDoorDisk
import Derived.Test.YtnfnaedoejgpiaaDoorCrash
import Derived.Test.YtnfnaedoejgpiaaDoorLawAll
namespace Go.Proofs.YtnfnaedoejgpiaaDoor
open Go.RowKit

theorem DiskS.fused_zero {D : DiskS} (h : D.fuse = 0) (n : Int) : D.fused n = D := by
  unfold DiskS.fused; rw [if_pos h, ← h]
theorem fused_at {w : World} {F : DiskF} {D : DiskS} {n : Int} (h : DiskAt w F D) (h0 : D.fuse ≠ 0) (hn : -9223372036854775808 ≤ n ∧ n ≤ 9223372036854775807) : DiskAt (w.setCell ⟨F.d, 0, none⟩ (.int .i64 (max n (-1)))) F (D.fused n) ∧ Upd [F.d] w (w.setCell ⟨F.d, 0, none⟩ (.int .i64 (max n (-1)))) := by
  have u := upd_set (Upd.refl [F.d] w) (b := F.d) (i := 0) (.inl (by simp)) (.int .i64 (max n (-1)))
  have hdf := h.top.ne h.fl (by decide)
  have hdn := h.top.ne h.nw (by decide)
  have hwd := own_ne h.ws h.top (by decide)
  have t := h.top.set 0 (.int .i64 (max n (-1)))
  refine ⟨⟨⟨h.ok.len, h.ok.f64, h.ok.n64, h.ok.w64, h.ok.few, ?_⟩, ?_, h.fl.upd u (by simp; omega), h.nw.upd u (by simp; omega), own_upd h.ws u (only hwd), h.ne⟩, u⟩
  · unfold DiskS.fused; dsimp only; rw [if_neg h0]; omega
  · unfold DiskS.fused; dsimp only; rw [if_neg h0]
    exact t
theorem fuse_any (w : World) (F : DiskF) (D : DiskS) (n : Int) (h : DiskAt w F D) (hn : -9223372036854775808 ≤ n ∧ n ≤ 9223372036854775807) :
    Calls Tryd.prog 24 #[.pointer (some ⟨F.d, 0, none⟩), .int .i64 n] w fun e w' => e = .returned (.tuple #[]) ∧ DiskAt w' F (D.fused n) ∧ Upd [F.d] w w' := by
  have c0 := h.top.cell (i := 0) rfl
  have f0 := h.top.frozen 0
  have HS := Lib.hid (And.intro h hn)
  clear h hn
  go_enter Tryd.func24, Tryd.ntmps24
  go_wp2_with fail
  refine (off_any _ _ _ _ c0).mono ?_; rintro e w' ⟨rfl, rfl⟩
  rcases Decidable.em (D.fuse = 0) with h0 | h0
  · have hb : (D.fuse == 0) = true := by simpa using h0
    have HZ := Lib.hid h0
    clear h0
    go_wp2
    go_end0
    refine ⟨rfl, ?_, Upd.refl _ _⟩
    rw [DiskS.fused_zero HZ.out]; exact HS.out.1
  · have hb : (D.fuse == 0) = false := by simpa using h0
    have HZ := Lib.hid (fused_at HS.out.1 h0 HS.out.2)
    clear h0
    have hn2 := HS.out.2
    rcases Int.lt_or_le (-1) n with hlt | hle
    · have hmax : max n (-1) = n := by omega
      have HM := Lib.hid hmax
      clear hmax hn2
      go_wp2
      all_goals first | (exfalso; omega) | (go_end0; have Z := HZ.out; rw [HM.out] at Z; exact ⟨rfl, Z.1, Z.2⟩)
    · have hmax : max n (-1) = -1 := by omega
      have HM := Lib.hid hmax
      clear hmax hn2
      go_wp2
      all_goals
        go_end0
        have Z := HZ.out
        rw [HM.out] at Z
        first
          | exact ⟨rfl, Z.1, Z.2⟩
          | rw [show (-1 : Int) = n by omega] at Z
            exact ⟨rfl, Z.1, Z.2⟩
theorem crashGo_64 : ∀ (ws : List (Nat × List UInt8)) (i : Nat) (pick : List Bool) (cur : List (List UInt8)), (∀ w ∈ ws, w.2.length = 64) → (∀ s ∈ cur, s.length = 64) → (crashGo ws i pick cur).length = cur.length ∧ ∀ s ∈ crashGo ws i pick cur, s.length = 64
  | [], _, _, cur, _, h => ⟨rfl, h⟩
  | w :: ws, i, pick, cur, hw, h => by
    rw [crashGo]
    have := crashGo_64 ws (i + 1) pick (if pick.getD i false = true then cur.set w.1 w.2 else cur) (fun x hx => hw x (by simp [hx])) (by
      split
      · intro s hs
        rcases List.mem_or_eq_of_mem_set hs with hs | rfl
        · exact h s hs
        · exact hw w (by simp)
      · exact h)
    refine ⟨this.1.trans ?_, this.2⟩
    split <;> simp
theorem DiskS.crash_ok {D : DiskS} (h : D.Ok) (pick : List Bool) : (D.crash pick).Ok := by
  have hc := crashGo_64 D.waits 0 pick D.flushed (fun w hw => (h.w64 w hw).1) h.f64
  exact ⟨rfl, hc.2, hc.2, by simp [DiskS.crash], by show (crashGo D.waits 0 pick D.flushed).length ≤ _; rw [hc.1, h.len]; exact h.few, by show (-9223372036854775808 : Int) ≤ -1; decide, by show (-1 : Int) ≤ 9223372036854775807; decide⟩
theorem flatMap_at' {α : Type} {f : α → List Value} {n : Nat} : ∀ {l : List α} (hf : ∀ a ∈ l, (f a).length = n) (i j : Nat) (hi : i < l.length), j < n → (l.flatMap f)[i * n + j]? = (f l[i])[j]?
  | a :: l, hf, 0, j, _, hj => by
    rw [List.flatMap_cons, Nat.zero_mul, Nat.zero_add, List.getElem?_append_left (by rw [hf a (by simp)]; exact hj)]; rfl
  | a :: l, hf, i + 1, j, hi, hj => by
    have ha := hf a (by simp)
    rw [List.flatMap_cons, List.getElem?_append_right (by rw [ha, Nat.add_mul]; omega), ha, show (i + 1) * n + j - n = i * n + j by rw [Nat.add_mul]; omega]
    exact flatMap_at' (fun x hx => hf x (by simp [hx])) i j (by simpa using hi) hj
def RelCrash (W : World) (d bf bn : Nat) (wv : Value) (D : DiskS) (pick : List Bool) (R : List (List UInt8)) (i : Value) (w : World) : Prop :=
  ∃ (k : Nat) (cur : List (List UInt8)), k ≤ D.waits.length ∧ i = .int .i64 k ∧ cur.length = D.now.length ∧ (∀ s ∈ cur, s.length = 64) ∧ crashGo (D.waits.drop k) k pick cur = R ∧
    Blk w bn (rowCells cur) 77 ∧ Blk w d #[.int .i64 D.fuse, .slice (some ⟨bf, 0, none⟩) D.now.length D.now.length, .slice (some ⟨bn, 0, none⟩) D.now.length D.now.length, wv] 69 ∧ Blk w bf (rowCells D.flushed) 77 ∧ Upd [bn] W w
set_option maxRecDepth 4000 in
set_option maxHeartbeats 2000000 in
theorem crash_any (w : World) (F : DiskF) (D : DiskS) (pv : Value) (pick : List Bool) (h : DiskAt w F D) (hp : Sl w pv pick.length 1 (pick.map Value.bool)) (hpF : ∀ k ∈ F.blks, blkE pv ≠ k + 1) (hw : D.waits.length ≤ 1000000) :
    Calls Tryd.prog 25 #[.pointer (some ⟨F.d, 0, none⟩), pv] w fun e w' => e = .returned (.tuple #[]) ∧ DiskAt w' { F with w := .slice none 0 0 } (D.crash pick) ∧ Upd F.blks w w' := by
  obtain ⟨d, bf, bn, wv⟩ := F
  obtain ⟨wo, wc, rfl, -⟩ := own_sl h.ws
  obtain ⟨po, pc, rfl, hpc, hpm, -⟩ := id hp
  have hpm2 : pick.length ≤ 9223372036854775807 := by have : maxLen = 9223372036854775807 := rfl; omega
  obtain ⟨wn, hwn⟩ : ∃ n, D.waits.length = n := ⟨_, rfl⟩
  obtain ⟨pl, hpl⟩ : ∃ n, pick.length = n := ⟨_, rfl⟩
  have T := h.top
  have hdf := h.top.ne h.fl (by decide)
  have hdn := h.top.ne h.nw (by decide)
  have hfn := h.ne
  have hwd := own_ne h.ws h.top (by decide)
  have hwf := own_ne h.ws h.fl (by decide)
  have hwnn := own_ne h.ws h.nw (by decide)
  dsimp only at T hdf hdn hfn hwd hwf hwnn
  have H := Lib.hid (And.intro h (And.intro hp (And.intro hpF (And.intro hwn hpl))))
  have NE := Lib.hid (And.intro hdf (And.intro hdn (And.intro hfn (And.intro hwd (And.intro hwf hwnn)))))
  rw [hwn] at hw T ⊢
  rw [hpl] at hpm2 ⊢
  clear h hp hpF hwn hpl hdf hdn hfn hwd hwf hwnn hpc hpm
  go_enter Tryd.func25, Tryd.ntmps25
  go_upto_region 0 with (fail)
  refine wp_region_ord (S := fun w => Blk w d #[.int .i64 D.fuse, .slice (some ⟨bf, 0, none⟩) D.now.length D.now.length, .slice (some ⟨bn, 0, none⟩) D.now.length D.now.length, .slice wo wn wc] 69) (.take 0 (.take 1 (.take 2 (.take 3 (.take 4 (.take 5 (.take 6 (.take 7 (.act 8 .done))))))))) (by kernel_rfl) (by kernel_rfl) (fun _ _ d _ _ h => by cases d <;> exact h) ?_
  refine ord_get d 0 2 (.slice (some ⟨bn, 0, none⟩) D.now.length D.now.length) rfl rfl rfl T (field_disk d 2 (by decide)) (fun w hw => run_loadVar_one Tryd.underlying66 rfl (Blk.cell hw (i := 2) rfl)) ?_
  refine ord_get d 0 1 (.slice (some ⟨bf, 0, none⟩) D.now.length D.now.length) rfl rfl rfl T (field_disk d 1 (by decide)) (fun w hw => run_loadVar_one Tryd.underlying66 rfl (Blk.cell hw (i := 1) rfl)) ?_
  refine ord_act rfl ?_
  simp only [Act.put, List.setIfInBounds_toArray, List.set_cons_zero, List.set_cons_succ]
  refine wpList_copy_blk rfl (.tmp 9) (.tmp 13) 66 66 rfl 77 64 Tryd.underlying66 (by kernel_rfl) bn bf D.now.length rfl rfl H.out.1.nw H.out.1.fl (by rw [rowCells_size H.out.1.ok.f64, H.out.1.ok.len]) (rowCells_size H.out.1.ok.n64) (rowCells_one _) ?_
  intro w1 b1 u1
  have hne := NE.out
  have T1 := T.upd u1.undrew (by simp; omega)
  refine ⟨fun _ => T1, ?_⟩
  have f1 := H.out.1.fl.upd u1.undrew (by have := NE.out.2.2.1; simp; exact this)
  have c3 := T1.cell (i := 3) rfl
  have G := Lib.hid (And.intro T1 (And.intro b1 (And.intro f1 u1.undrew)))
  clear T T1 b1 u1 f1 hne
  first | (show Exit.inBlock _ _ Exit.normal _ _) | (show Exit.then _ _ Exit.normal _ _)
  go_wp2_with fail
  clear c3
  go_loopw [20] (RelCrash w d bf bn (.slice wo wn wc) D pick (crashGo D.waits 0 pick D.flushed)) (fun i _ => ((wn : Int) - intOf i).toNat)
  case atStart => exact ⟨0, D.flushed, by omega, rfl, H.out.1.ok.len, H.out.1.ok.f64, rfl, G.out.2.1, G.out.1, G.out.2.2.1, G.out.2.2.2⟩
  case round =>
    obtain ⟨k, cur, hk, rfl, hcl, hc64, hgo, hbn, hbd, hbf, hu⟩ := hrel
    rw [H.out.2.2.2.1] at hk
    rcases Nat.lt_or_ge k wn with hlt | hge
    · have hkl : k < D.waits.length := by have := H.out.2.2.2.1; omega
      have hdr : D.waits.drop k = D.waits[k] :: D.waits.drop (k + 1) := List.drop_eq_getElem_cons hkl
      rw [hdr, crashGo] at hgo
      have hws := own_sl H.out.1.ws
      dsimp only at hws
      have hws2 := own_upd H.out.1.ws hu (by have := NE.out.2.2.2.2.2; simp; omega)
      have hwl : ∀ x ∈ D.waits, (Value.int .i64 x.1 :: x.2.map bv).length = 65 := fun x hx => by have := (H.out.1.ok.w64 x hx).1; simp [this]
      have h1 := H.out.1.ok.w64 D.waits[k] (List.getElem_mem hkl)
      have hsl2 := own_sl hws2
      rw [H.out.2.2.2.1] at hsl2
      obtain ⟨g, o, hwo, hg, hcell⟩ := Sl.addr hsl2 (by omega)
      subst hwo
      have hcells : ∀ j u, (Value.int .i64 D.waits[k].1 :: D.waits[k].2.map bv)[j]? = some u → wr.cell? (Addr.add ⟨g, o + k * 65, none⟩ j) = some u := fun j u hj => by
        rw [Addr.add_lit, Nat.add_assoc]
        refine hcell _ u ?_
        have hj65 : j < 65 := by have := (List.getElem?_eq_some_iff.1 hj).1; rw [hwl _ (List.getElem_mem hkl)] at this; exact this
        rw [← hj]
        exact flatMap_at' (n := 65) hwl k j hkl hj65
      have HX := Lib.hid (And.intro hgo (And.intro hcells (And.intro h1 (And.intro (hwl _ (List.getElem_mem hkl)) (And.intro hc64 (And.intro hbn (And.intro hbd (And.intro hbf hu))))))))
      clear hdr hgo hws hws2 hwl h1 hsl2 hcell hcells hc64 hbn hbd hbf hu hg
      generalize D.waits[k] = x at *
      have hi65 : (Tryd.prog.info? 79).map (·.size) = some (Value.int .i64 x.1 :: x.2.map bv).length := by rw [HX.out.2.2.2.1]; kernel_rfl
      have ha65 : ((Value.int .i64 x.1 :: x.2.map bv).all fun u => u.oneCell') = true := by rw [List.all_cons]; exact List.all_eq_true.2 (bv_one x.2)
      have HY := Lib.hid (And.intro hi65 ha65)
      clear hi65 ha65
      obtain ⟨q, hq⟩ : ∃ q, wr.heap.size = q := ⟨_, rfl⟩
      have HQ := Lib.hid hq
      clear hq
      have hx1 : x.1 < D.now.length := HX.out.2.2.1.2
      have hnow : D.now.length ≤ 8192 := H.out.1.ok.few
      go_wp2_with (first | (with_reducible refine wpList_load_cells (o := ⟨some 24, _, _, _, _, _⟩) rfl 79 (.tmp 23) rfl ⟨g, o + k * 65, none⟩ rfl _ (Value.int .i64 x.1 :: x.2.map bv) HX.out.2.1 Tryd.underlying79 rfl HY.out.1 ?_) | (with_reducible refine wpList_store_blk (o := ⟨none, .store 79 (.tmp 5) (.tmp 24), _, _, _, _⟩) rfl 79 (.tmp 5) (.tmp 24) rfl (b := wr.heap.size) 0 rfl (Blk.new wr _ _) (.agg (Value.int .i64 x.1 :: x.2.map bv).toArray) rfl (Value.int .i64 x.1 :: x.2.map bv) rfl ?_ HY.out.2 HY.out.1 ?_))
      · rw [HX.out.2.2.2.1]; decide
      intro w2 b2 u2
      rw [splice_all (by rw [HX.out.2.2.2.1]; decide)] at b2
      have u2f := u2.fresh
      have hbn2 := HX.out.2.2.2.2.2.1.upd u2f (by simp)
      have hbd2 := HX.out.2.2.2.2.2.2.1.upd u2f (by simp)
      have hbf2 := HX.out.2.2.2.2.2.2.2.1.upd u2f (by simp)
      have hu2 := HX.out.2.2.2.2.2.2.2.2.trans u2f (by simp)
      have hqn := HX.out.2.2.2.2.2.1.lt
      have hqd := HX.out.2.2.2.2.2.2.1.lt
      have hp2 := H.out.2.1.updE hu2 (fun j hj => by rw [List.mem_singleton.1 hj]; exact H.out.2.2.1 bn (by simp [DiskF.blks]))
      rw [H.out.2.2.2.2] at hp2
      rw [HQ.out] at b2 hqn hqd ⊢
      have H2 := Lib.hid (And.intro b2 (And.intro hbn2 (And.intro hbd2 (And.intro hbf2 (And.intro hu2 (And.intro hp2 (And.intro hqn hqd)))))))
      clear b2 u2 u2f hbn2 hbd2 hbf2 hu2 hqn hqd hp2
      have skip : pick.getD k false = false → RelCrash w d bf bn (.slice (some ⟨g, o, none⟩) wn wc) D pick (crashGo D.waits 0 pick D.flushed) (.int .i64 ((k : Int) + 1)) w2 := fun hpk => by
        have hgo := HX.out.1
        rw [hpk, if_neg (by decide)] at hgo
        exact ⟨k + 1, cur, by have := H.out.2.2.2.1; omega, by go_num, hcl, HX.out.2.2.2.2.1, hgo, H2.out.2.1, H2.out.2.2.1, H2.out.2.2.2.1, H2.out.2.2.2.2.1⟩
      have SKIP := Lib.hid skip
      clear skip
      rcases Nat.lt_or_ge k pl with hkp | hkp
      · have hkp2 : k < pick.length := by have := H.out.2.2.2.2; omega
        obtain ⟨pb, po2, hpo, hpbl, hpc⟩ := Sl.addr H2.out.2.2.2.2.2.1 (by omega)
        subst hpo
        have hck := hpc k (.bool pick[k]) (by simp [hkp2])
        have hgd : pick.getD k false = pick[k] := by rw [List.getD_eq_getElem?_getD, List.getElem?_eq_getElem hkp2, Option.getD_some]
        obtain ⟨pkb, hpkb⟩ : ∃ y, pick[k] = y := ⟨_, rfl⟩
        rw [hpkb] at hck hgd
        have HG := Lib.hid hgd
        clear hpc hgd hpkb hpbl
        cases pkb with
        | false =>
          go_wp2
          go_roundw
          case rel => exact SKIP.out HG.out
          case measure => simp [intOf]; omega
        | true =>
          go_upto_region 5 with (fail)
          have S0 : Blk w2.drew d #[.int .i64 D.fuse, .slice (some ⟨bf, 0, none⟩) D.now.length D.now.length, .slice (some ⟨bn, 0, none⟩) D.now.length D.now.length, .slice (some ⟨g, o, none⟩) wn wc] 69 ∧ Blk w2.drew q (Value.int .i64 x.1 :: x.2.map bv).toArray 79 := ⟨H2.out.2.2.1, H2.out.1⟩
          refine wp_region_ord (S := fun w => Blk w d #[.int .i64 D.fuse, .slice (some ⟨bf, 0, none⟩) D.now.length D.now.length, .slice (some ⟨bn, 0, none⟩) D.now.length D.now.length, .slice (some ⟨g, o, none⟩) wn wc] 69 ∧ Blk w q (Value.int .i64 x.1 :: x.2.map bv).toArray 79) (.take 0 (.take 1 (.take 2 (.take 3 (.take 4 (.take 5 (.take 6 (.take 7 (.take 8 (.act 9 .done)))))))))) (by kernel_rfl) (by kernel_rfl) (fun _ _ d _ _ h => by cases d <;> exact h) ?_
          iterate 7 (refine ord_ex rfl rfl S0 ?_; apply Exists.intro; refine ⟨fun _ _ => ?_, ?_⟩; (focus (rename_i w hw; have c2 := Blk.cell hw.1 (i := 2) (v := .slice (some ⟨bn, 0, none⟩) D.now.length D.now.length) rfl; have q0 := Blk.cell hw.2 (i := 0) (v := .int .i64 x.1) rfl; go_simp; rfl)); simp only [Act.put, List.setIfInBounds_toArray, List.set_cons_zero, List.set_cons_succ, List.getElem_toArray, List.getElem_cons_succ, List.getElem_cons_zero])
          have hl64 : (Tryd.prog.info? 77).map (·.size) = some (x.2.map bv).length := by rw [List.length_map, HX.out.2.2.1.1]; kernel_rfl
          refine ord_load_blk rfl rfl rfl q 1 (by first | rfl | (simp [Act.eval]; done)) _ 79 (fun _ h => h.2) _ (x.2.map bv) (fun j u h => by rw [Nat.add_comm]; simpa using h) Tryd.underlying77 rfl hl64 S0 ?_
          simp only [Act.put, List.setIfInBounds_toArray, List.set_cons_zero, List.set_cons_succ, List.getElem_toArray, List.getElem_cons_succ, List.getElem_cons_zero]
          (refine ord_ex rfl rfl S0 ?_; apply Exists.intro; refine ⟨fun _ _ => ?_, ?_⟩; (focus (rename_i w hw; skip; go_simp; rfl)); simp only [Act.put, List.setIfInBounds_toArray, List.set_cons_zero, List.set_cons_succ, List.getElem_toArray, List.getElem_cons_succ, List.getElem_cons_zero])
          refine ord_act rfl ?_
          refine wpList_store_blk rfl 77 (.tmp 43) (.tmp 42) rfl (b := bn) (x.1 * 64) (by first | rfl | (simp [Act.eval]; done)) H2.out.2.1 (.agg (x.2.map bv).toArray) (by first | rfl | (simp [Act.eval]; done)) (x.2.map bv) rfl ?_ (List.all_eq_true.2 (bv_one x.2)) hl64 ?_
          · rw [rowCells_size HX.out.2.2.2.2.1, List.length_map, HX.out.2.2.1.1, hcl]; omega
          intro w3 b3 u3
          rw [rowCells_set HX.out.2.2.2.2.1 (by rw [hcl]; exact hx1) HX.out.2.2.1.1] at b3
          refine ⟨fun h => Bool.noConfusion (h.symm.trans (by kernel_rfl : waitsAll _ _ _ = true)), ?_⟩
          have hne := NE.out
          have hu3 := u3.undrew
          have hbd3 := H2.out.2.2.1.upd hu3 (by simp; omega)
          have hbf3 := H2.out.2.2.2.1.upd hu3 (by simp; omega)
          have hU3 := H2.out.2.2.2.2.1.trans hu3 (by simp)
          have hgo := HX.out.1
          rw [HG.out, if_pos rfl] at hgo
          have h64' : ∀ s ∈ cur.set x.1 x.2, s.length = 64 := fun s hs => by
            rcases List.mem_or_eq_of_mem_set hs with hs | rfl
            · exact HX.out.2.2.2.2.1 s hs
            · exact HX.out.2.2.1.1
          have H3 := Lib.hid (And.intro b3 (And.intro hbd3 (And.intro hbf3 (And.intro hU3 (And.intro hgo h64')))))
          clear b3 u3 hu3 hbd3 hbf3 hU3 hgo h64' hne S0 hck hl64
          first | (show Exit.inBlock _ _ Exit.normal _ _) | (show Exit.then _ _ Exit.normal _ _)
          go_wp2
          go_roundw
          case rel => exact ⟨k + 1, cur.set x.1 x.2, by have := H.out.2.2.2.1; omega, by go_num, by rw [List.length_set]; exact hcl, H3.out.2.2.2.2.2, H3.out.2.2.2.2.1, H3.out.1, H3.out.2.1, H3.out.2.2.1, H3.out.2.2.2.1⟩
          case measure => simp [intOf]; omega
      · have hgd : pick.getD k false = false := by rw [List.getD_eq_getElem?_getD, List.getElem?_eq_none (by have := H.out.2.2.2.2; omega)]; rfl
        have HG := Lib.hid hgd
        clear hgd
        go_wp2
        go_roundw
        case rel => exact SKIP.out HG.out
        case measure => simp [intOf]; omega
    · have hkw : k = wn := by omega
      have hR : crashGo D.waits 0 pick D.flushed = cur := by
        rw [← hgo, hkw, ← H.out.2.2.2.1, List.drop_length]; rfl
      have HX := Lib.hid (And.intro hR (And.intro hc64 (And.intro hbn (And.intro hbd (And.intro hbf (And.intro hu hcl))))))
      clear hR hc64 hbn hbf hu hgo hcl
      go_upto_region 7 with (fail)
      have T := hbd.drew
      clear hbd
      refine wp_region_ord (S := fun w => Blk w d #[.int .i64 D.fuse, .slice (some ⟨bf, 0, none⟩) D.now.length D.now.length, .slice (some ⟨bn, 0, none⟩) D.now.length D.now.length, .slice wo wn wc] 69) (.take 0 (.take 1 (.take 2 (.take 3 (.take 4 (.take 5 (.take 6 (.take 7 (.act 8 .done))))))))) (by kernel_rfl) (by kernel_rfl) (fun _ _ d _ _ h => by cases d <;> exact h) ?_
      refine ord_get d 0 1 (.slice (some ⟨bf, 0, none⟩) D.now.length D.now.length) rfl rfl rfl T (field_disk d 1 (by decide)) (fun w hw => run_loadVar_one Tryd.underlying66 rfl (Blk.cell hw (i := 1) rfl)) ?_
      refine ord_get d 0 2 (.slice (some ⟨bn, 0, none⟩) D.now.length D.now.length) rfl rfl rfl T (field_disk d 2 (by decide)) (fun w hw => run_loadVar_one Tryd.underlying66 rfl (Blk.cell hw (i := 2) rfl)) ?_
      refine ord_act rfl ?_
      simp only [Act.put, List.setIfInBounds_toArray, List.set_cons_zero, List.set_cons_succ]
      refine wpList_copy_blk rfl (.tmp 48) (.tmp 52) 66 66 rfl 77 64 Tryd.underlying66 (by kernel_rfl) bf bn D.now.length rfl rfl HX.out.2.2.2.2.1 HX.out.2.2.1 (by rw [rowCells_size HX.out.2.1, HX.out.2.2.2.2.2.2]) (by rw [rowCells_size H.out.1.ok.f64, H.out.1.ok.len]) (rowCells_one _) ?_
      intro w3 b3 u3
      have hne := NE.out
      have u3' := u3.undrew
      have T3 := HX.out.2.2.2.1.upd u3' (by simp; omega)
      refine ⟨fun _ => T3, ?_⟩
      have n3 := HX.out.2.2.1.upd u3' (by simp; omega)
      have hU3 : Upd [bf, bn] w w3 := (HX.out.2.2.2.2.2.1.more (T := [bf, bn]) (by simp)).trans u3' (by simp)
      have c3 := T3.cell (i := 3) rfl
      have fz3 := T3.frozen 3
      have T4 := T3.set 3 (.slice none 0 0)
      have u4 := upd_set (Upd.refl [d] w3) (b := d) (i := 3) (.inl (by simp)) (.slice none 0 0)
      have H3 := Lib.hid (And.intro T3 (And.intro b3 (And.intro n3 (And.intro hU3 (And.intro T4 u4)))))
      clear T T3 b3 u3 u3' n3 hU3 T4 u4 hne
      first | (show Exit.inBlock _ _ Exit.normal _ _) | (show Exit.then _ _ Exit.normal _ _)
      go_upto_region 9 with (fail)
      obtain ⟨w4, hw4⟩ : ∃ y, w3.setCell ⟨d, 3, none⟩ (.slice none 0 0) = y := ⟨_, rfl⟩
      rw [hw4] at H3 ⊢
      clear c3 fz3 hw4
      have c0 := H3.out.2.2.2.2.1.cell (i := 0) (v := .int .i64 D.fuse) rfl
      have f0 := H3.out.2.2.2.2.1.frozen 0
      go_wp2
      go_end0
      have hne := NE.out
      have u5 := upd_set (Upd.refl [d] w4) (b := d) (i := 0) (.inl (by simp)) (.int .i64 (-1))
      have T5 := H3.out.2.2.2.2.1.set 0 (.int .i64 (-1))
      have hl : (D.crash pick).now.length = D.now.length := by show (crashGo D.waits 0 pick D.flushed).length = _; rw [HX.out.1]; exact HX.out.2.2.2.2.2.2
      have e1 : (D.crash pick).now = cur := HX.out.1
      have e2 : (D.crash pick).flushed = cur := HX.out.1
      have U45 := H3.out.2.2.2.2.2.trans u5 (by simp)
      refine ⟨rfl, ⟨DiskS.crash_ok H.out.1.ok pick, ?_, ?_, ?_, World.ownsRow_nil _ _ _ _, H.out.1.ne⟩, ?_⟩
      · rw [hl]; exact T5
      · rw [e2]; exact H3.out.2.1.upd U45 (by simp; omega)
      · rw [e1]; exact H3.out.2.2.1.upd U45 (by simp; omega)
      · exact (H3.out.2.2.2.1.more (T := DiskF.blks ⟨d, bf, bn, .slice wo wn wc⟩) (by simp [DiskF.blks])).trans U45 (by simp [DiskF.blks])
end Go.Proofs.YtnfnaedoejgpiaaDoor
