/- A book is opened. -/
import Derived.Test.YtnfnaedoejgpiaaDoorAppend
namespace Go.Proofs.YtnfnaedoejgpiaaDoor
open Go.RowKit

theorem standGo_bd (num : Nat) : ∀ (ss : List (List UInt8)) (i : Nat) (all : List UInt8) (cnt ls : Nat), (standGo num ss i all cnt ls).2.2 ≤ i + ss.length ∧ (standGo num ss i all cnt ls).2.1 < 4294967296 ∧ (standGo num ss i all cnt ls).1.length ≤ all.length + 52 * ss.length
  | [], i, all, cnt, ls => by simp [standGo]
  | s :: ss, i, all, cnt, ls => by
    have hr := readS_lt s
    obtain ⟨p, hp⟩ : ∃ p, (readS s).1 = p := ⟨_, rfl⟩
    rw [hp] at hr
    obtain ⟨pn, pg, pi, pk, px⟩ := p
    obtain ⟨ls', h1⟩ : ∃ x, (if i = 0 then max ls pg else ls) = x := ⟨_, rfl⟩
    obtain ⟨cnt', h2⟩ : ∃ x, (if i = 0 then pk else cnt) = x := ⟨_, rfl⟩
    obtain ⟨g, hg⟩ : ∃ x, decide ((readS s).2 = true ∧ pn = num ∧ pi = i ∧ pk = cnt' ∧ 1 ≤ pk ∧ pk ≤ 79 ∧ pg = ls' ∧ (i + 1 = pk ∨ px.length = 52)) = x := ⟨_, rfl⟩
    rw [standGo_cons hp rfl h1 h2 hg]
    dsimp only at hr
    cases g
    · simp
    · rw [if_pos rfl]
      split
      · refine ⟨by simp; omega, hr.2.2.1, by simp; omega⟩
      · have := standGo_bd num ss (i + 1) (all ++ px) cnt' ls'
        refine ⟨by have := this.1; simp; omega, this.2.1, by have := this.2.2; simp at this ⊢; omega⟩
def openGo (ss : List (List UInt8)) (gen : Nat) : Nat → Nat → List (List UInt8) → List UInt8 → Nat → BookS
  | 0, next, recs, h, _ => ⟨gen, next, recs, h, false⟩
  | f + 1, next, recs, h, least =>
    let r := standS (ss.drop next) (recs.length + 1) least
    if r.2.2 = 0 ∨ 4096 < r.1.length then ⟨gen, next, recs, h, false⟩ else openGo ss gen f (next + r.2.2) (recs ++ [r.1]) (linkOf h r.1) r.2.1
/-- The book of some sectors. -/
def openS (ss : List (List UInt8)) : BookS := openGo ss (mostOf ss + 1) (ss.length + 1) 0 [] (List.replicate 32 0) 1
def OpenPost (W : World) (F : DiskF) (D : DiskS) (e : Ending) (w : World) : Prop :=
  if mostOf D.now = 4294967295 then e = .returned (.tuple #[.pointer none, .int .i64 13]) ∧ Upd [] W w
  else ∃ p rv vs, e = .returned (.tuple #[.pointer (some ⟨p, 0, none⟩), .int .i64 0]) ∧ BookAt w ⟨p, F, rv, vs⟩ (openS D.now) D ∧ Upd [] W w ∧ W.heap.size ≤ p ∧ (blkOf rv = 0 ∨ W.heap.size < blkOf rv) ∧ ∀ x ∈ vs, blkOf x = 0 ∨ W.heap.size < blkOf x
theorem run_slice_lo {P : Program} (w : World) {t e : TypeId} {size : Nat} (ht : P.underlying t = some (.slice e)) (hi : (P.info? e).map (·.size) = some size) (ao : Option Addr) (n c lo : Nat) (k : IntKind) (q : Int) (hq : q = lo) (hlo : lo ≤ n) :
    (Instr.sliceAt t (.slice ao n c) (some (.int k q)) none none).run P w = .ok (.slice (if c = lo then ao else ao.map (·.add (lo * size))) (n - lo) (c - lo)) w := by
  subst hq
  have he : P.elem t = e := by simp [Program.elem, ht]
  have ht' : P.underlying t = some (.slice (P.elem t)) := by rw [he]; exact ht
  rw [run_sliceAt_slice _ t _ _ _ _ ht', run_slice_l _ t ao n c ht' k lo (by omega) (by omega), he]
  cases hq : P.info? e with
  | none => simp [hq] at hi
  | some i =>
    have hs : i.size = size := by simpa [hq] using hi
    simp [sizeOf, typeInfo, hq, hs, sliced]
section
variable {P : Program} {md : Region.Mode} {ops : Array Oper} {S : World → Prop} {Q : Exit → Act → World → Prop}
theorem ord_slice_lo {i : Nat} {o : Oper} {r : Ord} {a : Act} {w : World} (ho : ops[i]? = some o) (hg : o.guard = none) {t : TypeId} {x y : Operand} (hx : o.op = .slice t x (some y) none none) {e : TypeId} {size : Nat} (ao : Option Addr) (n c lo : Nat) (k : IntKind) (q : Int) (he : a.eval x = .slice ao n c) (hy : a.eval y = .int k q) (hq : q = lo) (hlo : lo ≤ n)
    (ht : P.underlying t = some (.slice e)) (hi : (P.info? e).map (·.size) = some size) (hS : S w)
    (h : ∀ A, (c ≠ lo → A = ao.map (·.add (lo * size))) → wpOrd P md ops S Q r (a.put o.dst (.slice A (n - lo) (c - lo))) w) : wpOrd P md ops S Q (.take i r) a w :=
  ord_take ho hg hS (fun w _ => by
    have hr := run_slice_lo (P := P) w ht hi ao n c lo k q hq hlo
    unfold execOp; simp [hx, he, hy, hr]) (h (if c = lo then ao else ao.map (·.add (lo * size))) (fun hc => by rw [if_neg hc]))
end
/-- The number of the sector behind the records, as it stands in memory. -/
def nextAt (w : World) (p : Nat) : Nat := match w.cell? ⟨p, 2, none⟩ with | some (.int _ n) => n.toNat | _ => 0
def RelOpen (W : World) (p : Nat) (F : DiskF) (D : DiskS) (av : Value) (avs : List Value) (ss : List (List UInt8)) (gen : Nat) (R : BookS) (l : Value) (w : World) : Prop :=
  ∃ (f next least : Nat) (recs : List (List UInt8)) (h : List UInt8) (rv : Value) (vs : List Value), l = .int .i64 least ∧ BookAt w ⟨p, F, rv, vs⟩ ⟨gen, next, recs, h, false⟩ D ∧ Upd [] W w ∧ (blkOf rv = 0 ∨ p < blkOf rv) ∧ (∀ x ∈ vs, blkOf x = 0 ∨ p < blkOf x) ∧ RowsAt w W.heap.size av avs ss ∧ ss.length - next < f ∧ least < 4294967296 ∧ openGo ss gen f next recs h least = R
set_option maxRecDepth 4000 in
set_option maxHeartbeats 2000000 in
theorem open_any (w : World) (F : DiskF) (D : DiskS) (hD : DiskAt w F D) (hf : D.fuse ≠ 0) (ht : Table w) :
    Calls Tryd.prog 10 #[.pointer (some ⟨F.d, 0, none⟩)] w (OpenPost w F D) := by
  obtain ⟨ss, hss⟩ : ∃ ss, D.now = ss := ⟨_, rfl⟩
  have hS := bsectors_any w F D hD hf
  have hfew := hD.ok.few
  have h64 := hD.ok.n64
  rw [hss] at hS hfew h64
  have hml := mostOf_lt ss
  obtain ⟨most, hmost⟩ : ∃ most, mostOf ss = most := ⟨_, rfl⟩
  have HS := Lib.hid (And.intro hD (And.intro hS (And.intro h64 (And.intro hss (And.intro hmost ht)))))
  have HF := Lib.hid hf
  rw [hmost] at hml
  clear hD hS h64 hss ht hf hmost
  go_enter Tryd.func10, Tryd.ntmps10
  go_wp2_with fail
  refine HS.out.2.1.mono ?_
  rintro e w1 ⟨ao, c, vs, rfl, h1, h2⟩
  have hlen := h1.len
  have H1 := Lib.hid (And.intro h1 h2)
  clear h1 h2
  rw [HS.out.2.2.2.2.1]
  rcases Decidable.em (most = 4294967295) with hm | hm
  · have hmi : ((most : Int) == 4294967295) = true := by rw [beq_iff_eq]; omega
    have HM := Lib.hid hm
    clear hm
    go_wp2
    go_ret2
    unfold OpenPost
    rw [HS.out.2.2.2.1, HS.out.2.2.2.2.1, if_pos HM.out]
    exact ⟨rfl, H1.out.2⟩
  · have hmi : ((most : Int) == 4294967295) = false := by rw [beq_eq_false_iff_ne]; omega
    have HM := Lib.hid hm
    clear hm
    have hml2 : most + 1 < 4294967296 := by have := HM.out; omega
    go_wp2_with fail
    obtain ⟨q, hq⟩ : ∃ q, w1.heap.size = q := ⟨_, rfl⟩
    obtain ⟨w2, hw2⟩ : ∃ w2, w1.alloc (.cells (bookCells F.d (most + 1) 0 (.slice none 0 0) (List.replicate 32 0) 0 false) 60) = w2 := ⟨_, rfl⟩
    have hw2' : w1.alloc (.cells #[.pointer (some ⟨F.d, 0, none⟩), .int .i64 ((most : Int) + 1), .int .i64 0, .slice none 0 0, .int .u8 0, .int .u8 0, .int .u8 0, .int .u8 0, .int .u8 0, .int .u8 0, .int .u8 0, .int .u8 0, .int .u8 0, .int .u8 0, .int .u8 0, .int .u8 0, .int .u8 0, .int .u8 0, .int .u8 0, .int .u8 0, .int .u8 0, .int .u8 0, .int .u8 0, .int .u8 0, .int .u8 0, .int .u8 0, .int .u8 0, .int .u8 0, .int .u8 0, .int .u8 0, .int .u8 0, .int .u8 0, .int .u8 0, .int .u8 0, .int .u8 0, .int .u8 0, .int .i64 0, .bool false] 60) = w2 := hw2
    have b2 : Blk w2 q (bookCells F.d (most + 1) 0 (.slice none 0 0) (List.replicate 32 0) 0 false) 60 := by rw [← hw2]; exact Blk.newAt hq.symm _ _
    have u2 : Upd [] w1 w2 := by rw [← hw2]; exact (Upd.refl [] w1).alloc _
    have hU2 := H1.out.2.trans u2 (by simp)
    have B2 : BookAt w2 ⟨q, F, .slice none 0 0, []⟩ ⟨most + 1, 0, [], List.replicate 32 0, false⟩ D :=
      ⟨b2, HS.out.1.upd hU2 (by simp), RowsAt.nil _ _, by simp, by simp, by simp, by simp, hml2⟩
    rw [hw2', hq]
    have hall := H1.out.1.upd0 u2
    have hqw : w.heap.size ≤ q ∧ blkOf (.slice ao ss.length c) ≤ q := by have := H1.out.2.size; have := (own_lt H1.out.1.row).1; omega
    have H2 := Lib.hid (And.intro B2 (And.intro hU2 (And.intro hall hqw)))
    clear b2 u2 hU2 B2 hw2 hw2' hall hqw hq
    obtain ⟨R, hR⟩ : ∃ R, openGo ss (most + 1) (ss.length + 1) 0 [] (List.replicate 32 0) 1 = R := ⟨_, rfl⟩
    have HR := Lib.hid hR
    clear hR
    go_loopw [8] (RelOpen w q F D (.slice ao ss.length c) vs ss (most + 1) R) (fun _ w => ss.length - nextAt w q)
    case atStart => exact ⟨ss.length + 1, 0, 1, [], List.replicate 32 0, .slice none 0 0, [], rfl, H2.out.1, H2.out.2.1, .inl rfl, by simp, H2.out.2.2.1, by omega, by decide, HR.out⟩
    case round =>
      obtain ⟨f, next, least, recs, h, rv, vr, rfl, k1, k2, k3, k4, k8, k5, k6, k7⟩ := hrel
      obtain ⟨f, rfl⟩ : ∃ g, f = g + 1 := ⟨f - 1, by omega⟩
      rw [openGo] at k7
      obtain ⟨rvo, rvc, rfl, -⟩ := own_sl k1.rows.row
      have hnx : next ≤ ss.length := by have := k1.next; rw [HS.out.2.2.2.1] at this; exact this
      have hrn := k1.few
      dsimp only at hrn
      obtain ⟨rl, hrl⟩ : ∃ rl, recs.length = rl := ⟨_, rfl⟩
      rw [hrl] at k1 k3 k7 hrn
      have T := k1.top
      dsimp only at T
      have hnext : nextAt wr q = next := by unfold nextAt; rw [T.cell (i := 2) (v := .int .i64 next) rfl]; rfl
      have W1 : IntKind.i64.wrap ((rl : Int) + 1) = ((rl + 1 : Nat) : Int) := by rw [IntKind.wrap_i64]; omega
      have hn0 : (0 : Int) ≤ (next : Int) := by omega
      obtain ⟨r, hr⟩ : ∃ r, standS (ss.drop next) (rl + 1) least = r := ⟨_, rfl⟩
      rw [hr] at k7
      have hbd := standGo_bd (rl + 1) (ss.drop next) 0 [] 0 least
      have hst : standGo (rl + 1) (ss.drop next) 0 [] 0 least = r := hr
      rw [hst] at hbd
      have HX := Lib.hid (And.intro k1 (And.intro k2 (And.intro k3 (And.intro k4 (And.intro k8 (And.intro k5 (And.intro k7 (And.intro hr (And.intro hrl (And.intro hnext hbd))))))))))
      clear k1 k2 k3 k4 k8 k5 k7 hr hrl hbd hst hnext
      go_wp2_with fail
      have S0 : Blk wr.drew q (bookCells F.d (most + 1) next (.slice rvo rl rvc) h recs.length false) 60 := T
      refine wp_region_ord (S := fun w => Blk w q (bookCells F.d (most + 1) next (.slice rvo rl rvc) h recs.length false) 60) (.take 0 (.take 1 (.take 2 (.take 3 (.take 4 (.take 5 (.take 6 (.take 7 (.take 8 (.take 9 (.take 10 (.take 11 (.take 12 (.act 13 (.take 14 (.take 15 (.take 16 (.take 17 (.take 18 (.take 19 (.take 20 .done))))))))))))))))))))) (by kernel_rfl) (by kernel_rfl) (fun _ _ d _ _ h => by cases d <;> exact h) ?_
      iterate 5 (refine ord_ex rfl rfl S0 ?_; apply Exists.intro; refine ⟨fun _ _ => ?_, ?_⟩; (focus (rename_i w hw; have c2 := Blk.cell hw (i := 2) (v := .int .i64 next) rfl; have c3 := Blk.cell hw (i := 3) (v := .slice rvo rl rvc) rfl; go_simp; rfl)); simp only [Act.put, List.setIfInBounds_toArray, List.set_cons_zero, List.set_cons_succ, List.getElem_toArray, List.getElem_cons_succ, List.getElem_cons_zero])
      refine ord_slice_lo (size := 1) (e := 26) (t := 24) (x := .tmp 31) (y := .tmp 35) rfl rfl rfl ao ss.length c next .i64 next rfl rfl rfl hnx Tryd.underlying24 (by kernel_rfl) S0 ?_
      intro A hA
      simp only [Act.put, List.setIfInBounds_toArray, List.set_cons_zero, List.set_cons_succ, List.getElem_toArray, List.getElem_cons_succ, List.getElem_cons_zero]
      iterate 7 (refine ord_ex rfl rfl S0 ?_; apply Exists.intro; refine ⟨fun _ _ => ?_, ?_⟩; (focus (rename_i w hw; have c2 := Blk.cell hw (i := 2) (v := .int .i64 next) rfl; have c3 := Blk.cell hw (i := 3) (v := .slice rvo rl rvc) rfl; go_simp; rfl)); simp only [Act.put, List.setIfInBounds_toArray, List.set_cons_zero, List.set_cons_succ, List.getElem_toArray, List.getElem_cons_succ, List.getElem_cons_zero])
      refine ord_act rfl ?_
      go_wp2_with fail
      have hav := HX.out.2.2.2.2.1
      have hdl : (ss.drop next).length = ss.length - next := by simp
      have hsl : Sl wr.drew (.slice A (ss.length - next) (c - next)) (ss.drop next).length 1 (vs.drop next) := by
        have := Sl.drop (m := next) (size := 1) (own_sl hav.row) hnx hA
        rw [hdl]; simp only [Nat.mul_one] at this; exact this.drew
      have hrd : Reads wr.drew (vs.drop next) (ss.drop next) := by
        have h0 := hav.all.reads
        refine ⟨by simp [h0.1], fun i h1 h2 => ?_⟩
        simp only [List.getElem_drop]
        exact h0.2 _ _ _
      have hSt := stand_any wr.drew A (c - next) (vs.drop next) (ss.drop next) (rl + 1) least (by rw [hdl] at hsl ⊢; exact hsl) hrd (fun s hs => HS.out.2.2.1 s (List.mem_of_mem_drop hs)) (by simp; omega) k6 (by omega)
      rw [hdl, HX.out.2.2.2.2.2.2.2.1] at hSt
      refine hSt.mono ?_
      clear hSt hrd hsl hdl hav
      rintro e w3 ⟨ao3, c3, rfl, l1, l2⟩
      have hU3 : Upd [] wr w3 := (Upd.refl [] wr).drew.trans l2 (by simp)
      have S3 : Blk w3 q (bookCells F.d (most + 1) next (.slice rvo rl rvc) h recs.length false) 60 := T.upd hU3 (by simp)
      have hl1 := own_lt l1
      obtain ⟨rr, rg, rc⟩ := r
      dsimp only at l1 hl1 ⊢
      have hbd := HX.out.2.2.2.2.2.2.2.2.2.2
      dsimp only at hbd
      have hbd1 := hbd.1
      have hbd2 := hbd.2.1
      have hbd3 := hbd.2.2
      rw [List.length_drop] at hbd1 hbd3
      simp only [List.length_nil] at hbd3
      have H3 := Lib.hid (And.intro l1 (And.intro hU3 hl1))
      clear l1 l2 hU3 hl1 hbd
      go_wp2_with fail
      refine ⟨fun _ => S3, ?_⟩
      iterate 7 (refine ord_ex rfl rfl S3 ?_; apply Exists.intro; refine ⟨fun _ _ => ?_, ?_⟩; (focus (rename_i w hw; skip; go_simp; rfl)); simp only [Act.put, List.setIfInBounds_toArray, List.set_cons_zero, List.set_cons_succ, List.getElem_toArray, List.getElem_cons_succ, List.getElem_cons_zero])
      show Exit.then _ _ Exit.normal _ _
      obtain ⟨rlen, hrlen⟩ : ∃ k, rr.length = k := ⟨_, rfl⟩
      have HRL := Lib.hid hrlen
      rw [hrlen] at hbd3 ⊢
      clear hrlen
      have hk7 := HX.out.2.2.2.2.2.2.1
      rw [HRL.out] at hk7
      rcases Decidable.em (rc = 0 ∨ 4096 < rlen) with hend | hend
      · rw [if_pos hend] at hk7
        have B3 := HX.out.1.upd0 H3.out.2.1
        have hU := HX.out.2.1.trans H3.out.2.1 (by simp)
        have HZ := Lib.hid (And.intro hk7 (And.intro B3 hU))
        clear hk7 B3 hU
        have fin : OpenPost w F D (.returned (.tuple #[.pointer (some ⟨q, 0, none⟩), .int .i64 0])) w3 := by
          have hR : openS D.now = R := by unfold openS; rw [HS.out.2.2.2.1, HS.out.2.2.2.2.1]; exact HR.out
          unfold OpenPost
          rw [HS.out.2.2.2.1, HS.out.2.2.2.2.1, if_neg HM.out]
          rw [HS.out.2.2.2.1] at hR
          have k3 := HX.out.2.2.1
          have k4 := HX.out.2.2.2.1
          have hq := H2.out.2.2.2.1
          refine ⟨q, .slice rvo rl rvc, vr, rfl, ?_, HZ.out.2.2, hq, by omega, fun x hx => by have := k4 x hx; omega⟩
          rw [hR, ← HZ.out.1]
          exact HX.out.1.upd0 H3.out.2.1
        have FIN := Lib.hid fin
        clear fin
        rcases Nat.eq_zero_or_pos rc with h0 | h0
        · have e0 : ((rc : Int) == 0) = true := by rw [beq_iff_eq]; omega
          clear h0 hend
          go_wp2
          go_ret2
          exact FIN.out
        · have e0 : ((rc : Int) == 0) = false := by rw [beq_eq_false_iff_ne]; omega
          have e1 : decide ((4096 : Int) < (rlen : Int)) = true := by rw [decide_eq_true_eq]; omega
          clear h0 hend
          go_wp2
          go_ret2
          exact FIN.out
      · rw [if_neg hend] at hk7
        have e0 : ((rc : Int) == 0) = false := by rw [beq_eq_false_iff_ne]; omega
        have e1 : decide ((4096 : Int) < (rlen : Int)) = false := by rw [decide_eq_false_iff_not]; omega
        have B3 := HX.out.1.upd0 H3.out.2.1
        have hU := HX.out.2.1.trans H3.out.2.1 (by simp)
        have ht3 := HS.out.2.2.2.2.2.upd hU (by simp)
        have hq := H2.out.2.2.2.1
        have hwl := HS.out.2.2.2.2.2.1
        have hqw := T.lt
        have hrvl := (own_lt HX.out.1.rows.row).1
        have hrv3 := HX.out.2.2.1
        have hxb := H3.out.2.2.2
        have hxb' : blkOf (.slice ao3 rr.length c3) = 0 ∨ wr.heap.size < blkOf (.slice ao3 rr.length c3) := hxb
        dsimp only at hrvl
        have hT := btake_any w3 ⟨q, F, .slice rvo rl rvc, vr⟩ ⟨most + 1, next, recs, h, false⟩ D rr ao3 c3 rc B3 (own_sl H3.out.1) (blkE_le H3.out.2.2.1) ⟨by dsimp only; have := blkE_or (.slice ao3 rr.length c3); omega, by dsimp only; have := blkE_or (.slice ao3 rr.length c3); omega⟩ (by rw [HRL.out]; omega) ht3 ⟨by dsimp only; omega, by dsimp only; omega⟩ (by omega) (by rw [HS.out.2.2.2.1]; dsimp only; omega)
        rw [HRL.out] at hT
        have HT := Lib.hid (And.intro hT (And.intro hU (And.intro hk7 (And.intro hwl (And.intro hqw B3)))))
        clear hT hwl hqw hrvl hrv3 hxb hxb' B3 hU ht3 hq hk7
        go_wp2_with fail
        refine HT.out.1.mono ?_
        rintro e w4 ⟨rv4, x4, rfl, m1, m2, m3, m4⟩
        dsimp only at m1 m2 m3 m4
        have hm1 := m1.top.cell (i := 2) (v := .int .i64 ((next + rc : Nat) : Int)) rfl
        have hnew : nextAt w4 q = next + rc := by unfold nextAt; rw [hm1]; rfl
        have hq := H2.out.2.2.2
        have hqw := HT.out.2.2.2.2.1
        have B3 := HT.out.2.2.2.2.2
        have hw3 := H3.out.2.1.size
        have hsep : ∀ k ∈ q :: blkL (.slice rvo rl rvc), w.heap.size ≤ k ∧ blkOf (.slice ao ss.length c) ≠ k + 1 := by
          intro k hk
          rcases List.mem_cons.1 hk with rfl | hk
          · omega
          · have h1 := mem_blkL.1 hk
            have h2 := HX.out.2.2.1
            omega
        have hU4 : Upd [] w w4 := HT.out.2.1.trans m2 (fun k hk => .inr (hsep k hk).1)
        have hall : RowsAt w4 w.heap.size (.slice ao ss.length c) vs ss := (HX.out.2.2.2.2.1.upd0 H3.out.2.1).upd m2 (fun k hk => (hsep k hk).2) (fun x hx k hk => by
          obtain ⟨l, _, ho⟩ := (HX.out.2.2.2.2.1.upd0 H3.out.2.1).all.mem hx
          rcases List.mem_cons.1 hk with rfl | hk
          · exact own_ne ho B3.top (by decide)
          · have h1 := mem_blkL.1 hk
            have hr := B3.rows.row
            rcases own_ne2 ho hr (by decide) with h0 | h0
            · omega
            · dsimp only at h0; omega)
        have H4 := Lib.hid (And.intro m1 (And.intro hU4 (And.intro hall (And.intro hnew (And.intro m3 m4)))))
        clear m1 m2 m3 m4 hm1 hnew hq hqw hsep hU4 hall B3
        go_wp2
        go_roundw
        case rel =>
          have hq := H2.out.2.2.2
          have hm3 := H4.out.2.2.2.2.1
          have hm4 := H4.out.2.2.2.2.2
          have hqw := HT.out.2.2.2.2.1
          have hw3 := H3.out.2.1.size
          refine ⟨f, next + rc, rg, recs ++ [rr], linkOf h rr, rv4, vr ++ [x4], rfl, H4.out.1, H4.out.2.1, ?_, ?_, H4.out.2.2.1, ?_, hbd2, HT.out.2.2.1⟩
          · have := HX.out.2.2.1; omega
          · intro x hx
            rcases List.mem_append.1 hx with hx | hx
            · exact HX.out.2.2.2.1 x hx
            · rw [List.mem_singleton.1 hx]; omega
          · have := HX.out.2.2.2.2.2.1; omega
        case measure =>
          rw [H4.out.2.2.2.1, HX.out.2.2.2.2.2.2.2.2.2.1]; omega
end Go.Proofs.YtnfnaedoejgpiaaDoor
