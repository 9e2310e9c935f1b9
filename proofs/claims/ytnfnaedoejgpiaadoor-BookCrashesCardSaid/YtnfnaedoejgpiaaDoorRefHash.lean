/- The reference's texts one behind another, and its link. The reference's fingerprint of a row of records. -/
import Derived.Test.YtnfnaedoejgpiaaDoorRefSum
import Derived.Test.YtnfnaedoejgpiaaDoorHeadF
import Derived.Test.YtnfnaedoejgpiaaDoorHeld
namespace Go.Proofs.YtnfnaedoejgpiaaDoor
open Go.RowKit

def RelJoin (w : World) (ls : List (List UInt8)) (v i : Value) (wr : World) : Prop :=
  ∃ k ao c, k ≤ ls.length ∧ i = .int .i64 (k : Nat) ∧ v = .slice ao (ls.take k).flatten.length c ∧ wr.ownsRow w.heap.size 5 1 v (ls.take k).flatten.length ((ls.take k).flatten.map bv) ∧ Upd [] w wr
def JoinPost (w : World) (ls : List (List UInt8)) (e : Ending) (w' : World) : Prop :=
  ∃ ao c, e = .returned (.slice ao ls.flatten.length c) ∧ Bytes w' (.slice ao ls.flatten.length c) ls.flatten ∧ Upd [] w w'
set_option maxRecDepth 4000 in
set_option maxHeartbeats 2000000 in
theorem joined_any (w : World) (g m : Nat) (vs : List Value) (ls : List (List UInt8)) (hg : Blk w g vs.toArray 26) (hvl : vs.length = m) (hll : ls.length = m) (hm : m ≤ 1000)
    (hb : ∀ i, i < m → ∃ v, vs[i]? = some v ∧ Bytes w v (ls.getD i [])) (htot : ls.flatten.length ≤ 2000000) :
    Calls Tryd.prog 48 #[.slice (some ⟨g, 0, none⟩) m m] w (JoinPost w ls) := by
  have HS := Lib.hid (And.intro hg (And.intro hvl (And.intro hll (And.intro hb htot))))
  clear hg hvl hll hb htot
  go_enter Tryd.func48, Tryd.ntmps48
  go_wp2_with fail
  go_loopw [3, 4] (RelJoin w ls) (fun _ i _ => ((m : Int) - intOf i).toNat)
  case atStart => exact ⟨0, none, 0, by omega, rfl, by simp, by simpa using World.ownsRow_nil _ _ _ _, Upd.refl _ _⟩
  case round =>
    obtain ⟨k, ao, vc, hk, rfl, rfl, hw, hu⟩ := hrel
    rw [HS.out.2.2.1] at hk
    rcases Nat.lt_or_ge k m with hlt | hge
    · obtain ⟨v, hv, hbv⟩ := HS.out.2.2.2.1 k hlt
      obtain ⟨x, hx⟩ : ∃ x, ls.getD k [] = x := ⟨_, rfl⟩
      rw [hx] at hbv
      have hbr := hbv.upd hu (by simp)
      obtain ⟨xo, xc, rfl, -⟩ := id hbr
      have hstep : (ls.take (k + 1)).flatten = (ls.take k).flatten ++ x := by
        have hkl : k < ls.length := by rw [HS.out.2.2.1]; exact hlt
        rw [List.take_add_one, List.getElem?_eq_getElem hkl]
        have : ls[k] = x := by rw [← hx, List.getD_eq_getElem?_getD, List.getElem?_eq_getElem hkl]; rfl
        rw [this]; simp
      have hsum : (ls.take k).flatten.length + x.length ≤ 2000000 := by
        have h1 : (ls.take (k + 1)).flatten.length ≤ ls.flatten.length := by
          conv => rhs; rw [← List.take_append_drop (k + 1) ls]
          rw [List.flatten_append, List.length_append]; omega
        rw [hstep, List.length_append] at h1
        have := HS.out.2.2.2.2
        omega
      obtain ⟨acc, hacc⟩ : ∃ acc, (ls.take k).flatten = acc := ⟨_, rfl⟩
      rw [hacc] at hw hsum hstep ⊢
      have hcell : wr.cell? ⟨g, k, none⟩ = some (.slice xo x.length xc) := by
        refine cell_upd (HS.out.1.cell (by simpa using hv)) HS.out.1.lt hu (by simp)
      have hby : (acc.length + x.length) * 1 ≤ 140737488355328 := by omega
      have hbase := hu.size
      have hml : acc.length ≤ 2000000 := by omega
      have hxl : x.length ≤ 2000000 := by omega
      have HX := Lib.hid (And.intro hw (And.intro hbr (And.intro hby (And.intro hbase (And.intro hu hstep)))))
      clear hw hbr hby hbase hu hstep hv hbv hx hacc hsum
      go_wp2_with (at_builtin; refine wpList_app _ rfl (.tmp 11) (.tmp 15) 26 rfl w.heap.size 5 (.int .u8 0) 1 1 Tryd.underlying26 info_byte rfl (by decide) (.slice ao acc.length vc) acc.length (acc.map bv) rfl HX.out.1 (.slice xo x.length xc) x.length (x.map bv) rfl HX.out.2.1 (bv_one x) HX.out.2.2.1 (by decide) HX.out.2.2.2.1 ?_)
      intro ao2 c2 w3 h3
      have hrow := h3.own
      rw [← List.map_append, ← List.length_append, ← HX.out.2.2.2.2.2] at hrow
      have hle : acc.length + x.length = (ls.take (k + 1)).flatten.length := by rw [HX.out.2.2.2.2.2, List.length_append]
      rw [← List.length_append, ← HX.out.2.2.2.2.2]
      have hu3 : Upd [] w w3 := HX.out.2.2.2.2.1.trans h3.upd (fun k' hk => by
        right
        have := own_lt HX.out.1
        rw [own_block] at hk
        split at hk
        · simp at hk
        · simp at hk; omega)
      have H3 := Lib.hid (And.intro hrow hu3)
      clear hrow hu3 h3 hle
      go_wp2
      go_roundw
      case rel => exact ⟨k + 1, ao2, c2, by have := HS.out.2.2.1; omega, by go_num, rfl, H3.out.1, H3.out.2⟩
      case measure => simp [intOf]; omega
    · obtain rfl : k = m := by omega
      have hall : ls.take k = ls := List.take_of_length_le (by rw [HS.out.2.2.1]; exact Nat.le_refl _)
      rw [hall] at hw ⊢
      have HX := Lib.hid (And.intro (own_sl hw) hu)
      clear hw hu hall
      go_wp2
      go_ret
      exact ⟨_, _, rfl, HX.out.1, HX.out.2⟩
/-- The reference's link. -/
def linkB (prev record : List UInt8) : List UInt8 := digestB (prev ++ (be4 record.length ++ record))
theorem digestB_len (l : List UInt8) : (digestB l).length = 32 := outTo_len _ _
def RHashPost (W : World) (x : List UInt8) (e : Ending) (w : World) : Prop := e = .returned (.agg (bsArr x)) ∧ Upd [] W w
set_option maxRecDepth 4000 in
theorem rlink_any (w : World) (prev record : List UInt8) (ro : Option Addr) (rc : Nat) (hp : prev.length = 32) (hr : Bytes w (.slice ro record.length rc) record) (hl : record.length ≤ 1000000) :
    Calls Tryd.prog 35 #[.agg (bsArr prev), .slice ro record.length rc] w (RHashPost w (linkB prev record)) := by
  obtain ⟨q2, hq2⟩ : ∃ q, w.heap.size = q := ⟨_, rfl⟩
  obtain ⟨n, hn⟩ : ∃ n, record.length = n := ⟨_, rfl⟩
  rw [hn] at hl
  have HS := Lib.hid (And.intro hp (And.intro hr (And.intro hn hq2)))
  rw [hn]
  clear hp hr hn
  have hn0 : (0 : Int) ≤ n := by omega
  have hn1 : (n : Int) ≤ 1000000 := by omega
  go_enter Tryd.func35, Tryd.ntmps35
  go_wp2_with (with_reducible refine wpList_box (o := ⟨some 2, _, _, _, _, _⟩) rfl 35 (.tmp 0) rfl (.agg (bsArr prev)) rfl ?_)
  obtain ⟨wa, hwa⟩ : ∃ wa, w.alloc (Obj.cells (bsArr prev) 35) = wa := ⟨_, rfl⟩
  have pa : Blk wa q2 (bsArr prev) 35 := by rw [← hwa]; exact Blk.newAt HS.out.2.2.2.symm _ _
  have ua : Upd [] w wa := by rw [← hwa]; exact (Upd.refl [] w).alloc _
  have sa : wa.heap.size = q2 + 1 := by rw [← hwa]; simp; exact HS.out.2.2.2
  rw [hwa]
  obtain ⟨wb, hwb⟩ : ∃ wb, wa.alloc (Obj.cells (bsArr (List.replicate 32 0)) 35) = wb := ⟨_, rfl⟩
  have pb : Blk wb (q2 + 1) (bsArr (List.replicate 32 0)) 35 := by rw [← hwb]; exact Blk.newAt sa.symm _ _
  have pa2 : Blk wb q2 (bsArr prev) 35 := by rw [← hwb]; exact pa.alloc _
  have ub : Upd [] w wb := by rw [← hwb]; exact ua.alloc _
  have sb : wb.heap.size = q2 + 2 := by rw [← hwb]; simp; omega
  have hwb' : wa.alloc (Obj.cells #[.int .u8 0, .int .u8 0, .int .u8 0, .int .u8 0, .int .u8 0, .int .u8 0, .int .u8 0, .int .u8 0, .int .u8 0, .int .u8 0, .int .u8 0, .int .u8 0, .int .u8 0, .int .u8 0, .int .u8 0, .int .u8 0, .int .u8 0, .int .u8 0, .int .u8 0, .int .u8 0, .int .u8 0, .int .u8 0, .int .u8 0, .int .u8 0, .int .u8 0, .int .u8 0, .int .u8 0, .int .u8 0, .int .u8 0, .int .u8 0, .int .u8 0, .int .u8 0] 35) = wb := hwb
  rw [hwb']
  have h4 : (#[.int .u8 ((n : Int) / 16777216), .int .u8 ((n : Int) / 65536), .int .u8 ((n : Int) / 256 % 256), .int .u8 ((n : Int) % 256)] : Array Value) = bsArr (be4 n) := by
    have e1 : (n : Int) / 16777216 = ((UInt8.ofNat (n / 2 ^ 24)).toNat : Int) := by simp; omega
    have e2 : (n : Int) / 65536 = ((UInt8.ofNat (n / 2 ^ 16)).toNat : Int) := by simp; omega
    have e3 : (n : Int) / 256 % 256 = ((UInt8.ofNat (n / 2 ^ 8)).toNat : Int) := by simp
    have e4 : (n : Int) % 256 = ((UInt8.ofNat n).toNat : Int) := by simp
    rw [e1, e2, e3, e4]; rfl
  rw [h4]
  obtain ⟨wc, hwc⟩ : ∃ wc, wb.alloc (Obj.cells (bsArr (be4 n)) 5) = wc := ⟨_, rfl⟩
  have pc : Blk wc (q2 + 1 + 1) (bsArr (be4 n)) 5 := by rw [← hwc]; exact Blk.newAt sb.symm _ _
  have uc : Upd [] wb wc := by rw [← hwc]; exact (Upd.refl [] wb).alloc _
  have sc : wc.heap.size = q2 + 3 := by rw [← hwc]; simp; omega
  rw [hwc]
  obtain ⟨wd, hwd⟩ : ∃ wd, wc.alloc (Obj.cells #[.slice (some ⟨q2, 0, none⟩) 32 32, .slice (some ⟨q2 + 1 + 1, 0, none⟩) 4 4, .slice ro n rc] 26) = wd := ⟨_, rfl⟩
  have pd : Blk wd (q2 + 1 + 1 + 1) #[.slice (some ⟨q2, 0, none⟩) 32 32, .slice (some ⟨q2 + 1 + 1, 0, none⟩) 4 4, .slice ro n rc] 26 := by rw [← hwd]; exact Blk.newAt sc.symm _ _
  have ud : Upd [] wc wd := by rw [← hwd]; exact (Upd.refl [] wc).alloc _
  have sd : wd.heap.size = q2 + 4 := by rw [← hwd]; simp; omega
  rw [hwd]
  have pa4 : Blk wd q2 (bsArr prev) 35 := (pa2.upd uc (by simp)).upd ud (by simp)
  have pb4 : Blk wd (q2 + 1) (bsArr (List.replicate 32 0)) 35 := (pb.upd uc (by simp)).upd ud (by simp)
  have pc4 : Blk wd (q2 + 1 + 1) (bsArr (be4 n)) 5 := pc.upd ud (by simp)
  have U : Upd [] w wd := (ub.trans uc (by simp)).trans ud (by simp)
  have b1 : Bytes wd (.slice (some ⟨q2, 0, none⟩) 32 32) prev := pa4.bytes prev HS.out.1 (by unfold maxLen; omega) (fun j u h => by rw [Nat.zero_add]; simpa [bsArr] using h)
  have b2 : Bytes wd (.slice (some ⟨q2 + 1 + 1, 0, none⟩) 4 4) (be4 n) := pc4.bytes (be4 n) rfl (by unfold maxLen; omega) (fun j u h => by rw [Nat.zero_add]; simpa [bsArr] using h)
  have b3 : Bytes wd (.slice ro n rc) record := by have := HS.out.2.1.upd U (by simp); rw [HS.out.2.2.1] at this; show Sl wd (.slice ro n rc) record.length 1 _; rw [HS.out.2.2.1]; exact this
  have hll : [prev, be4 n, record].flatten.length ≤ 2000000 := by have := HS.out.1; have := HS.out.2.2.1; simp [be4]; omega
  have hO := joined_any wd (q2 + 1 + 1 + 1) 3 [.slice (some ⟨q2, 0, none⟩) 32 32, .slice (some ⟨q2 + 1 + 1, 0, none⟩) 4 4, .slice ro n rc] [prev, be4 n, record] pd rfl rfl (by omega) (fun i hi => by
    have hi : i = 0 ∨ i = 1 ∨ i = 2 := by omega
    rcases hi with rfl | rfl | rfl
    · exact ⟨_, rfl, b1⟩
    · exact ⟨_, rfl, b2⟩
    · exact ⟨_, rfl, b3⟩) hll
  refine hO.mono ?_
  rintro e w6 ⟨jo, jc, rfl, J6, u6⟩
  have hjl : [prev, be4 n, record].flatten = prev ++ (be4 n ++ record) := by simp
  rw [hjl] at J6 hll ⊢
  obtain ⟨t, ht⟩ : ∃ t, prev ++ (be4 n ++ record) = t := ⟨_, rfl⟩
  rw [ht] at J6 hll ⊢
  have hres : linkB prev record = digestB t := by unfold linkB; rw [HS.out.2.2.1, ht]
  have HR := Lib.hid hres
  have H6 := Lib.hid (And.intro (pb4.upd u6 (by simp)) (And.intro (U.trans u6 (by simp)) (And.intro J6 hll)))
  clear hwa pa ua sa hwb pb pa2 ub sb hwb' h4 hwc pc uc sc hwd pd ud sd pa4 pb4 pc4 U b1 b2 b3 hO u6 hres hll hjl ht J6
  go_wp2_with fail
  refine (rsum_any w6 jo t.length jc t H6.out.2.2.1 rfl H6.out.2.2.2).mono ?_
  rintro e w8 ⟨rfl, u8⟩
  obtain ⟨T, hT⟩ : ∃ T, digestB t = T := ⟨_, rfl⟩
  have hTl := digestB_len t
  rw [hT] at hTl ⊢
  have HT := Lib.hid hT
  have hszH : (Tryd.prog.info? 35).map (·.size) = some (bsArr T).toList.length := by rw [Array.length_toList, bsArr_size, hTl]; kernel_rfl
  have hone : ((bsArr T).toList.all fun u => u.oneCell') = true := List.all_eq_true.2 (by simpa [bsArr] using bv_one T)
  have H8 := Lib.hid (And.intro (H6.out.1.upd u8 (by simp)) (And.intro hTl (And.intro hszH (And.intro hone (H6.out.2.1.trans u8 (by simp))))))
  clear hT hTl hszH hone u8
  go_wp2_with (with_reducible refine wpList_store_blk (o := ⟨none, .store 35 (.tmp 4) (.tmp 26), _, _, _, _⟩) rfl 35 (.tmp 4) (.tmp 26) rfl (b := q2 + 1) 0 rfl H8.out.1 (.agg (bsArr T)) rfl (bsArr T).toList rfl ?_ H8.out.2.2.2.1 H8.out.2.2.1 ?_)
  · simp [bsArr_size, H8.out.2.1]
  intro w7 b7 u7
  rw [splice_all (by simp [bsArr_size, H8.out.2.1])] at b7
  have G7 := Lib.hid (And.intro b7 (H8.out.2.2.2.2.trans u7 (by have := HS.out.2.2.2; simp; omega)))
  clear b7 u7
  go_wp2
  refine bodyPost_ret (results_blk rfl _ G7.out.1 _ rfl Tryd.underlying35 rfl (by have := H8.out.2.2.1; simpa using this)) rfl ?_
  exact ⟨by rw [HR.out, HT.out], G7.out.2⟩
end Go.Proofs.YtnfnaedoejgpiaaDoor
namespace Go.Proofs.YtnfnaedoejgpiaaDoor
open Go.RowKit

/-- The reference's fingerprint. -/
def hashB (ls : List (List UInt8)) : List UInt8 := ls.foldl linkB (List.replicate 32 0)
theorem linkB_len (p r : List UInt8) : (linkB p r).length = 32 := by
  unfold linkB
  exact digestB_len _
theorem hashB_snoc (ls : List (List UInt8)) (x : List UInt8) : hashB (ls ++ [x]) = linkB (hashB ls) x := by
  unfold hashB
  rw [List.foldl_append, List.foldl_cons, List.foldl_nil]
theorem hashB_nil : hashB [] = List.replicate 32 0 := by
  unfold hashB
  rw [List.foldl_nil]
theorem hashB_len (ls : List (List UInt8)) : (hashB ls).length = 32 := by
  rcases List.eq_nil_or_concat ls with h | ⟨l, x, h⟩
  · rw [h, hashB_nil, List.length_replicate]
  · rw [h, List.concat_eq_append, hashB_snoc, linkB_len]
def RelHash (w : World) (q : Nat) (ls : List (List UInt8)) (i : Value) (wr : World) : Prop :=
  ∃ k : Nat, k ≤ ls.length ∧ i = .int .i64 k ∧ Blk wr (q + 1) (bsArr (hashB (ls.take k))) 35 ∧ Blk wr q (bsArr (List.replicate 32 0)) 35 ∧ Upd [] w wr
set_option maxRecDepth 4000 in
set_option maxHeartbeats 2000000 in
theorem rhash_any (w : World) (xo : Option Addr) (m c : Nat) (vs : List Value) (ls : List (List UInt8)) (hs : Sl w (.slice xo m c) m 1 vs) (hll : ls.length = m) (hm : m ≤ 100000)
    (hb : ∀ i, i < m → ∃ v, vs[i]? = some v ∧ Bytes w v (ls.getD i []) ∧ (ls.getD i []).length ≤ 1000000) :
    Calls Tryd.prog 22 #[.slice xo m c] w (RHashPost w (hashB ls)) := by
  obtain ⟨q, hq⟩ : ∃ q, w.heap.size = q := ⟨_, rfl⟩
  have HS := Lib.hid (And.intro hs (And.intro hll (And.intro hb hq)))
  clear hs hll hb hq
  go_enter Tryd.func22, Tryd.ntmps22
  go_wp2_with fail
  have hq := HS.out.2.2.2
  obtain ⟨w2, hw2⟩ : ∃ w2, (w.alloc (.cells (bsArr (List.replicate 32 0)) 35)).alloc (.cells (bsArr (List.replicate 32 0)) 35) = w2 := ⟨_, rfl⟩
  have hw2' : (w.alloc (.cells #[.int .u8 0, .int .u8 0, .int .u8 0, .int .u8 0, .int .u8 0, .int .u8 0, .int .u8 0, .int .u8 0, .int .u8 0, .int .u8 0, .int .u8 0, .int .u8 0, .int .u8 0, .int .u8 0, .int .u8 0, .int .u8 0, .int .u8 0, .int .u8 0, .int .u8 0, .int .u8 0, .int .u8 0, .int .u8 0, .int .u8 0, .int .u8 0, .int .u8 0, .int .u8 0, .int .u8 0, .int .u8 0, .int .u8 0, .int .u8 0, .int .u8 0, .int .u8 0] 35)).alloc (.cells #[.int .u8 0, .int .u8 0, .int .u8 0, .int .u8 0, .int .u8 0, .int .u8 0, .int .u8 0, .int .u8 0, .int .u8 0, .int .u8 0, .int .u8 0, .int .u8 0, .int .u8 0, .int .u8 0, .int .u8 0, .int .u8 0, .int .u8 0, .int .u8 0, .int .u8 0, .int .u8 0, .int .u8 0, .int .u8 0, .int .u8 0, .int .u8 0, .int .u8 0, .int .u8 0, .int .u8 0, .int .u8 0, .int .u8 0, .int .u8 0, .int .u8 0, .int .u8 0] 35) = w2 := hw2
  have bq : Blk w2 q (bsArr (List.replicate 32 0)) 35 := by rw [← hw2]; exact (Blk.newAt hq.symm _ _).alloc _
  have bp : Blk w2 (q + 1) (bsArr (hashB (ls.take 0))) 35 := by rw [← hw2, List.take_zero, hashB_nil]; exact Blk.newAt (by simp; omega) _ _
  have u2 : Upd [] w w2 := by rw [← hw2]; exact ((Upd.refl [] w).alloc _).alloc _
  rw [hw2', hq]
  have H2 := Lib.hid (And.intro bq (And.intro bp u2))
  clear bq bp u2 hw2 hw2' hq
  go_loopw [4] (RelHash w q ls) (fun i _ => ((m : Int) - intOf i).toNat)
  case atStart => exact ⟨0, by omega, rfl, H2.out.2.1, H2.out.1, H2.out.2.2⟩
  case round =>
    obtain ⟨k, hk, rfl, hbh, hbq, hu⟩ := hrel
    rw [HS.out.2.1] at hk
    rcases Nat.lt_or_ge k m with hlt | hge
    · obtain ⟨v, hv, hbv, hrl⟩ := HS.out.2.2.1 k hlt
      obtain ⟨bb, o, hxo, hbb, hcell⟩ := Sl.addr HS.out.1 (by omega)
      obtain ⟨x, hx⟩ : ∃ x, ls.getD k [] = x := ⟨_, rfl⟩
      rw [hx] at hbv hrl
      have hbr := hbv.upd hu (by simp)
      obtain ⟨ro, rc, rfl, -⟩ := id hbr
      have hc : wr.cell? ⟨bb, o + k, none⟩ = some (.slice ro x.length rc) := cell_upd (hcell k _ hv) hbb hu (by simp)
      subst hxo
      have hstep : hashB (ls.take (k + 1)) = linkB (hashB (ls.take k)) x := by
        have hkl : k < ls.length := by rw [HS.out.2.1]; exact hlt
        have hxk : ls[k] = x := by rw [← hx, List.getD_eq_getElem?_getD, List.getElem?_eq_getElem hkl]; rfl
        rw [List.take_add_one, List.getElem?_eq_getElem hkl, hxk]
        exact hashB_snoc _ _
      obtain ⟨h, hh⟩ : ∃ h, hashB (ls.take k) = h := ⟨_, rfl⟩
      have hhl := hashB_len (ls.take k)
      rw [hh] at hbh hhl hstep
      have hld : (Tryd.prog.info? 35).map (·.size) = some (bsArr h).toList.length := by rw [Array.length_toList, bsArr_size, hhl]; kernel_rfl
      have hll : (linkB h x).length = 32 := linkB_len _ _
      have hld2 : (Tryd.prog.info? 35).map (·.size) = some (bsArr (linkB h x)).toList.length := by rw [Array.length_toList, bsArr_size, hll]; kernel_rfl
      have hone : ((bsArr (linkB h x)).toList.all fun u => u.oneCell') = true := List.all_eq_true.2 (by simpa [bsArr] using bv_one (linkB h x))
      have HE := Lib.hid (And.intro hstep (And.intro hhl (And.intro hld (And.intro hld2 (And.intro hone (And.intro hll (And.intro hrl (And.intro hbr (And.intro hbq hu)))))))))
      have hbbl : bb < wr.heap.size := Nat.lt_of_lt_of_le hbb hu.size
      clear hstep hhl hld hld2 hone hll hrl hbr hbq hu hbv hv hbb hcell hx hh
      go_upto_region 5 with (fail)
      obtain ⟨w0, hw0⟩ : ∃ x : World, x = wr := ⟨_, rfl⟩
      subst hw0
      have S0 : Blk w0.drew (q + 1) (bsArr h) 35 ∧ w0.drew.cell? ⟨bb, o + k, none⟩ = some (.slice ro x.length rc) := ⟨hbh, hc⟩
      have B0 : Bytes w0.drew (.slice ro x.length rc) x := HE.out.2.2.2.2.2.2.2.1.upd (Upd.refl [] w0).drew (by simp)
      have U0 := (Upd.refl [] w0).drew
      refine wp_region_ord (S := fun w => Blk w (q + 1) (bsArr h) 35 ∧ w.cell? ⟨bb, o + k, none⟩ = some (.slice ro x.length rc)) (.take 0 (.take 1 (.take 2 (.take 3 (.take 4 (.act 5 (.act 6 .done))))))) (by kernel_rfl) (by kernel_rfl) (fun _ _ d _ _ h => by cases d <;> exact h) ?_
      refine ord_load_blk rfl rfl rfl (q + 1) 0 (by first | rfl | (simp [Act.eval]; done)) (bsArr h) 35 (fun _ h => h.1) _ (bsArr h).toList (fun j u hj => by rw [Nat.zero_add]; simpa using hj) Tryd.underlying35 rfl HE.out.2.2.1 S0 ?_
      simp only [Act.put, List.setIfInBounds_toArray, List.set_cons_zero, List.set_cons_succ, List.getElem_toArray, List.getElem_cons_succ, List.getElem_cons_zero]
      iterate 4 (refine ord_ex rfl rfl S0 ?_; apply Exists.intro; refine ⟨fun _ _ => ?_, ?_⟩; (focus (rename_i w hw; have hcw := hw.2; go_simp; rfl)); simp only [Act.put, List.setIfInBounds_toArray, List.set_cons_zero, List.set_cons_succ, List.getElem_toArray, List.getElem_cons_succ, List.getElem_cons_zero])
      refine ord_act rfl ?_
      go_wp2_with fail
      have hcont := rlink_any w0.drew h x ro rc HE.out.2.1 B0 HE.out.2.2.2.2.2.2.1
      have hbound := U0.size
      obtain ⟨T, hT⟩ : ∃ T, linkB h x = T := ⟨_, rfl⟩
      rw [hT] at hcont
      have HE2 := HE
      rw [hT] at HE2
      clear HE hT
      refine hcont.mono ?_
      rintro e w6 ⟨rfl, u6⟩
      have S1 := And.intro (S0.1.upd u6 (by simp)) (cell_upd S0.2 hbbl u6 (by simp))
      have U1 := U0.trans u6 (by simp)
      go_wp2_with fail
      refine ⟨fun _ => S1, ?_⟩
      refine ord_act rfl ?_
      refine wpList_store_blk (by rfl) 35 (.tmp 3) (.tmp 16) (by rfl) (b := q + 1) 0 (by rfl) S1.1 (.agg (bsArr T)) (by rfl) (bsArr T).toList (by rfl) (by simp [bsArr_size, HE2.out.2.1, HE2.out.2.2.2.2.2.1]) HE2.out.2.2.2.2.1 HE2.out.2.2.2.1 ?_
      intro wf bf uf
      rw [splice_all (by simp [bsArr_size, HE2.out.2.1, HE2.out.2.2.2.2.2.1])] at bf
      refine ⟨fun h => Bool.noConfusion (h.symm.trans (by kernel_rfl : waitsAll _ _ _ = true)), ?_⟩
      have UF : Upd [q + 1] w0 wf := (U1.more (T := [q + 1]) (by simp)).trans uf (by simp)
      have hbf : Blk wf (q + 1) (bsArr (hashB (ls.take (k + 1)))) 35 := by rw [HE2.out.1]; exact bf
      have hq := HS.out.2.2.2
      have HF := Lib.hid (And.intro hbf (And.intro (HE2.out.2.2.2.2.2.2.2.2.1.upd UF (by simp)) (HE2.out.2.2.2.2.2.2.2.2.2.trans UF (by simp; omega))))
      clear hbf bf UF uf hq S0 S1 U0 U1 u6 hbh hc B0 hcont hbound
      first | (show Exit.inBlock _ _ Exit.normal _ _) | (show Exit.then _ _ Exit.normal _ _)
      go_wp2
      go_roundw
      case rel => exact ⟨k + 1, by have := HS.out.2.1; omega, by go_num, HF.out.1, HF.out.2.1, HF.out.2.2⟩
      case measure => simp [intOf]; omega
    · obtain rfl : k = m := by omega
      have hall : ls.take k = ls := List.take_of_length_le (by rw [HS.out.2.1]; exact Nat.le_refl _)
      rw [hall] at hbh
      obtain ⟨T, hT⟩ : ∃ T, hashB ls = T := ⟨_, rfl⟩
      have hTl := hashB_len ls
      rw [hT] at hbh hTl
      have hszH : (Tryd.prog.info? 35).map (·.size) = some (bsArr T).toList.length := by rw [Array.length_toList, bsArr_size, hTl]; kernel_rfl
      have hone : ((bsArr T).toList.all fun u => u.oneCell') = true := List.all_eq_true.2 (by simpa [bsArr] using bv_one T)
      have H8 := Lib.hid (And.intro hbh (And.intro hbq (And.intro hu (And.intro hTl (And.intro hszH (And.intro hone hT))))))
      clear hbh hbq hu hTl hszH hone hT hall
      go_wp2_with (first | (with_reducible refine wpList_load_blk (o := ⟨some 17, _, _, _, _, _⟩) rfl 35 (.tmp 3) rfl (b := q + 1) 0 rfl H8.out.1 _ (bsArr T).toList (fun j u hj => by rw [Nat.zero_add]; simpa using hj) Tryd.underlying35 rfl H8.out.2.2.2.2.1 ?_) | (with_reducible refine wpList_store_blk (o := ⟨none, .store 35 (.tmp 2) (.tmp 17), _, _, _, _⟩) rfl 35 (.tmp 2) (.tmp 17) rfl (b := q) 0 rfl H8.out.2.1 (.agg (bsArr T).toList.toArray) rfl (bsArr T).toList rfl ?_ H8.out.2.2.2.2.2.1 H8.out.2.2.2.2.1 ?_))
      · simp [bsArr_size, H8.out.2.2.2.1]
      intro wf bf uf
      rw [splice_all (by simp [bsArr_size, H8.out.2.2.2.1])] at bf
      have hq := HS.out.2.2.2
      have H11 := Lib.hid (And.intro bf (H8.out.2.2.1.trans uf (by simp; omega)))
      clear bf uf hq
      go_wp2
      refine bodyPost_ret (results_blk rfl _ H11.out.1 _ rfl Tryd.underlying35 rfl (by have := H8.out.2.2.2.2.1; simpa using this)) rfl ?_
      unfold RHashPost
      rw [H8.out.2.2.2.2.2.2]
      exact ⟨by simp, H11.out.2⟩
end Go.Proofs.YtnfnaedoejgpiaaDoor
