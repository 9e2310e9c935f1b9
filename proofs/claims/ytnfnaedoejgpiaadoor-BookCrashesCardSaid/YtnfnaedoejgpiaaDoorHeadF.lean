/- Fingerprints of parts; links. Links, and heads behind records. Heads behind records. The fields of a head, by value. -/
import Derived.Test.YtnfnaedoejgpiaaDoorSum
import Derived.Stop.BytesEq
namespace Go.Proofs.YtnfnaedoejgpiaaDoor
open Go.RowKit

def ofParts (ls : List (List UInt8)) : List UInt8 := (StreamS.new.takes ls).sum
def HashPost (W : World) (l : List UInt8) (e : Ending) (w : World) : Prop := e = .returned (.agg (bsArr l)) ∧ Upd [] W w
theorem takes_left_lt {S : StreamS} (h : S.left.length < 64) : ∀ l, (S.takes l).left.length < 64
  | [] => h
  | b :: l => takes_left_lt (S := S.take b) (absorb_lt _ _) l
set_option maxRecDepth 4000 in
theorem of_any (w : World) (po : Option Addr) (pc : Nat) (vs : List Value) (ls : List (List UInt8)) (hv : Sl w (.slice po ls.length pc) ls.length 1 vs) (hvp : blkOf (.slice po ls.length pc) ≤ w.heap.size) (hP : Parts w w.heap.size vs ls) (ht : Table w) (hm : ls.length ≤ 1000000) :
    Calls Tryd.prog 64 #[.slice po ls.length pc] w (HashPost w (ofParts ls)) := by
  obtain ⟨q2, hq2⟩ : ∃ q, w.heap.size = q := ⟨_, rfl⟩
  have HS := Lib.hid (And.intro hv (And.intro hvp (And.intro hP (And.intro ht (And.intro hm hq2)))))
  clear hv hvp hP ht hm
  have hzH : bsArr (List.replicate 32 0) = bsArr (List.replicate 32 0) := rfl
  clear hzH
  go_enter Tryd.func64, Tryd.ntmps64
  go_wp2_with fail
  refine (snew_any _).mono ?_
  rintro e w1 ⟨p, rfl, s1, u1, hp1⟩
  have r1 : Blk w1 q2 (bsArr (List.replicate 32 0)) 36 := (Blk.newAt (w := w) hq2.symm _ _).upd u1 (by simp)
  have U1 : Upd [] w w1 := ((Upd.refl [] w).alloc _).trans u1 (by simp)
  have hqp : q2 < p := by simp at hp1; omega
  have H1 := Lib.hid (And.intro s1 (And.intro r1 (And.intro U1 hqp)))
  clear s1 r1 U1 u1 hp1 hqp hq2
  go_wp2_with fail
  have hq := HS.out.2.2.2.2.2
  have hqp := H1.out.2.2.2
  have hpar : Parts w1 p vs ls := ⟨HS.out.2.2.1.1, fun i h h' => ⟨(HS.out.2.2.1.2 i h h').1.upd H1.out.2.2.1 (by simp), by have := (HS.out.2.2.1.2 i h h').2.1; omega, (HS.out.2.2.1.2 i h h').2.2⟩⟩
  have hW := swrite_any w1 p StreamS.new (.slice none 0 0) po pc vs ls H1.out.1 (HS.out.1.upd H1.out.2.2.1 (by simp)) (by have := HS.out.2.1; omega) hpar (HS.out.2.2.2.1.upd H1.out.2.2.1 (by simp)) (by omega) (by decide) HS.out.2.2.2.2.1
  refine hW.mono ?_
  clear hW hpar hq hqp
  rintro e w2 ⟨rfl, ⟨v2, s2⟩, b2⟩
  have t2 : Table w2 := (HS.out.2.2.2.1.upd H1.out.2.2.1 (by simp)).below b2 (by have := H1.out.2.2.2; omega)
  have H2 := Lib.hid (And.intro s2 (And.intro b2 t2))
  clear s2 b2 t2
  go_wp2_with fail
  refine (sum_any w2 p (StreamS.new.takes ls) v2 H2.out.1 (takes_left_lt (by decide) ls) H2.out.2.2).mono ?_
  rintro e w6 ⟨rfl, u6⟩
  have hsum : (StreamS.new.takes ls).sum = ofParts ls := rfl
  rw [hsum]
  have hlm : ((ofParts ls).map bv).length = 32 := by unfold ofParts StreamS.sum; simp [toldN_len]
  have hszH : (Tryd.prog.info? 36).map (·.size) = some ((ofParts ls).map bv).length := by rw [hlm]; kernel_rfl
  have hone := List.all_eq_true.2 (bv_one (ofParts ls))
  have r6 : Blk w6 q2 (bsArr (List.replicate 32 0)) 36 := Blk.upd (S := []) ((H1.out.2.1).below H2.out.2.1 H1.out.2.2.2) u6 (by simp)
  have hqp := H1.out.2.2.2
  have ur := H1.out.2.2.1
  have hw := HS.out.2.2.2.2.2
  have u5 : Upd [] w w2 := ⟨H2.out.2.1.os.trans ur.os, H2.out.2.1.tape.trans ur.tape, H2.out.2.1.output.trans ur.output, Nat.le_trans ur.size H2.out.2.1.size, fun k hk _ => (H2.out.2.1.block k (by omega)).trans (ur.block k hk (by simp))⟩
  have H6 := Lib.hid (And.intro r6 (And.intro hlm (And.intro hszH (And.intro hone (And.intro u5 u6)))))
  clear r6 hlm hszH hone u5 u6 hsum hqp ur hw
  obtain ⟨T, hT⟩ : ∃ T, ofParts ls = T := ⟨_, rfl⟩
  rw [hT] at H6 ⊢
  have HTT := Lib.hid hT
  clear hT
  go_wp2_with (with_reducible refine wpList_store_blk (o := ⟨none, .store 36 (.tmp 2) (.tmp 9), _, _, _, _⟩) rfl 36 (.tmp 2) (.tmp 9) rfl (b := q2) 0 rfl H6.out.1 (.agg (T.map bv).toArray) rfl (T.map bv) rfl ?_ H6.out.2.2.2.1 H6.out.2.2.1 ?_)
  · rw [H6.out.2.1]; simp [bsArr]
  intro w7 b7 u7
  rw [splice_all (by rw [H6.out.2.1]; simp [bsArr])] at b7
  have G7 := Lib.hid (And.intro b7 ((H6.out.2.2.2.2.1.trans H6.out.2.2.2.2.2 (by simp)).trans u7 (by have := HS.out.2.2.2.2.2; simp; omega)))
  clear b7 u7
  go_wp2
  refine bodyPost_ret (results_blk rfl _ G7.out.1 _ rfl Tryd.underlying36 rfl (by rw [List.size_toArray]; exact H6.out.2.2.1)) rfl ?_
  unfold HashPost
  rw [HTT.out]
  exact ⟨rfl, G7.out.2⟩
end Go.Proofs.YtnfnaedoejgpiaaDoor
namespace Go.Proofs.YtnfnaedoejgpiaaDoor
open Go.RowKit

def be4 (n : Nat) : List UInt8 := [UInt8.ofNat (n / 2 ^ 24), UInt8.ofNat (n / 2 ^ 16), UInt8.ofNat (n / 2 ^ 8), UInt8.ofNat n]
/-- A link. -/
def linkOf (prev record : List UInt8) : List UInt8 := ofParts [prev, be4 record.length, record]
set_option maxRecDepth 4000 in
theorem link_any (w : World) (prev record : List UInt8) (ro : Option Addr) (rc : Nat) (hp : prev.length = 32) (hr : Bytes w (.slice ro record.length rc) record) (hrb : blkE (.slice ro record.length rc) ≤ w.heap.size) (hl : record.length ≤ 1000000) (ht : Table w) :
    Calls Tryd.prog 54 #[.agg (bsArr prev), .slice ro record.length rc] w (HashPost w (linkOf prev record)) := by
  obtain ⟨q2, hq2⟩ : ∃ q, w.heap.size = q := ⟨_, rfl⟩
  obtain ⟨n, hn⟩ : ∃ n, record.length = n := ⟨_, rfl⟩
  rw [hn] at hl
  have HB := Lib.hid hrb
  clear hrb
  have HS := Lib.hid (And.intro hp (And.intro hr (And.intro ht (And.intro hn hq2))))
  rw [hn]
  clear hp hr ht hn
  have hn0 : (0 : Int) ≤ n := by omega
  have hn1 : (n : Int) ≤ 1000000 := by omega
  go_enter Tryd.func54, Tryd.ntmps54
  go_wp2_with (with_reducible refine wpList_box (o := ⟨some 2, _, _, _, _, _⟩) rfl 36 (.tmp 0) rfl (.agg (bsArr prev)) rfl ?_)
  obtain ⟨wa, hwa⟩ : ∃ wa, w.alloc (Obj.cells (bsArr prev) 36) = wa := ⟨_, rfl⟩
  have pa : Blk wa q2 (bsArr prev) 36 := by rw [← hwa]; exact Blk.newAt HS.out.2.2.2.2.symm _ _
  have ua : Upd [] w wa := by rw [← hwa]; exact (Upd.refl [] w).alloc _
  have sa : wa.heap.size = q2 + 1 := by rw [← hwa]; simp; exact HS.out.2.2.2.2
  rw [hwa]
  obtain ⟨wb, hwb⟩ : ∃ wb, wa.alloc (Obj.cells (bsArr (List.replicate 32 0)) 36) = wb := ⟨_, rfl⟩
  have pb : Blk wb (q2 + 1) (bsArr (List.replicate 32 0)) 36 := by rw [← hwb]; exact Blk.newAt sa.symm _ _
  have pa2 : Blk wb q2 (bsArr prev) 36 := by rw [← hwb]; exact pa.alloc _
  have ub : Upd [] w wb := by rw [← hwb]; exact ua.alloc _
  have sb : wb.heap.size = q2 + 2 := by rw [← hwb]; simp; omega
  have hwb' : wa.alloc (Obj.cells #[.int .u8 0, .int .u8 0, .int .u8 0, .int .u8 0, .int .u8 0, .int .u8 0, .int .u8 0, .int .u8 0, .int .u8 0, .int .u8 0, .int .u8 0, .int .u8 0, .int .u8 0, .int .u8 0, .int .u8 0, .int .u8 0, .int .u8 0, .int .u8 0, .int .u8 0, .int .u8 0, .int .u8 0, .int .u8 0, .int .u8 0, .int .u8 0, .int .u8 0, .int .u8 0, .int .u8 0, .int .u8 0, .int .u8 0, .int .u8 0, .int .u8 0, .int .u8 0] 36) = wb := hwb
  rw [hwb']
  have h4 : (#[.int .u8 ((n : Int) / 16777216), .int .u8 ((n : Int) / 65536), .int .u8 ((n : Int) / 256 % 256), .int .u8 ((n : Int) % 256)] : Array Value) = bsArr (be4 n) := by
    have e1 : (n : Int) / 16777216 = ((UInt8.ofNat (n / 2 ^ 24)).toNat : Int) := by simp; omega
    have e2 : (n : Int) / 65536 = ((UInt8.ofNat (n / 2 ^ 16)).toNat : Int) := by simp; omega
    have e3 : (n : Int) / 256 % 256 = ((UInt8.ofNat (n / 2 ^ 8)).toNat : Int) := by simp
    have e4 : (n : Int) % 256 = ((UInt8.ofNat n).toNat : Int) := by simp
    rw [e1, e2, e3, e4]; rfl
  rw [h4]
  obtain ⟨wc, hwc⟩ : ∃ wc, wb.alloc (Obj.cells (bsArr (be4 n)) 5) = wc := ⟨_, rfl⟩
  have pc : Blk wc (q2 + 1 + 1) (bsArr (be4 n)) 5 := by rw [← hwc]; exact Blk.newAt sb.symm _ _
  have uc : Upd [] wb wc := by rw [← hwc]; exact (Upd.refl [] wb).alloc _
  have sc : wc.heap.size = q2 + 3 := by rw [← hwc]; simp; omega
  rw [hwc]
  obtain ⟨wd, hwd⟩ : ∃ wd, wc.alloc (Obj.cells #[.slice (some ⟨q2, 0, none⟩) 32 32, .slice (some ⟨q2 + 1 + 1, 0, none⟩) 4 4, .slice ro n rc] 26) = wd := ⟨_, rfl⟩
  have pd : Blk wd (q2 + 1 + 1 + 1) #[.slice (some ⟨q2, 0, none⟩) 32 32, .slice (some ⟨q2 + 1 + 1, 0, none⟩) 4 4, .slice ro n rc] 26 := by rw [← hwd]; exact Blk.newAt sc.symm _ _
  have ud : Upd [] wc wd := by rw [← hwd]; exact (Upd.refl [] wc).alloc _
  have sd : wd.heap.size = q2 + 4 := by rw [← hwd]; simp; omega
  rw [hwd]
  have pa4 : Blk wd q2 (bsArr prev) 36 := (pa2.upd uc (by simp)).upd ud (by simp)
  have pb4 : Blk wd (q2 + 1) (bsArr (List.replicate 32 0)) 36 := (pb.upd uc (by simp)).upd ud (by simp)
  have pc4 : Blk wd (q2 + 1 + 1) (bsArr (be4 n)) 5 := pc.upd ud (by simp)
  have U : Upd [] w wd := (ub.trans uc (by simp)).trans ud (by simp)
  have b1 : Bytes wd (.slice (some ⟨q2, 0, none⟩) 32 32) prev := pa4.bytes prev HS.out.1 (by unfold maxLen; omega) (fun j u h => by rw [Nat.zero_add]; simpa [bsArr] using h)
  have b2 : Bytes wd (.slice (some ⟨q2 + 1 + 1, 0, none⟩) 4 4) (be4 n) := pc4.bytes (be4 n) rfl (by unfold maxLen; omega) (fun j u h => by rw [Nat.zero_add]; simpa [bsArr] using h)
  have b3 : Bytes wd (.slice ro n rc) record := by have := HS.out.2.1.upd U (by simp); rw [HS.out.2.2.2.1] at this; show Sl wd (.slice ro n rc) record.length 1 _; rw [HS.out.2.2.2.1]; exact this
  have hbr : blkE (.slice ro n rc) ≤ w.heap.size := by rw [blkE_cap (n' := record.length)]; exact HB.out
  have hsz := HS.out.2.2.2.2
  have hsl : Sl wd (.slice (some ⟨q2 + 1 + 1 + 1, 0, none⟩) [prev, be4 n, record].length 3) [prev, be4 n, record].length 1 [.slice (some ⟨q2, 0, none⟩) 32 32, .slice (some ⟨q2 + 1 + 1, 0, none⟩) 4 4, .slice ro n rc] := Sl.ofBlk pd rfl (by show 3 ≤ _; unfold maxLen; omega)
  have hparts : Parts wd wd.heap.size [.slice (some ⟨q2, 0, none⟩) 32 32, .slice (some ⟨q2 + 1 + 1, 0, none⟩) 4 4, .slice ro n rc] [prev, be4 n, record] := by
    refine ⟨rfl, fun i h h' => ?_⟩
    have hi : i = 0 ∨ i = 1 ∨ i = 2 := by simp at h; omega
    rcases hi with rfl | rfl | rfl
    · exact ⟨b1, by simp [blkE]; omega, by have := HS.out.1; simp; omega⟩
    · exact ⟨b2, by simp [blkE]; omega, by simp [be4]⟩
    · refine ⟨b3, ?_, ?_⟩
      · show blkE (.slice ro n rc) ≤ _; omega
      · show record.length ≤ _; have := HS.out.2.2.2.1; omega
  have hO := of_any wd (some ⟨q2 + 1 + 1 + 1, 0, none⟩) 3 _ [prev, be4 n, record] hsl (by simp [blkOf]; omega) hparts (HS.out.2.2.1.upd U (by simp)) (by simp)
  refine hO.mono ?_
  rintro e w6 ⟨rfl, u6⟩
  have hres : ofParts [prev, be4 n, record] = linkOf prev record := by unfold linkOf; rw [HS.out.2.2.2.1]
  rw [hres]
  have hlm : ((linkOf prev record).map bv).length = 32 := by unfold linkOf ofParts StreamS.sum; simp [toldN_len]
  have hszH : (Tryd.prog.info? 36).map (·.size) = some ((linkOf prev record).map bv).length := by rw [hlm]; kernel_rfl
  have hone := List.all_eq_true.2 (bv_one (linkOf prev record))
  have H6 := Lib.hid (And.intro (pb4.upd u6 (by simp)) (And.intro hlm (And.intro hszH (And.intro hone (U.trans u6 (by simp))))))
  clear hwa pa ua sa hwb pb pa2 ub sb hwb' h4 hwc pc uc sc hwd pd ud sd pa4 pb4 pc4 U b1 b2 b3 hbr hsz hsl hparts hO u6 hres hlm hszH hone
  obtain ⟨T, hT⟩ : ∃ T, linkOf prev record = T := ⟨_, rfl⟩
  rw [hT] at H6 ⊢
  have HTT := Lib.hid hT
  clear hT
  go_wp2_with (with_reducible refine wpList_store_blk (o := ⟨none, .store 36 (.tmp 4) (.tmp 24), _, _, _, _⟩) rfl 36 (.tmp 4) (.tmp 24) rfl (b := q2 + 1) 0 rfl H6.out.1 (.agg (T.map bv).toArray) rfl (T.map bv) rfl ?_ H6.out.2.2.2.1 H6.out.2.2.1 ?_)
  · rw [H6.out.2.1]; simp [bsArr]
  intro w7 b7 u7
  rw [splice_all (by rw [H6.out.2.1]; simp [bsArr])] at b7
  have G7 := Lib.hid (And.intro b7 (H6.out.2.2.2.2.trans u7 (by have := HS.out.2.2.2.2; simp; omega)))
  clear b7 u7
  go_wp2
  refine bodyPost_ret (results_blk rfl _ G7.out.1 _ rfl Tryd.underlying36 rfl (by rw [List.size_toArray]; exact H6.out.2.2.1)) rfl ?_
  unfold HashPost
  rw [HTT.out]
  exact ⟨rfl, G7.out.2⟩
end Go.Proofs.YtnfnaedoejgpiaaDoor
namespace Go.Proofs.YtnfnaedoejgpiaaDoor
open Go.RowKit

def headCells (h : List UInt8) (c : Int) : Array Value := (h.map bv ++ [Value.int .i64 c]).toArray
def HeadPost (W : World) (h : List UInt8) (c : Int) (e : Ending) (w : World) : Prop := e = .returned (.agg (headCells h c)) ∧ Upd [] W w
theorem ord_build2 {P : Program} {md : Region.Mode} {ops : Array Oper} {S : World → Prop} {Q : Exit → Act → World → Prop} {i : Nat} {o : Oper} {r : Ord} {a : Act} {w : World} (ho : ops[i]? = some o) (hg : o.guard = none) {t : TypeId} {k l : Nat} {x y : Operand} (hop : o.op = .build t #[(k, x), (l, y)])
    (u u' v : Value) (hx : a.eval x = u) (hy : a.eval y = u') (hr : ∀ w, (Instr.build t #[(k, u), (l, u')]).run P w = .ok v w) (hS : S w) (h : wpOrd P md ops S Q r (a.put o.dst v) w) : wpOrd P md ops S Q (.take i r) a w :=
  ord_take ho hg hS (fun w _ => by unfold execOp; simp only [hop, List.map_toArray, List.map_cons, List.map_nil, hx, hy, Sem.run_bind, hr, Result.andThen_ok, Sem.run_pure]) h
theorem run_build_head (w : World) (l : List UInt8) (c : Int) (h : l.length = 32) : (Instr.build 38 #[(0, .agg (bsArr l)), (1, .int .i64 c)]).run Tryd.prog w = .ok (.agg (headCells l c)) w := by
  refine run_build_struct w (z := .agg (List.replicate 32 (Value.int .u8 0) ++ [Value.int .i64 0]).toArray) (places := #[(0, 32), (32, 1)]) (by kernel_rfl) Tryd.underlying38 (by kernel_rfl) ?_
  rw [fill_part (off := 0) (by simp [Value.cells, bsArr, h]) (by simp [Value.cells, bsArr, h])]
  rw [fill_part (off := 32) (by rfl) (by simp [Value.cells, splice, bsArr, h])]
  simp [Instr.fill, splice, Value.cells, bsArr, headCells, h]
set_option maxRecDepth 4000 in
theorem next1_any (w : World) (h record : List UInt8) (c : Nat) (ro : Option Addr) (rc : Nat) (hh : h.length = 32) (hr : Bytes w (.slice ro record.length rc) record) (hrb : blkE (.slice ro record.length rc) ≤ w.heap.size) (hl : record.length ≤ 1000000) (ht : Table w) (hc : c ≤ 1000000000) :
    Calls Tryd.prog 40 #[.agg (headCells h c), .slice ro record.length rc] w (HeadPost w (linkOf h record) (c + 1)) := by
  obtain ⟨q2, hq2⟩ : ∃ q, w.heap.size = q := ⟨_, rfl⟩
  have HS := Lib.hid (And.intro hh (And.intro hr (And.intro hrb (And.intro hl (And.intro ht hq2)))))
  clear hh hr hrb hl ht
  go_enter Tryd.func40, Tryd.ntmps40
  go_wp2_with (with_reducible refine wpList_box (o := ⟨some 2, _, _, _, _, _⟩) rfl 38 (.tmp 0) rfl (.agg (headCells h c)) rfl ?_)
  obtain ⟨wa, hwa⟩ : ∃ wa, w.alloc (Obj.cells (headCells h c) 38) = wa := ⟨_, rfl⟩
  have pa : Blk wa q2 (headCells h c) 38 := by rw [← hwa]; exact Blk.newAt hq2.symm _ _
  have ua : Upd [] w wa := by rw [← hwa]; exact (Upd.refl [] w).alloc _
  have sa : wa.heap.size = q2 + 1 := by rw [← hwa]; simp; exact hq2
  rw [hwa]
  obtain ⟨wb, hwb⟩ : ∃ wb, wa.alloc (Obj.cells (headCells (List.replicate 32 0) 0) 38) = wb := ⟨_, rfl⟩
  have pb : Blk wb (q2 + 1) (headCells (List.replicate 32 0) 0) 38 := by rw [← hwb]; exact Blk.newAt sa.symm _ _
  have pa2 : Blk wb q2 (headCells h c) 38 := by rw [← hwb]; exact pa.alloc _
  have ub : Upd [] w wb := by rw [← hwb]; exact ua.alloc _
  have hwb' : wa.alloc (Obj.cells #[.int .u8 0, .int .u8 0, .int .u8 0, .int .u8 0, .int .u8 0, .int .u8 0, .int .u8 0, .int .u8 0, .int .u8 0, .int .u8 0, .int .u8 0, .int .u8 0, .int .u8 0, .int .u8 0, .int .u8 0, .int .u8 0, .int .u8 0, .int .u8 0, .int .u8 0, .int .u8 0, .int .u8 0, .int .u8 0, .int .u8 0, .int .u8 0, .int .u8 0, .int .u8 0, .int .u8 0, .int .u8 0, .int .u8 0, .int .u8 0, .int .u8 0, .int .u8 0, .int .i64 0] 38) = wb := hwb
  rw [hwb']
  have c32 : ∀ w, Blk w q2 (headCells h c) 38 → w.cell? ⟨q2, 32, none⟩ = some (.int .i64 c) := fun w hw => hw.cell (by simp [headCells, HS.out.1])
  have hszH : (Tryd.prog.info? 36).map (·.size) = some (h.map bv).length := by rw [List.length_map, HS.out.1]; kernel_rfl
  have w1 : IntKind.i64.wrap ((c : Int) + 1) = (c : Int) + 1 := by rw [IntKind.wrap_i64]; omega
  have S0 : Blk wb.drew q2 (headCells h c) 38 := pa2
  clear hwb hwb' hwa
  refine wp_region_ord (S := fun w => Blk w q2 (headCells h c) 38) (.take 0 (.take 1 (.take 2 (.take 4 (.take 5 (.take 6 (.act 3 (.take 7 (.act 8 .done))))))))) (by kernel_rfl) (by kernel_rfl) (fun _ _ d _ _ h => by cases d <;> exact h) ?_
  (refine ord_ex rfl rfl S0 ?_; apply Exists.intro; refine ⟨fun _ _ => ?_, ?_⟩; (focus (rename_i w hw; skip; go_simp; rfl)); simp only [Act.put, List.setIfInBounds_toArray, List.set_cons_zero, List.set_cons_succ, List.getElem_toArray, List.getElem_cons_succ, List.getElem_cons_zero])
  refine ord_load_blk rfl rfl rfl q2 0 rfl _ 38 (fun _ h => h) _ (h.map bv) (fun j u hj => by rw [Nat.zero_add]; simp only [headCells, List.getElem?_toArray]; rw [List.getElem?_append_left (List.getElem?_eq_some_iff.1 hj).1]; exact hj) Tryd.underlying36 rfl hszH S0 ?_
  simp only [Act.put, List.setIfInBounds_toArray, List.set_cons_zero, List.set_cons_succ, List.getElem_toArray, List.getElem_cons_succ, List.getElem_cons_zero]
  repeat (refine ord_ex rfl rfl S0 ?_; apply Exists.intro; refine ⟨fun _ _ => ?_, ?_⟩; (focus (rename_i w hw; have c32' := c32 _ hw; go_simp; rfl)); simp only [Act.put, List.setIfInBounds_toArray, List.set_cons_zero, List.set_cons_succ, List.getElem_toArray, List.getElem_cons_succ, List.getElem_cons_zero])
  refine ord_act rfl ?_
  go_wp2_with fail
  have ub2 : Upd [] w wb.drew := ub.drew
  have hlk := link_any wb.drew h record ro rc HS.out.1 (HS.out.2.1.upd ub2 (by simp)) (Nat.le_trans HS.out.2.2.1 ub2.size) HS.out.2.2.2.1 (HS.out.2.2.2.2.1.upd ub2 (by simp))
  refine hlk.mono ?_
  rintro e w2 ⟨rfl, u2⟩
  have S2 : Blk w2 q2 (headCells h c) 38 := S0.upd u2 (by simp)
  have P2 : Blk w2 (q2 + 1) (headCells (List.replicate 32 0) 0) 38 := Blk.upd (w := wb.drew) pb u2 (by simp)
  have U2 : Upd [] w w2 := ub2.trans u2 (by simp)
  have hlen : (linkOf h record).length = 32 := by unfold linkOf ofParts StreamS.sum; simp [toldN_len]
  have hb := fun w => run_build_head w (linkOf h record) ((c : Int) + 1) hlen
  have HX := Lib.hid (And.intro S2 (And.intro P2 (And.intro U2 (And.intro hlen hb))))
  clear S2 P2 U2 u2 hlk hlen hb
  obtain ⟨T, hT⟩ : ∃ T, linkOf h record = T := ⟨_, rfl⟩
  rw [hT] at HX ⊢
  have HTT := Lib.hid hT
  clear hT
  go_wp2_with fail
  refine ⟨fun _ => HX.out.1, ?_⟩
  refine ord_build2 rfl rfl rfl (.agg (bsArr T)) (.int .i64 ((c : Int) + 1)) (.agg (headCells T ((c : Int) + 1))) rfl rfl HX.out.2.2.2.2 HX.out.1 ?_
  simp only [Act.put, List.setIfInBounds_toArray, List.set_cons_zero, List.set_cons_succ, List.getElem_toArray, List.getElem_cons_succ, List.getElem_cons_zero]
  refine ord_act rfl ?_
  have hlm : (headCells T ((c : Int) + 1)).toList.length = 33 := by simp [headCells, HX.out.2.2.2.1]
  have hone : ((headCells T ((c : Int) + 1)).toList.all fun u => u.oneCell') = true := by
    simp only [headCells, List.all_append]
    rw [List.all_eq_true.2 (bv_one T)]; rfl
  refine wpList_store_blk rfl 38 (.tmp 4) (.tmp 12) rfl (b := q2 + 1) 0 (by kernel_rfl) HX.out.2.1 (.agg (headCells T ((c : Int) + 1))) (by kernel_rfl) (headCells T ((c : Int) + 1)).toList rfl (by rw [hlm]; simp [headCells]) hone (by rw [hlm]; kernel_rfl) ?_
  intro w7 b7 u7
  rw [splice_all (by rw [hlm]; simp [headCells])] at b7
  refine ⟨fun h => Bool.noConfusion (h.symm.trans (by kernel_rfl : waitsAll _ _ _ = true)), ?_⟩
  show Exit.then _ _ Exit.normal _ _
  have G7 := Lib.hid (And.intro b7 (HX.out.2.2.1.trans u7 (by simp; omega)))
  clear b7 u7
  go_wp2
  refine bodyPost_ret (results_blk rfl _ G7.out.1 _ rfl Tryd.underlying38 rfl (by rw [List.size_toArray, hlm]; kernel_rfl)) rfl ?_
  unfold HeadPost
  rw [HTT.out]
  exact ⟨rfl, G7.out.2⟩
end Go.Proofs.YtnfnaedoejgpiaaDoor
namespace Go.Proofs.YtnfnaedoejgpiaaDoor
open Go.RowKit

theorem part_hash (w : World) (h : List UInt8) (c : Int) (hh : h.length = 32) : (part 36 (headCells h c) 0).run Tryd.prog w = .ok (.agg (bsArr h)) w := by
  have h1 : (isAgg 36).run Tryd.prog w = .ok true w := by kernel_rfl
  have h2 : (sizeOf 36).run Tryd.prog w = .ok 32 w := by kernel_rfl
  simp only [part, Sem.run_bind, h1, Result.andThen_ok, if_true, h2, Sem.run_pure]
  have e : (headCells h c).extract 0 (0 + 32) = bsArr h := by
    apply Array.ext'
    simp [headCells, bsArr, hh]
  rw [e]
theorem part_count (w : World) (h : List UInt8) (c : Int) (hh : h.length = 32) : (part 3 (headCells h c) 32).run Tryd.prog w = .ok (.int .i64 c) w := by
  have h1 : (isAgg 3).run Tryd.prog w = .ok false w := by kernel_rfl
  have h2 : (headCells h c)[32]? = some (.int .i64 c) := by simp [headCells, hh]
  simp [part, Sem.run_bind, h1, h2]
theorem field_count (w : World) (h : List UInt8) (c : Int) (hh : h.length = 32) : (Instr.field 38 (.agg (headCells h c)) 1).run Tryd.prog w = .ok (.int .i64 c) w := by
  have hp := part_count w h c hh
  unfold Instr.field
  simp only [Sem.run_bind, run_underlying Tryd.underlying38 w, Result.andThen_ok]
  simp [asAgg, hp]
theorem field_hash (w : World) (h : List UInt8) (c : Int) (hh : h.length = 32) : (Instr.field 38 (.agg (headCells h c)) 0).run Tryd.prog w = .ok (.agg (bsArr h)) w := by
  have hp := part_hash w h c hh
  unfold Instr.field
  simp only [Sem.run_bind, run_underlying Tryd.underlying38 w, Result.andThen_ok]
  simp [asAgg, hp]
/-- Two fingerprints compared. -/
theorem eq_hash (w : World) (h h' : List UInt8) (hh : h.length = 32) (hh' : h'.length = 32) : (binOp .eql 36 (.agg (bsArr h)) (.agg (bsArr h'))).run Tryd.prog w = .ok (.bool (h == h')) w := by
  have hbs : (Op.equalIn 10000 36 (.agg (bsArr h)) (.agg (bsArr h'))).run Tryd.prog w = .ok (h == h') w := run_equalIn_bytes (P := Tryd.prog) w 9998 36 5 32 Tryd.underlying36 Tryd.underlying5 (fun w => by kernel_rfl) h h' hh hh'
  rw [run_eql_struct, hbs]
  rfl
end Go.Proofs.YtnfnaedoejgpiaaDoor
