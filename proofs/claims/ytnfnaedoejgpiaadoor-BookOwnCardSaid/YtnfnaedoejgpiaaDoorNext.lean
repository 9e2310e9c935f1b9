/- Links, and heads behind records. -/
import Derived.Test.YtnfnaedoejgpiaaDoorLink
namespace Go.Proofs.YtnfnaedoejgpiaaDoor
open Go.RowKit

def be4 (n : Nat) : List UInt8 := [UInt8.ofNat (n / 2 ^ 24), UInt8.ofNat (n / 2 ^ 16), UInt8.ofNat (n / 2 ^ 8), UInt8.ofNat n]
/-- A link. -/
def linkOf (prev record : List UInt8) : List UInt8 := ofParts [prev, be4 record.length, record]
set_option maxRecDepth 4000 in
theorem link_any (w : World) (prev record : List UInt8) (ro : Option Addr) (rc : Nat) (hp : prev.length = 32) (hr : Bytes w (.slice ro record.length rc) record) (hrb : blkOf (.slice ro record.length rc) ≤ w.heap.size) (hl : record.length ≤ 1000000) (ht : Table w) :
    Calls Tryd.prog 54 #[.agg (bsArr prev), .slice ro record.length rc] w (HashPost w (linkOf prev record)) := by
  obtain ⟨q2, hq2⟩ : ∃ q, w.heap.size = q := ⟨_, rfl⟩
  obtain ⟨n, hn⟩ : ∃ n, record.length = n := ⟨_, rfl⟩
  rw [hn] at hl
  have HB := Lib.hid hrb
  clear hrb
  have HS := Lib.hid (And.intro hp (And.intro hr (And.intro ht (And.intro hn hq2))))
  rw [hn]
  clear hp hr ht hn
  have hn0 : (0 : Int) ≤ n := by omega
  have hn1 : (n : Int) ≤ 1000000 := by omega
  go_enter Tryd.func54, Tryd.ntmps54
  go_wp2_with (with_reducible refine wpList_box (o := ⟨some 2, _, _, _, _, _⟩) rfl 36 (.tmp 0) rfl (.agg (bsArr prev)) rfl ?_)
  obtain ⟨wa, hwa⟩ : ∃ wa, w.alloc (Obj.cells (bsArr prev) 36) = wa := ⟨_, rfl⟩
  have pa : Blk wa q2 (bsArr prev) 36 := by rw [← hwa]; exact Blk.newAt HS.out.2.2.2.2.symm _ _
  have ua : Upd [] w wa := by rw [← hwa]; exact (Upd.refl [] w).alloc _
  have sa : wa.heap.size = q2 + 1 := by rw [← hwa]; simp; exact HS.out.2.2.2.2
  rw [hwa]
  obtain ⟨wb, hwb⟩ : ∃ wb, wa.alloc (Obj.cells (bsArr (List.replicate 32 0)) 36) = wb := ⟨_, rfl⟩
  have pb : Blk wb (q2 + 1) (bsArr (List.replicate 32 0)) 36 := by rw [← hwb]; exact Blk.newAt sa.symm _ _
  have pa2 : Blk wb q2 (bsArr prev) 36 := by rw [← hwb]; exact pa.alloc _
  have ub : Upd [] w wb := by rw [← hwb]; exact ua.alloc _
  have sb : wb.heap.size = q2 + 2 := by rw [← hwb]; simp; omega
  have hwb' : wa.alloc (Obj.cells #[.int .u8 0, .int .u8 0, .int .u8 0, .int .u8 0, .int .u8 0, .int .u8 0, .int .u8 0, .int .u8 0, .int .u8 0, .int .u8 0, .int .u8 0, .int .u8 0, .int .u8 0, .int .u8 0, .int .u8 0, .int .u8 0, .int .u8 0, .int .u8 0, .int .u8 0, .int .u8 0, .int .u8 0, .int .u8 0, .int .u8 0, .int .u8 0, .int .u8 0, .int .u8 0, .int .u8 0, .int .u8 0, .int .u8 0, .int .u8 0, .int .u8 0, .int .u8 0] 36) = wb := hwb
  rw [hwb']
  have h4 : (#[.int .u8 ((n : Int) / 16777216), .int .u8 ((n : Int) / 65536), .int .u8 ((n : Int) / 256 % 256), .int .u8 ((n : Int) % 256)] : Array Value) = bsArr (be4 n) := by
    have e1 : (n : Int) / 16777216 = ((UInt8.ofNat (n / 2 ^ 24)).toNat : Int) := by simp; omega
    have e2 : (n : Int) / 65536 = ((UInt8.ofNat (n / 2 ^ 16)).toNat : Int) := by simp; omega
    have e3 : (n : Int) / 256 % 256 = ((UInt8.ofNat (n / 2 ^ 8)).toNat : Int) := by simp
    have e4 : (n : Int) % 256 = ((UInt8.ofNat n).toNat : Int) := by simp
    rw [e1, e2, e3, e4]; rfl
  rw [h4]
  obtain ⟨wc, hwc⟩ : ∃ wc, wb.alloc (Obj.cells (bsArr (be4 n)) 5) = wc := ⟨_, rfl⟩
  have pc : Blk wc (q2 + 1 + 1) (bsArr (be4 n)) 5 := by rw [← hwc]; exact Blk.newAt sb.symm _ _
  have uc : Upd [] wb wc := by rw [← hwc]; exact (Upd.refl [] wb).alloc _
  have sc : wc.heap.size = q2 + 3 := by rw [← hwc]; simp; omega
  rw [hwc]
  obtain ⟨wd, hwd⟩ : ∃ wd, wc.alloc (Obj.cells #[.slice (some ⟨q2, 0, none⟩) 32 32, .slice (some ⟨q2 + 1 + 1, 0, none⟩) 4 4, .slice ro n rc] 26) = wd := ⟨_, rfl⟩
  have pd : Blk wd (q2 + 1 + 1 + 1) #[.slice (some ⟨q2, 0, none⟩) 32 32, .slice (some ⟨q2 + 1 + 1, 0, none⟩) 4 4, .slice ro n rc] 26 := by rw [← hwd]; exact Blk.newAt sc.symm _ _
  have ud : Upd [] wc wd := by rw [← hwd]; exact (Upd.refl [] wc).alloc _
  have sd : wd.heap.size = q2 + 4 := by rw [← hwd]; simp; omega
  rw [hwd]
  have pa4 : Blk wd q2 (bsArr prev) 36 := (pa2.upd uc (by simp)).upd ud (by simp)
  have pb4 : Blk wd (q2 + 1) (bsArr (List.replicate 32 0)) 36 := (pb.upd uc (by simp)).upd ud (by simp)
  have pc4 : Blk wd (q2 + 1 + 1) (bsArr (be4 n)) 5 := pc.upd ud (by simp)
  have U : Upd [] w wd := (ub.trans uc (by simp)).trans ud (by simp)
  have b1 : Bytes wd (.slice (some ⟨q2, 0, none⟩) 32 32) prev := pa4.bytes prev HS.out.1 (by unfold maxLen; omega) (fun j u h => by rw [Nat.zero_add]; simpa [bsArr] using h)
  have b2 : Bytes wd (.slice (some ⟨q2 + 1 + 1, 0, none⟩) 4 4) (be4 n) := pc4.bytes (be4 n) rfl (by unfold maxLen; omega) (fun j u h => by rw [Nat.zero_add]; simpa [bsArr] using h)
  have b3 : Bytes wd (.slice ro n rc) record := by have := HS.out.2.1.upd U (by simp); rw [HS.out.2.2.2.1] at this; show Sl wd (.slice ro n rc) record.length 1 _; rw [HS.out.2.2.2.1]; exact this
  have hbr : blkOf (.slice ro n rc) ≤ w.heap.size := by rw [blkOf_len ro n rc record.length rc]; exact HB.out
  have hsz := HS.out.2.2.2.2
  have hsl : Sl wd (.slice (some ⟨q2 + 1 + 1 + 1, 0, none⟩) [prev, be4 n, record].length 3) [prev, be4 n, record].length 1 [.slice (some ⟨q2, 0, none⟩) 32 32, .slice (some ⟨q2 + 1 + 1, 0, none⟩) 4 4, .slice ro n rc] := Sl.ofBlk pd rfl (by show 3 ≤ _; unfold maxLen; omega)
  have hparts : Parts wd wd.heap.size [.slice (some ⟨q2, 0, none⟩) 32 32, .slice (some ⟨q2 + 1 + 1, 0, none⟩) 4 4, .slice ro n rc] [prev, be4 n, record] := by
    refine ⟨rfl, fun i h h' => ?_⟩
    have hi : i = 0 ∨ i = 1 ∨ i = 2 := by simp at h; omega
    rcases hi with rfl | rfl | rfl
    · exact ⟨b1, by simp [blkOf]; omega, by have := HS.out.1; simp; omega⟩
    · exact ⟨b2, by simp [blkOf]; omega, by simp [be4]⟩
    · refine ⟨b3, ?_, ?_⟩
      · show blkOf (.slice ro n rc) ≤ _; omega
      · show record.length ≤ _; have := HS.out.2.2.2.1; omega
  have hO := of_any wd (some ⟨q2 + 1 + 1 + 1, 0, none⟩) 3 _ [prev, be4 n, record] hsl (by simp [blkOf]; omega) hparts (HS.out.2.2.1.upd U (by simp)) (by simp)
  refine hO.mono ?_
  rintro e w6 ⟨rfl, u6⟩
  have hres : ofParts [prev, be4 n, record] = linkOf prev record := by unfold linkOf; rw [HS.out.2.2.2.1]
  rw [hres]
  have hlm : ((linkOf prev record).map bv).length = 32 := by unfold linkOf ofParts StreamS.sum; simp [toldN_len]
  have hszH : (Tryd.prog.info? 36).map (·.size) = some ((linkOf prev record).map bv).length := by rw [hlm]; kernel_rfl
  have hone := List.all_eq_true.2 (bv_one (linkOf prev record))
  have H6 := Lib.hid (And.intro (pb4.upd u6 (by simp)) (And.intro hlm (And.intro hszH (And.intro hone (U.trans u6 (by simp))))))
  clear hwa pa ua sa hwb pb pa2 ub sb hwb' h4 hwc pc uc sc hwd pd ud sd pa4 pb4 pc4 U b1 b2 b3 hbr hsz hsl hparts hO u6 hres hlm hszH hone
  obtain ⟨T, hT⟩ : ∃ T, linkOf prev record = T := ⟨_, rfl⟩
  rw [hT] at H6 ⊢
  have HTT := Lib.hid hT
  clear hT
  go_wp2_with (with_reducible refine wpList_store_blk (o := ⟨none, .store 36 (.tmp 4) (.tmp 24), _, _, _, _⟩) rfl 36 (.tmp 4) (.tmp 24) rfl (b := q2 + 1) 0 rfl H6.out.1 (.agg (T.map bv).toArray) rfl (T.map bv) rfl ?_ H6.out.2.2.2.1 H6.out.2.2.1 ?_)
  · rw [H6.out.2.1]; simp [bsArr]
  intro w7 b7 u7
  rw [splice_all (by rw [H6.out.2.1]; simp [bsArr])] at b7
  have G7 := Lib.hid (And.intro b7 (H6.out.2.2.2.2.trans u7 (by have := HS.out.2.2.2.2; simp; omega)))
  clear b7 u7
  go_wp2
  refine bodyPost_ret (results_blk rfl _ G7.out.1 _ rfl Tryd.underlying36 rfl (by rw [List.size_toArray]; exact H6.out.2.2.1)) rfl ?_
  unfold HashPost
  rw [HTT.out]
  exact ⟨rfl, G7.out.2⟩
end Go.Proofs.YtnfnaedoejgpiaaDoor
