/- Fingerprints of parts; links. -/
import Derived.Test.YtnfnaedoejgpiaaDoorSum
namespace Go.Proofs.YtnfnaedoejgpiaaDoor
open Go.RowKit

def ofParts (ls : List (List UInt8)) : List UInt8 := (StreamS.new.takes ls).sum
def HashPost (W : World) (l : List UInt8) (e : Ending) (w : World) : Prop := e = .returned (.agg (bsArr l)) ∧ Upd [] W w
theorem takes_left_lt {S : StreamS} (h : S.left.length < 64) : ∀ l, (S.takes l).left.length < 64
  | [] => h
  | b :: l => takes_left_lt (S := S.take b) (absorb_lt _ _) l
set_option maxRecDepth 4000 in
theorem of_any (w : World) (po : Option Addr) (pc : Nat) (vs : List Value) (ls : List (List UInt8)) (hv : Sl w (.slice po ls.length pc) ls.length 1 vs) (hvp : blkOf (.slice po ls.length pc) ≤ w.heap.size) (hP : Parts w w.heap.size vs ls) (ht : Table w) (hm : ls.length ≤ 1000000) :
    Calls Tryd.prog 64 #[.slice po ls.length pc] w (HashPost w (ofParts ls)) := by
  obtain ⟨q2, hq2⟩ : ∃ q, w.heap.size = q := ⟨_, rfl⟩
  have HS := Lib.hid (And.intro hv (And.intro hvp (And.intro hP (And.intro ht (And.intro hm hq2)))))
  clear hv hvp hP ht hm
  have hzH : bsArr (List.replicate 32 0) = bsArr (List.replicate 32 0) := rfl
  clear hzH
  go_enter Tryd.func64, Tryd.ntmps64
  go_wp2_with fail
  refine (snew_any _).mono ?_
  rintro e w1 ⟨p, rfl, s1, u1, hp1⟩
  have r1 : Blk w1 q2 (bsArr (List.replicate 32 0)) 36 := (Blk.newAt (w := w) hq2.symm _ _).upd u1 (by simp)
  have U1 : Upd [] w w1 := ((Upd.refl [] w).alloc _).trans u1 (by simp)
  have hqp : q2 < p := by simp at hp1; omega
  have H1 := Lib.hid (And.intro s1 (And.intro r1 (And.intro U1 hqp)))
  clear s1 r1 U1 u1 hp1 hqp hq2
  go_wp2_with fail
  have hq := HS.out.2.2.2.2.2
  have hqp := H1.out.2.2.2
  have hpar : Parts w1 p vs ls := ⟨HS.out.2.2.1.1, fun i h h' => ⟨(HS.out.2.2.1.2 i h h').1.upd H1.out.2.2.1 (by simp), by have := (HS.out.2.2.1.2 i h h').2.1; omega, (HS.out.2.2.1.2 i h h').2.2⟩⟩
  have hW := swrite_any w1 p StreamS.new (.slice none 0 0) po pc vs ls H1.out.1 (HS.out.1.upd H1.out.2.2.1 (by simp)) (by have := HS.out.2.1; omega) hpar (HS.out.2.2.2.1.upd H1.out.2.2.1 (by simp)) (by omega) (by decide) HS.out.2.2.2.2.1
  refine hW.mono ?_
  clear hW hpar hq hqp
  rintro e w2 ⟨rfl, ⟨v2, s2⟩, b2⟩
  have t2 : Table w2 := (HS.out.2.2.2.1.upd H1.out.2.2.1 (by simp)).below b2 (by have := H1.out.2.2.2; omega)
  have H2 := Lib.hid (And.intro s2 (And.intro b2 t2))
  clear s2 b2 t2
  go_wp2_with fail
  refine (sum_any w2 p (StreamS.new.takes ls) v2 H2.out.1 (takes_left_lt (by decide) ls) H2.out.2.2).mono ?_
  rintro e w6 ⟨rfl, u6⟩
  have hsum : (StreamS.new.takes ls).sum = ofParts ls := rfl
  rw [hsum]
  have hlm : ((ofParts ls).map bv).length = 32 := by unfold ofParts StreamS.sum; simp [toldN_len]
  have hszH : (Tryd.prog.info? 36).map (·.size) = some ((ofParts ls).map bv).length := by rw [hlm]; kernel_rfl
  have hone := List.all_eq_true.2 (bv_one (ofParts ls))
  have r6 : Blk w6 q2 (bsArr (List.replicate 32 0)) 36 := Blk.upd (S := []) ((H1.out.2.1).below H2.out.2.1 H1.out.2.2.2) u6 (by simp)
  have hqp := H1.out.2.2.2
  have ur := H1.out.2.2.1
  have hw := HS.out.2.2.2.2.2
  have u5 : Upd [] w w2 := ⟨H2.out.2.1.os.trans ur.os, H2.out.2.1.tape.trans ur.tape, H2.out.2.1.output.trans ur.output, Nat.le_trans ur.size H2.out.2.1.size, fun k hk _ => (H2.out.2.1.block k (by omega)).trans (ur.block k hk (by simp))⟩
  have H6 := Lib.hid (And.intro r6 (And.intro hlm (And.intro hszH (And.intro hone (And.intro u5 u6)))))
  clear r6 hlm hszH hone u5 u6 hsum hqp ur hw
  obtain ⟨T, hT⟩ : ∃ T, ofParts ls = T := ⟨_, rfl⟩
  rw [hT] at H6 ⊢
  have HTT := Lib.hid hT
  clear hT
  go_wp2_with (with_reducible refine wpList_store_blk (o := ⟨none, .store 36 (.tmp 2) (.tmp 9), _, _, _, _⟩) rfl 36 (.tmp 2) (.tmp 9) rfl (b := q2) 0 rfl H6.out.1 (.agg (T.map bv).toArray) rfl (T.map bv) rfl ?_ H6.out.2.2.2.1 H6.out.2.2.1 ?_)
  · rw [H6.out.2.1]; simp [bsArr]
  intro w7 b7 u7
  rw [splice_all (by rw [H6.out.2.1]; simp [bsArr])] at b7
  have G7 := Lib.hid (And.intro b7 ((H6.out.2.2.2.2.1.trans H6.out.2.2.2.2.2 (by simp)).trans u7 (by have := HS.out.2.2.2.2.2; simp; omega)))
  clear b7 u7
  go_wp2
  refine bodyPost_ret (results_blk rfl _ G7.out.1 _ rfl Tryd.underlying36 rfl (by rw [List.size_toArray]; exact H6.out.2.2.1)) rfl ?_
  unfold HashPost
  rw [HTT.out]
  exact ⟨rfl, G7.out.2⟩
end Go.Proofs.YtnfnaedoejgpiaaDoor
