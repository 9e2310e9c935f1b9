/- BookOwn is proved: whatever the record, the law's call returns true. Condition: sha's table of words starts as the program's text lays it (the card ties it to that text). -/
import Derived.Test.YtnfnaedoejgpiaaDoorOpenB
import Derived.Test.YtnfnaedoejgpiaaDoorLawOwn
import Derived.Test.YtnfnaedoejgpiaaDoorCards
import Derived.Test.YtnfnaedoejgpiaaDoorTie
import Derived.SevenTiedAt
namespace Go.Proofs.YtnfnaedoejgpiaaDoor
open Go.ChangeShapes Go.WideShapes Go.ChangeAt Go.RowKit

set_option maxRecDepth 100000 in
theorem bookOwn_lifted (os : Os) (started : os.Started) (H : Type) (enc : TypeId × Value → H) :
    ReturnsInHanded {} Tryd.checked os 4 .any (fun w args => (Rows.bookOwnSpec.pre enc Tryd.prog Tryd.f4 [] false w args ∧ laidMetH Tryd.prog laid1 w) ∧ sizedMet enc Tryd.prog Tryd.f4 (OpenSpec.ofChange Rows.bookOwnSpec) false w args)
      (Rows.bookOwnSpec.post enc Tryd.prog Tryd.f4 false true false false) := by
  refine returnsInHanded_of_change_and (C := Tryd.checked) (X := fun w _ => laidMetH Tryd.prog laid1 w) (fun _ _ _ hh h => h.of_heap hh) ownK started (by kernel_rfl) Tryd.func4
    (ChangeSpec.witness_shaped (enc := enc) (C := Tryd.checked) (os := os) (X := fun w _ => laidMetH Tryd.prog laid1 w) false (World.doorLaid Tryd.prog 400 os) #[.slice none 0 0] 8 rfl (World.shaped_of_RefB (by kernel_rfl) (by kernel_rfl)) (by kernel_rfl) (by kernel_rfl) (by kernel_rfl) (door_met os _)) ?_
  intro W base args ds gs before hval0 hW _ _ hL _
  have hval : ∀ (j : Nat) t v, Tryd.f4.params[j]? = some t → args[j]? = some v → Value.okWide Tryd.prog W .any base t v := hval0
  have hW' := hW
  obtain ⟨p, q, hA0, hV, rfl, hfz, hnd⟩ := hW
  have hA : DataW.TrodAll enc Tryd.prog W 0 (fun _ => true) true Tryd.f4.params.toList args.toList ds p := hA0
  rw [Tryd.params4] at hA hval
  obtain ⟨v0, d0, rfl, rfl, h0⟩ := trodAll_one hA
  obtain ⟨rfl, rfl⟩ := trodVars_none hV
  have hok := okWide_blk (hval 0 26 v0 rfl rfl)
  obtain ⟨fuel, h1⟩ := id h0
  obtain ⟨ao, n, c, r, hcs, hn, hB⟩ := open_bytesT h1
  have hv0 : v0 = .slice ao n c := by
    obtain ⟨a', b', c', rfl⟩ := okWide_slice Tryd.underlying26 (hval 0 26 v0 rfl rfl)
    simpa [Value.cells] using hcs
  subst hv0
  have ht := table_of_laid hL
  clear hA0 hval0
  simp only [List.append_nil] at hW'
  subst hn
  refine (lawOwn_any W ao c r hB hok ht).mono fun e W' ⟨he, hu⟩ => ?_
  subst he
  exact ⟨_, rfl, law_post (pa := p) (pv := []) hW' (by kernel_rfl) rfl (trodAll_mk1 (Below.trod laidOutK (by kernel_rfl) (of_decide_eq_true (by kernel_rfl)) h0 hu.below (fun x hx => hW'.lt x hx))) rfl (by simp) hu⟩
theorem bookOwn_row : Rows.BookOwnSaid :=
  OpenClaim.holds_of_wide 4 Tryd.f4 rfl rfl rfl rfl rfl rfl rfl ⟨rfl, rfl, rfl, rfl, rfl⟩ rfl rfl rfl rfl rfl (by kernel_rfl) Tryd.func4 (by kernel_rfl)
    (of_decide_eq_true (by kernel_rfl)) (by unfold Func.isWrapper; first | (rw [if_pos (by decide +kernel)]; kernel_rfl) | (rw [if_neg (by decide +kernel)]; exact ⟨rfl, rfl⟩))
    (fun os started H enc _ => bookOwn_lifted os started H enc)
theorem bookOwn_holds : Rows.BookOwnCardSaid :=
  Claim7.holds_tied_plain_at .later [] [.data] true Rows.bookOwnCard.stood.harness false
    bookOwn_row (fun _ h => by cases h) (by kernel_rfl) (fun _ h => by cases h) bookOwn_row_tie rfl ⟨rfl, rfl⟩ (by kernel_rfl) rfl
    (fun f fn hf hfn => by
      obtain rfl : f = 4 := Option.some.inj ((show Tryd.prog.funcNamed "gatepost/gatepostlaw06.BookOwn" = some 4 by kernel_rfl).symm.trans hf) |>.symm
      obtain rfl : fn = Tryd.f4 := (Option.some.inj (Tryd.func4.symm.trans hfn)).symm
      exact ⟨by kernel_rfl, fun j t ht => by
        rw [Tryd.params4] at ht
        have hm : t ∈ [26] := by simpa using Array.mem_of_getElem? ht
        have hall : ([26].all fun u => !Tryd.prog.wantsStandIn u) = true := by kernel_rfl
        exact (show Tryd.prog.wantsStandIn t = false by simpa using List.all_eq_true.1 hall t hm)⟩)
    (by kernel_rfl)
#print axioms bookOwn_holds
end Go.Proofs.YtnfnaedoejgpiaaDoor
