/- BookCrashes is proved: whatever the calls, the law's call returns true. Condition: sha's table of words starts as the program's text lays it (the card ties it to that text). -/
import Derived.Test.YtnfnaedoejgpiaaDoorOpenOps
import Derived.Test.YtnfnaedoejgpiaaDoorLawCrashes
import Derived.Test.YtnfnaedoejgpiaaDoorCards
import Derived.Test.YtnfnaedoejgpiaaDoorTie
import Derived.SevenTiedAt
namespace Go.Proofs.YtnfnaedoejgpiaaDoor
open Go.ChangeShapes Go.WideShapes Go.ChangeAt Go.RowKit

set_option maxRecDepth 100000 in
theorem bookCrashes_lifted (os : Os) (started : os.Started) (H : Type) (enc : TypeId × Value → H) :
    ReturnsInHanded {} Tryd.checked os 6 .any (fun w args => (Rows.bookCrashesSpec.pre enc Tryd.prog Tryd.f6 [] false w args ∧ laidMetH Tryd.prog laid1 w) ∧ sizedMet enc Tryd.prog Tryd.f6 (OpenSpec.ofChange Rows.bookCrashesSpec) false w args)
      (Rows.bookCrashesSpec.post enc Tryd.prog Tryd.f6 false true false false) := by
  refine returnsInHanded_of_change_and (C := Tryd.checked) (X := fun w _ => laidMetH Tryd.prog laid1 w) (fun _ _ _ hh h => h.of_heap hh) ownK started (by kernel_rfl) Tryd.func6
    (ChangeSpec.witness_shaped (enc := enc) (C := Tryd.checked) (os := os) (X := fun w _ => laidMetH Tryd.prog laid1 w) false (World.doorLaid Tryd.prog 400 os) #[.slice none 0 0] 8 rfl (World.shaped_of_RefB (by kernel_rfl) (by kernel_rfl)) (by kernel_rfl) (by kernel_rfl) (by kernel_rfl) (door_met os _)) ?_
  intro W base args ds gs before hval0 hW _ _ hL _
  have hval : ∀ (j : Nat) t v, Tryd.f6.params[j]? = some t → args[j]? = some v → Value.okWide Tryd.prog W .any base t v := hval0
  have hW' := hW
  obtain ⟨p, q, hA0, hV, rfl, hfz, hnd⟩ := hW
  have hA : DataW.TrodAll enc Tryd.prog W 0 (fun _ => true) true Tryd.f6.params.toList args.toList ds p := hA0
  rw [Tryd.params6] at hA hval
  obtain ⟨v0, d0, rfl, rfl, h1⟩ := trodAll_one hA
  obtain ⟨rfl, rfl⟩ := trodVars_none hV
  obtain ⟨fuel, h2⟩ := id h1
  obtain ⟨ao, m, c, l, hcs, hm, hO⟩ := open_ops h2
  have hv1 : v0 = .slice ao m c := by
    obtain ⟨a', b', c', rfl⟩ := okWide_slice Tryd.underlying42 (hval 0 42 v0 rfl rfl)
    simpa [Value.cells] using hcs
  subst hv1
  have ht := table_of_laid hL
  clear hA0 hval0
  simp only [List.append_nil] at hW'
  refine (lawCrashes_any W ao m c l hO hm ht).mono fun e W' ⟨he, hu⟩ => ?_
  subst he
  exact ⟨_, rfl, law_post (pa := p) (pv := []) hW' (by kernel_rfl) rfl (trodAll_mk1 (Below.trod laidOutK (by kernel_rfl) (of_decide_eq_true (by kernel_rfl)) h1 hu.below (fun x hx => hW'.lt x hx))) rfl (by simp) hu⟩
theorem bookCrashes_row : Rows.BookCrashesSaid :=
  OpenClaim.holds_of_wide 6 Tryd.f6 rfl rfl rfl rfl rfl rfl rfl ⟨rfl, rfl, rfl, rfl, rfl⟩ rfl rfl rfl rfl rfl (by kernel_rfl) Tryd.func6 (by kernel_rfl)
    (of_decide_eq_true (by kernel_rfl)) (by unfold Func.isWrapper; first | (rw [if_pos (by decide +kernel)]; kernel_rfl) | (rw [if_neg (by decide +kernel)]; exact ⟨rfl, rfl⟩))
    (fun os started H enc _ => bookCrashes_lifted os started H enc)
theorem bookCrashes_holds : Rows.BookCrashesCardSaid :=
  Claim7.holds_tied_plain_at .later [] [.data] true Rows.bookCrashesCard.stood.harness false
    bookCrashes_row (fun _ h => by cases h) (by kernel_rfl) (fun _ h => by cases h) bookCrashes_row_tie rfl ⟨rfl, rfl⟩ (by kernel_rfl) rfl
    (fun f fn hf hfn => by
      obtain rfl : f = 6 := Option.some.inj ((show Tryd.prog.funcNamed "gatepost/gatepostlaw06.BookCrashes" = some 6 by kernel_rfl).symm.trans hf) |>.symm
      obtain rfl : fn = Tryd.f6 := (Option.some.inj (Tryd.func6.symm.trans hfn)).symm
      exact ⟨by kernel_rfl, fun j t ht => by
        rw [Tryd.params6] at ht
        have hm : t ∈ [42] := by simpa using Array.mem_of_getElem? ht
        have hall : ([42].all fun u => !Tryd.prog.wantsStandIn u) = true := by kernel_rfl
        exact (show Tryd.prog.wantsStandIn t = false by simpa using List.all_eq_true.1 hall t hm)⟩)
    (by kernel_rfl)
#print axioms bookCrashes_holds
end Go.Proofs.YtnfnaedoejgpiaaDoor
