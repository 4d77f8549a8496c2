/- concordancelaw10.PoolPins returns true for every list and every number of frames; what is handed in stays as it was. The one condition: the row's listed variables (laid). -/
import Derived.Test.YtbpcalmbefkpgaaGreatDoorTie
import Derived.Test.YtbpcalmbefkpgaaGreatDoorCards
import Derived.SevenTiedAt
import Derived.ChangeSlices
import Derived.Test.YtbpcalmbefkpgaaGreatDoorPinsA
import Derived.Test.YtbpcalmbefkpgaaGreatDoorPinsB
import Derived.Test.YtbpcalmbefkpgaaGreatDoorPinsC
import Derived.Test.YtbpcalmbefkpgaaGreatDoorPinsD
import Derived.Test.YtbpcalmbefkpgaaGreatDoorPinsE
import Derived.Test.YtbpcalmbefkpgaaGreatDoorPinsF
set_option linter.unusedVariables false
set_option linter.unusedSimpArgs false

section
/- concordancelaw10.PoolPins returns true for every list and every number of frames; what is handed in stays as it was. The one condition: the row's listed variables (laid). -/
set_option linter.unusedVariables false
set_option linter.unusedSimpArgs false
set_option maxRecDepth 100000
namespace Go.Proofs.YtbpcalmbefkpgaaGreatDoor
open Go.ChangeShapes Go.WideShapes Go.RowKit Go.Sx

theorem params3 : Tryz.f3.params = #[T.s_i64, T.i64_2] := by kernel_rfl
set_option maxRecDepth 100000 in
theorem pins_lifted (os : Os) (started : os.Started) (H : Type) (enc : TypeId × Value → H) :
    ReturnsInHanded {} Tryz.checked os 3 .any (fun w args => (Rows.poolPinsSpec.pre enc Tryz.prog Tryz.f3 [] false w args ∧ laidMetH Tryz.prog laid10 w) ∧ sizedMet enc Tryz.prog Tryz.f3 (OpenSpec.ofChange Rows.poolPinsSpec) false w args)
      (Rows.poolPinsSpec.post enc Tryz.prog Tryz.f3 false true false false) := by
  refine lift_shaped (C := Tryz.checked) (X := fun w _ => laidMetH Tryz.prog laid10 w) (fun _ _ _ hh h => h.of_heap hh) own10 started (by kernel_rfl) Tryz.func3
    (ChangeSpec.witness_shaped (enc := enc) (C := Tryz.checked) (os := os) (X := fun w _ => laidMetH Tryz.prog laid10 w) false (World.laidAll Tryz.prog os laid10) #[.slice none 0 0, .int .i64 0] 8 (World.laidAll_os _ _ _) (World.shaped_of_ZipB (by kernel_rfl) (by kernel_rfl)) (by kernel_rfl) (by kernel_rfl) (by kernel_rfl)
      (by rw [MakeChecks.laidMetH_plain _ _ _ noHandles10]; exact laidMet_laidAll _ (by kernel_rfl) (by kernel_rfl))) ?_
  intro W base args ds gs before hval0 hW _ hL hsh
  have hval : ∀ (j : Nat) t v, Tryz.f3.params[j]? = some t → args[j]? = some v → Value.okWide Tryz.prog W .any base t v := hval0
  have hW' := hW
  obtain ⟨p, q, hA0, hV, rfl, hfz, hnd⟩ := hW
  have hA : DataW.TrodAll enc Tryz.prog W 0 (fun _ => true) true Tryz.f3.params.toList args.toList ds p := hA0
  rw [params3] at hA hval
  obtain ⟨v0, v1, d0, d1, p0, p1, rfl, rfl, rfl, h0, h1⟩ := trodAll_two hA
  obtain ⟨rfl, rfl⟩ := trodVars_none hV
  obtain ⟨n, rfl, rfl, rfl, hwn⟩ := open_int uI (hval 1 T.i64_2 v1 rfl rfl) h1
  obtain ⟨l, hl⟩ := ar_of_ints uSl uI cI (hval 0 T.s_i64 v0 rfl rfl) h0
  have hg := glob_of_laid hL hsh
  refine ((PoolPins_c (K := fun v w' => v = .bool true ∧ Qt W w') (a := n) hg hl (fun w' q => ⟨rfl, q⟩)).2).mono fun e W' he => ?_
  cases e with
  | returned v =>
    obtain ⟨rfl, q⟩ := he
    have hb := q.below
    have e1 : Rows.poolPinsSpec.fn H ([d0, .lit (.int .i64 n)] ++ []) = { results := [.lit (.bool true)], args := [d0, .lit (.int .i64 n)] } := by simp [Rows.poolPinsSpec]
    refine ⟨_, rfl, _, _, _, [], p0 ++ [], [], hW', ?_, ?_, ?_, hb.frame _, fun h => by cases h⟩
    · rw [e1]; exact trodAll_mk1 (shut_bool uB true)
    · rw [e1]
      exact trodAll_mk2 (hb.trod laidOut10 rSl wSl h0 (fun x hx => hW'.lt x (by simp [hx]))) (shut_int uI hwn)
    · rw [e1]; rfl
  | _ => exact he.elim

theorem pins_holds : Rows.PoolPinsSaid :=
  OpenClaim.holds_of_wide 3 Tryz.f3 rfl rfl rfl rfl rfl rfl rfl ⟨rfl, rfl, rfl, rfl, rfl⟩ rfl rfl rfl rfl rfl (by kernel_rfl) Tryz.func3 (by kernel_rfl)
    (of_decide_eq_true (by kernel_rfl)) (by unfold Func.isWrapper; rw [if_neg (of_decide_eq_false (by kernel_rfl))]; exact ⟨rfl, rfl⟩)
    (fun os started H enc _ => pins_lifted os started H enc)

theorem pins_card : Rows.PoolPinsCardSaid :=
  Claim7.holds_tied_plain_at .later [] [.data, .data, .pinned] true (true, "e4e4f1a481edf15e443bf376b86a37dd0b93e8d22077b282cdc905dddfc2007c") false
    pins_holds (fun _ h => by cases h) (by kernel_rfl) (fun _ h => by cases h) poolPins_row_tie rfl ⟨rfl, rfl⟩ (by kernel_rfl) rfl
    (fun f fn hf hfn => by
      obtain rfl : f = 3 := Option.some.inj ((show Tryz.prog.funcNamed "concordance/concordancelaw10.PoolPins" = some 3 by kernel_rfl).symm.trans hf) |>.symm
      obtain rfl : fn = Tryz.f3 := (Option.some.inj (Tryz.func3.symm.trans hfn)).symm
      exact ⟨by kernel_rfl, fun j t ht => by
        rw [params3] at ht
        have hm : t ∈ [T.s_i64, T.i64_2] := by simpa using Array.mem_of_getElem? ht
        have hall : ([T.s_i64, T.i64_2].all fun u => !Tryz.prog.wantsStandIn u) = true := by kernel_rfl
        exact (show Tryz.prog.wantsStandIn t = false by simpa using List.all_eq_true.1 hall t hm)⟩)
    (by kernel_rfl)
end Go.Proofs.YtbpcalmbefkpgaaGreatDoor
end
