/- concordancelaw10.PoolRefuses returns true for all numbers of frames, pages and bytes; what is handed in stays as it was. The one condition: the row's listed variables (laid). -/
import Derived.Test.YtbpcalmbefkpgaaGreatDoorTie
import Derived.Test.YtbpcalmbefkpgaaGreatDoorCards
import Derived.SevenTiedAt
import Derived.ChangeSlices
import Derived.Test.YtbpcalmbefkpgaaGreatDoorRefusesA
import Derived.Test.YtbpcalmbefkpgaaGreatDoorRefusesB
import Derived.Test.YtbpcalmbefkpgaaGreatDoorRefusesC
import Derived.Test.YtbpcalmbefkpgaaGreatDoorRefusesD
import Derived.Test.YtbpcalmbefkpgaaGreatDoorRefusesE
import Derived.Test.YtbpcalmbefkpgaaGreatDoorRefusesF
set_option linter.unusedVariables false
set_option linter.unusedSimpArgs false

section
/- concordancelaw10.PoolRefuses returns true for all numbers of frames, pages and bytes; what is handed in stays as it was. The one condition: the row's listed variables (laid). -/
set_option linter.unusedVariables false
set_option linter.unusedSimpArgs false
set_option maxRecDepth 100000
namespace Go.Proofs.YtbpcalmbefkpgaaGreatDoor
open Go.ChangeShapes Go.WideShapes Go.RowKit Go.Sx

theorem uU8 : Tryz.prog.underlying T.u8 = some (.int .u8) := by kernel_rfl
theorem params4 : Tryz.f4.params = #[T.i64_2, T.i64_2, T.u8] := by kernel_rfl
set_option maxRecDepth 100000 in
theorem refuses_lifted (os : Os) (started : os.Started) (H : Type) (enc : TypeId × Value → H) :
    ReturnsInHanded {} Tryz.checked os 4 .any (fun w args => (Rows.poolRefusesSpec.pre enc Tryz.prog Tryz.f4 [] false w args ∧ laidMetH Tryz.prog laid10 w) ∧ sizedMet enc Tryz.prog Tryz.f4 (OpenSpec.ofChange Rows.poolRefusesSpec) false w args)
      (Rows.poolRefusesSpec.post enc Tryz.prog Tryz.f4 false true false false) := by
  refine lift_shaped (C := Tryz.checked) (X := fun w _ => laidMetH Tryz.prog laid10 w) (fun _ _ _ hh h => h.of_heap hh) own10 started (by kernel_rfl) Tryz.func4
    (ChangeSpec.witness_shaped (enc := enc) (C := Tryz.checked) (os := os) (X := fun w _ => laidMetH Tryz.prog laid10 w) false (World.laidAll Tryz.prog os laid10) #[.int .i64 0, .int .i64 0, .int .u8 0] 8 (World.laidAll_os _ _ _) (World.shaped_of_ZipB (by kernel_rfl) (by kernel_rfl)) (by kernel_rfl) (by kernel_rfl) (by kernel_rfl)
      (by rw [MakeChecks.laidMetH_plain _ _ _ noHandles10]; exact laidMet_laidAll _ (by kernel_rfl) (by kernel_rfl))) ?_
  intro W base args ds gs before hval0 hW _ hL hsh
  have hval : ∀ (j : Nat) t v, Tryz.f4.params[j]? = some t → args[j]? = some v → Value.okWide Tryz.prog W .any base t v := hval0
  have hW' := hW
  obtain ⟨p, q, hA0, hV, rfl, hfz, hnd⟩ := hW
  have hA : DataW.TrodAll enc Tryz.prog W 0 (fun _ => true) true Tryz.f4.params.toList args.toList ds p := hA0
  rw [params4] at hA hval
  obtain ⟨v0, v1, v2, d0, d1, d2, p0, p1, p2, rfl, rfl, rfl, h0, h1, h2⟩ := trodAll_three hA
  obtain ⟨rfl, rfl⟩ := trodVars_none hV
  obtain ⟨a, rfl, rfl, rfl, hwa⟩ := open_int uI (hval 0 T.i64_2 v0 rfl rfl) h0
  obtain ⟨n, rfl, rfl, rfl, hwn⟩ := open_int uI (hval 1 T.i64_2 v1 rfl rfl) h1
  obtain ⟨b, rfl, rfl, rfl, hwb⟩ := open_int uU8 (hval 2 T.u8 v2 rfl rfl) h2
  have hb : 0 ≤ b ∧ b < 256 := by
    have := hwb
    simp only [Lit.wf, Bool.and_eq_true, decide_eq_true_eq] at this
    have e1 : IntKind.u8.min = 0 := by decide
    have e2 : IntKind.u8.max = 255 := by decide
    omega
  have hg := glob_of_laid hL hsh
  refine ((PoolRefuses_c (K := fun v w' => v = .bool true ∧ Qt W w') (a := a) (n := n) hg hb.1 hb.2 (fun w' q => ⟨rfl, q⟩)).2).mono fun e W' he => ?_
  cases e with
  | returned v =>
    obtain ⟨rfl, q⟩ := he
    have hb := q.below
    have e1 : Rows.poolRefusesSpec.fn H ([.lit (.int .i64 a), .lit (.int .i64 n), .lit (.int .u8 b)] ++ []) = { results := [.lit (.bool true)], args := [.lit (.int .i64 a), .lit (.int .i64 n), .lit (.int .u8 b)] } := by simp [Rows.poolRefusesSpec]
    refine ⟨_, rfl, _, _, _, [], [], [], hW', ?_, ?_, ?_, hb.frame _, fun h => by cases h⟩
    · rw [e1]; exact trodAll_mk1 (shut_bool uB true)
    · rw [e1]
      exact trodAll_mk3 (shut_int uI hwa) (shut_int uI hwn) (shut_int uU8 hwb)
    · rw [e1]; rfl
  | _ => exact he.elim

theorem refuses_holds : Rows.PoolRefusesSaid :=
  OpenClaim.holds_of_wide 4 Tryz.f4 rfl rfl rfl rfl rfl rfl rfl ⟨rfl, rfl, rfl, rfl, rfl⟩ rfl rfl rfl rfl rfl (by kernel_rfl) Tryz.func4 (by kernel_rfl)
    (of_decide_eq_true (by kernel_rfl)) (by unfold Func.isWrapper; rw [if_neg (of_decide_eq_false (by kernel_rfl))]; exact ⟨rfl, rfl⟩)
    (fun os started H enc _ => refuses_lifted os started H enc)

theorem refuses_card : Rows.PoolRefusesCardSaid :=
  Claim7.holds_tied_plain_at .later [] [.data, .data, .pinned] true (true, "e4e4f1a481edf15e443bf376b86a37dd0b93e8d22077b282cdc905dddfc2007c") false
    refuses_holds (fun _ h => by cases h) (by kernel_rfl) (fun _ h => by cases h) poolRefuses_row_tie rfl ⟨rfl, rfl⟩ (by kernel_rfl) rfl
    (fun f fn hf hfn => by
      obtain rfl : f = 4 := Option.some.inj ((show Tryz.prog.funcNamed "concordance/concordancelaw10.PoolRefuses" = some 4 by kernel_rfl).symm.trans hf) |>.symm
      obtain rfl : fn = Tryz.f4 := (Option.some.inj (Tryz.func4.symm.trans hfn)).symm
      exact ⟨by kernel_rfl, fun j t ht => by
        rw [params4] at ht
        have hm : t ∈ [T.i64_2, T.i64_2, T.u8] := by simpa using Array.mem_of_getElem? ht
        have hall : ([T.i64_2, T.i64_2, T.u8].all fun u => !Tryz.prog.wantsStandIn u) = true := by kernel_rfl
        exact (show Tryz.prog.wantsStandIn t = false by simpa using List.all_eq_true.1 hall t hm)⟩)
    (by kernel_rfl)
end Go.Proofs.YtbpcalmbefkpgaaGreatDoor
end
