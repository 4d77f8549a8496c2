/- concordancelaw10.PoolKeeps returns true for every list of acts and every number of frames; what is handed in stays as it was. The one condition: the row's listed variables (laid). -/
import Derived.Test.YtbpcalmbefkpgaaGreatDoorTie
import Derived.Test.YtbpcalmbefkpgaaGreatDoorCards
import Derived.SevenTiedAt
import Derived.ChangeSlices
import Derived.Test.YtbpcalmbefkpgaaGreatDoorKeepsA
import Derived.Test.YtbpcalmbefkpgaaGreatDoorKeepsB
import Derived.Test.YtbpcalmbefkpgaaGreatDoorKeepsC
import Derived.Test.YtbpcalmbefkpgaaGreatDoorKeepsD
import Derived.Test.YtbpcalmbefkpgaaGreatDoorKeepsE
import Derived.Test.YtbpcalmbefkpgaaGreatDoorKeepsF
import Derived.Test.YtbpcalmbefkpgaaGreatDoorKeepsG
set_option linter.unusedVariables false
set_option linter.unusedSimpArgs false

section
/- concordancelaw10.PoolKeeps returns true for every list of acts and every number of frames; what is handed in stays as it was. The one condition: the row's listed variables (laid). -/
set_option linter.unusedVariables false
set_option linter.unusedSimpArgs false
set_option maxRecDepth 100000
namespace Go.Proofs.YtbpcalmbefkpgaaGreatDoor
open Go.ChangeShapes Go.WideShapes Go.RowKit Go.Sx

theorem cells_get {w : World} {base : Nat} {a : Addr} {n : Nat} {cs : List Value} (h : w.cells? base a n = some cs) {i : Nat} (hi : i < n) : ∃ v, cs[i]? = some v ∧ w.cell? (a.add i) = some v := by
  unfold World.cells? at h
  split at h
  · exact Lib.mapM_at h i i (by rw [List.getElem?_range hi])
  · cases h

theorem uSAct : Tryz.prog.underlying T.s_concordancelaw10_Act = some (.slice T.concordancelaw10_Act) := by kernel_rfl
theorem cAct : Tryz.prog.cellsOf T.concordancelaw10_Act = 3 := by kernel_rfl
noncomputable def fsAct : Array Field := match Tryz.prog.underlying T.concordancelaw10_Act with
  | some (.struct fs) => fs
  | _ => #[]
theorem uAct : Tryz.prog.underlying T.concordancelaw10_Act = some (.struct fsAct) := by kernel_rfl
theorem fAct0 : fsAct[0]?.map (fun f => (f.type, f.offset)) = some (T.i64_2, 0) := by kernel_rfl
theorem fAct1 : fsAct[1]?.map (fun f => (f.type, f.offset)) = some (T.i64_2, 1) := by kernel_rfl
theorem fAct2 : fsAct[2]?.map (fun f => (f.type, f.offset)) = some (T.string, 2) := by kernel_rfl
theorem sAct : fsAct.size = 3 := by kernel_rfl
theorem uS : Tryz.prog.underlying T.string = some .string := by kernel_rfl
theorem cS : Tryz.prog.cellsOf T.string = 1 := by kernel_rfl
theorem rAct : Tryz.prog.readableRec T.s_concordancelaw10_Act = true := by kernel_rfl
theorem wAct : T.s_concordancelaw10_Act < Tryz.prog.types.size := of_decide_eq_true (by kernel_rfl)

/-- an act's three cells -/
theorem act_of {H : Type} {enc : TypeId × Value → H} {w : World} {base : Nat} {sp : Nat → Bool} {held : Bool} {fuel : Nat} {cs : List Value} {x : DataW H × List MemPlace}
    (h : DataW.trod enc Tryz.prog w base sp held fuel T.concordancelaw10_Act cs = some x) : ∃ a : Act10, cs = a.cells := by
  obtain ⟨xs, n, rfl, _, hl, hxl, hall⟩ := DataW.trod_struct uAct h
  rw [cAct] at hl
  rw [sAct] at hxl
  have fld : ∀ (i : Nat) (ty off : Nat), fsAct[i]?.map (fun f => (f.type, f.offset)) = some (ty, off) → i < 3 → ∃ y, DataW.trod enc Tryz.prog w base sp held n ty ((cs.drop off).take (Tryz.prog.cellsOf ty)) = some y := by
    intro i ty off hf hi
    cases hfi : fsAct[i]? with
    | none => rw [hfi] at hf; cases hf
    | some f =>
      rw [hfi] at hf
      simp only [Option.map_some, Option.some.injEq, Prod.mk.injEq] at hf
      obtain ⟨rfl, rfl⟩ := hf
      exact ⟨xs[i]'(by omega), by rw [hall i f hfi, List.getElem?_eq_getElem (by omega)]⟩
  obtain ⟨y0, h0⟩ := fld 0 _ _ fAct0 (by decide)
  obtain ⟨y1, h1⟩ := fld 1 _ _ fAct1 (by decide)
  obtain ⟨y2, h2⟩ := fld 2 _ _ fAct2 (by decide)
  rw [cI] at h0 h1
  rw [cS] at h2
  obtain ⟨a, ha, _⟩ := DataW.trod_int uI h0
  obtain ⟨b, hb, _⟩ := DataW.trod_int uI h1
  obtain ⟨s, hs, _⟩ := DataW.trod_string uS h2
  have hcs : ∃ c0 c1 c2, cs = [c0, c1, c2] := by
    match cs, hl with
    | [c0, c1, c2], _ => exact ⟨_, _, _, rfl⟩
  obtain ⟨c0, c1, c2, rfl⟩ := hcs
  simp at ha hb hs
  subst ha hb hs
  exact ⟨⟨a, b, s.data.toList⟩, rfl⟩

/-- A slice of acts that comes in. -/
theorem ar_of_acts {H : Type} {enc : TypeId × Value → H} {w : World} {base : Nat} {sp : Nat → Bool} {held : Bool} {v : Value} {d : DataW H} {p : List MemPlace}
    {r : Reach} {b0 : Nat} (hval : Value.okWide Tryz.prog w r b0 T.s_concordancelaw10_Act v) (h : DataW.Trod enc Tryz.prog w base sp held T.s_concordancelaw10_Act v d p) : ∃ l : List Act10, Ar w 3 v l.length (acells l) := by
  obtain ⟨fuel, h⟩ := h
  obtain ⟨a0, len0, cap0, rfl⟩ := WideShapes.okWide_slice uSAct hval
  rcases DataW.trod_slice uSAct h with ⟨h1, _⟩ | ⟨a, len, cap, elems, rest, n, _, h1, _, _, _, _, hlen, hel, _⟩
  · simp [Value.cells] at h1; obtain ⟨rfl, rfl, rfl⟩ := h1
    exact ⟨[], rfl, none, 0, rfl, fun h => absurd h (by simp)⟩
  · simp [Value.cells] at h1; obtain ⟨rfl, rfl, rfl⟩ := h1
    have each : ∀ i, i < len0 → ∃ ac : Act10, ∀ j, j < 3 → ∃ v, ac.cells[j]? = some v ∧ w.cell? ((a.add (i * 3)).add j) = some v := by
      intro i hi
      have := hel i hi
      rw [cAct, List.getElem?_eq_getElem (by omega)] at this
      obtain ⟨cs, hcs, ht⟩ := Option.bind_eq_some_iff.1 this
      obtain ⟨ac, rfl⟩ := act_of ht
      exact ⟨ac, fun j hj => cells_get hcs hj⟩
    have hlist : ∀ m, m ≤ len0 → ∃ l : List Act10, l.length = m ∧ ∀ i, (hi : i < l.length) → ∀ j, j < 3 → ∃ v, (l[i]).cells[j]? = some v ∧ w.cell? ((a.add (i * 3)).add j) = some v := by
      intro m
      induction m with
      | zero => intro _; exact ⟨[], rfl, fun i hi => absurd hi (by simp)⟩
      | succ m ih =>
        intro hm
        obtain ⟨l, hl, hx⟩ := ih (by omega)
        obtain ⟨ac, hac⟩ := each m (by omega)
        refine ⟨l ++ [ac], by simp [hl], fun i hi j hj => ?_⟩
        by_cases e : i < l.length
        · rw [List.getElem_append_left e]; exact hx i e j hj
        · have e1 : i = l.length := by simp at hi; omega
          subst e1
          rw [List.getElem_append_right (Nat.le_refl _)]
          simp only [Nat.sub_self, List.getElem_cons_zero]
          rw [hl]; exact hac j hj
    obtain ⟨l, hl, hx⟩ := hlist len0 (Nat.le_refl _)
    refine ⟨l, by rw [acells_len], some a, cap0, by rw [hl], fun h => ?_⟩
    have s0 : a.spot = none := by
      obtain ⟨v, _, hv⟩ := hx 0 (by omega) 0 (by decide)
      have := (spotless hv).1
      simpa [Addr.add] using this
    refine ⟨a.block, a.off, by cases a; simp_all, fun j hj => ?_⟩
    have hi : j / 3 < l.length := by omega
    obtain ⟨v, h1, h2⟩ := hx (j / 3) hi (j % 3) (by omega)
    have h3 := (spotless h2).2
    have e1 : ∀ (b : Addr) (k : Nat), (b.add k).block = b.block ∧ (b.add k).off = b.off + k := by
      intro b k; unfold Addr.add; split
      · subst_vars; exact ⟨rfl, rfl⟩
      · exact ⟨rfl, rfl⟩
    rw [(e1 _ _).1, (e1 _ _).1, (e1 _ _).2, (e1 _ _).2] at h3
    have e2 : a.off + j / 3 * 3 + j % 3 = a.off + j := by omega
    rw [e2] at h3
    rw [h3]
    obtain ⟨a1, a2, a3⟩ := acells_at hi
    have e3 : j = j / 3 * 3 + j % 3 := by omega
    have hj3 : j % 3 = 0 ∨ j % 3 = 1 ∨ j % 3 = 2 := by omega
    rcases hj3 with e | e | e
    · rw [e] at h1; rw [e3, e, Nat.add_zero, a1, ← h1]; rfl
    · rw [e] at h1; rw [e3, e, a2, ← h1]; rfl
    · rw [e] at h1; rw [e3, e, a3, ← h1]; rfl

theorem params6 : Tryz.f6.params = #[T.s_concordancelaw10_Act, T.i64_2] := by kernel_rfl
set_option maxRecDepth 100000 in
theorem keeps_lifted (os : Os) (started : os.Started) (H : Type) (enc : TypeId × Value → H) :
    ReturnsInHanded {} Tryz.checked os 6 .any (fun w args => (Rows.poolKeepsSpec.pre enc Tryz.prog Tryz.f6 [] false w args ∧ laidMetH Tryz.prog laid10 w) ∧ sizedMet enc Tryz.prog Tryz.f6 (OpenSpec.ofChange Rows.poolKeepsSpec) false w args)
      (Rows.poolKeepsSpec.post enc Tryz.prog Tryz.f6 false true false false) := by
  refine lift_shaped (C := Tryz.checked) (X := fun w _ => laidMetH Tryz.prog laid10 w) (fun _ _ _ hh h => h.of_heap hh) own10 started (by kernel_rfl) Tryz.func6
    (ChangeSpec.witness_shaped (enc := enc) (C := Tryz.checked) (os := os) (X := fun w _ => laidMetH Tryz.prog laid10 w) false (World.laidAll Tryz.prog os laid10) #[.slice none 0 0, .int .i64 0] 8 (World.laidAll_os _ _ _) (World.shaped_of_ZipB (by kernel_rfl) (by kernel_rfl)) (by kernel_rfl) (by kernel_rfl) (by kernel_rfl)
      (by rw [MakeChecks.laidMetH_plain _ _ _ noHandles10]; exact laidMet_laidAll _ (by kernel_rfl) (by kernel_rfl))) ?_
  intro W base args ds gs before hval0 hW _ hL hsh
  have hval : ∀ (j : Nat) t v, Tryz.f6.params[j]? = some t → args[j]? = some v → Value.okWide Tryz.prog W .any base t v := hval0
  have hW' := hW
  obtain ⟨p, q, hA0, hV, rfl, hfz, hnd⟩ := hW
  have hA : DataW.TrodAll enc Tryz.prog W 0 (fun _ => true) true Tryz.f6.params.toList args.toList ds p := hA0
  rw [params6] at hA hval
  obtain ⟨v0, v1, d0, d1, p0, p1, rfl, rfl, rfl, h0, h1⟩ := trodAll_two hA
  obtain ⟨rfl, rfl⟩ := trodVars_none hV
  obtain ⟨n, rfl, rfl, rfl, hwn⟩ := open_int uI (hval 1 T.i64_2 v1 rfl rfl) h1
  obtain ⟨l, hl⟩ := ar_of_acts (hval 0 T.s_concordancelaw10_Act v0 rfl rfl) h0
  have hg := glob_of_laid hL hsh
  refine ((PoolKeeps_c (K := fun v w' => v = .bool true ∧ Qt W w') (a := n) hg hl (fun w' q => ⟨rfl, q⟩)).2).mono fun e W' he => ?_
  cases e with
  | returned v =>
    obtain ⟨rfl, q⟩ := he
    have hb := q.below
    have e1 : Rows.poolKeepsSpec.fn H ([d0, .lit (.int .i64 n)] ++ []) = { results := [.lit (.bool true)], args := [d0, .lit (.int .i64 n)] } := by simp [Rows.poolKeepsSpec]
    refine ⟨_, rfl, _, _, _, [], p0 ++ [], [], hW', ?_, ?_, ?_, hb.frame _, fun h => by cases h⟩
    · rw [e1]; exact trodAll_mk1 (shut_bool uB true)
    · rw [e1]
      exact trodAll_mk2 (hb.trod laidOut10 rAct wAct h0 (fun x hx => hW'.lt x (by simp [hx]))) (shut_int uI hwn)
    · rw [e1]; rfl
  | _ => exact he.elim

theorem keeps_holds : Rows.PoolKeepsSaid :=
  OpenClaim.holds_of_wide 6 Tryz.f6 rfl rfl rfl rfl rfl rfl rfl ⟨rfl, rfl, rfl, rfl, rfl⟩ rfl rfl rfl rfl rfl (by kernel_rfl) Tryz.func6 (by kernel_rfl)
    (of_decide_eq_true (by kernel_rfl)) (by unfold Func.isWrapper; rw [if_neg (of_decide_eq_false (by kernel_rfl))]; exact ⟨rfl, rfl⟩)
    (fun os started H enc _ => keeps_lifted os started H enc)

theorem keeps_card : Rows.PoolKeepsCardSaid :=
  Claim7.holds_tied_plain_at .later [] [.data, .data, .pinned] true (true, "e4e4f1a481edf15e443bf376b86a37dd0b93e8d22077b282cdc905dddfc2007c") false
    keeps_holds (fun _ h => by cases h) (by kernel_rfl) (fun _ h => by cases h) poolKeeps_row_tie rfl ⟨rfl, rfl⟩ (by kernel_rfl) rfl
    (fun f fn hf hfn => by
      obtain rfl : f = 6 := Option.some.inj ((show Tryz.prog.funcNamed "concordance/concordancelaw10.PoolKeeps" = some 6 by kernel_rfl).symm.trans hf) |>.symm
      obtain rfl : fn = Tryz.f6 := (Option.some.inj (Tryz.func6.symm.trans hfn)).symm
      exact ⟨by kernel_rfl, fun j t ht => by
        rw [params6] at ht
        have hm : t ∈ [T.s_concordancelaw10_Act, T.i64_2] := by simpa using Array.mem_of_getElem? ht
        have hall : ([T.s_concordancelaw10_Act, T.i64_2].all fun u => !Tryz.prog.wantsStandIn u) = true := by kernel_rfl
        exact (show Tryz.prog.wantsStandIn t = false by simpa using List.all_eq_true.1 hall t hm)⟩)
    (by kernel_rfl)
end Go.Proofs.YtbpcalmbefkpgaaGreatDoor
end
