/- Part 7 of the proof: SxL5. -/
import Derived.Test.YtbpcalmbefkpgaaGreatDoorKeepsA
import Derived.Test.YtbpcalmbefkpgaaGreatDoorKeepsB
import Derived.Test.YtbpcalmbefkpgaaGreatDoorKeepsC
import Derived.Test.YtbpcalmbefkpgaaGreatDoorKeepsD
import Derived.Test.YtbpcalmbefkpgaaGreatDoorKeepsE
import Derived.Test.YtbpcalmbefkpgaaGreatDoorKeepsF
set_option linter.unusedVariables false
set_option linter.unusedSimpArgs false

section
/- Statements of layer 10: PoolKeeps. -/
set_option linter.unusedVariables false
set_option linter.unusedSimpArgs false
set_option maxRecDepth 100000
namespace Go.Sx
open Go Go.RowKit
variable {K : Value → World → Prop} {w : World}
variable {W : World} {e : PEnv} {G : e.σ → (Int → Text) → Prop} {fr : Int} {pv vN : Value} {E : Cov} {s : e.σ} {p : PS} {D last : Int → Text} {tl : List Text}

set_option maxHeartbeats 2000000 in
/-- whoever comes anew reads the same. -/
theorem keep_anew (hs : Sound e G) (he : e.pages = 8) (hfr : fr ≤ 64) (h : KI W e G fr pv vN E s p D last tl w) {av fl : Value} (hav : e.av = av) (hfl : e.fl = fl) (k : ∀ w', Qt W w' → K (.bool true) w') : concordancelaw10_PoolKeeps_j1 K [] av fl pv vN w := by
  subst hav hfl
  unfold concordancelaw10_PoolKeeps_j1
  obtain ⟨s1, p1, D1, u1, g1, d1, wh1⟩ := kp_flush hs h.kp
  refine Flush_c h.sys h.kp.ok (h.kp.few (by omega)) (fun w1 E1 hS m1 => ?_)
  rw [u1] at hS ⊢
  simp only at hS ⊢
  have hrow1 := h.row.mv m1 h.apart
  have hap1 : ∀ g, vN.ownBlock = some g → ¬ E1 g := fun g hg => m1.out (by obtain ⟨l, hl⟩ := h.row.block hg; exact lt_of hl) (h.apart g hg)
  have hnE1 := m1.fresh h.q h.newE
  have q1 := m1.done h.q h.newE
  refine run_i (p_neqF (by omega) _) ?_
  refine cn_fi ?_
  obtain ⟨Ee, hIe, hEe⟩ := hS.inv
  have hp := h.pos
  have hs1 := q1.size
  refine New_c hIe hS.glob (n := 8) (by decide) (by decide) (fun qv w2 E2 hS2 q2 hE2 => ?_)
  have h2 : KI W e G 8 qv vN E2 s1 ⟨8, [], []⟩ D1 last tl w2 :=
    ⟨hS2, ⟨g1, rfl, spWf .nil rfl, by simp, fun n f h => by simp [fget] at h, fun n h0 h1 _ => d1 n h0 h1, wh1⟩, hrow1.keep (fun g l hg hl => q2.all hl), h.len, h.val,
      fun g hg hE => by
        rcases hE2 g hE with h | h
        · exact hap1 g hg (hEe g h)
        · obtain ⟨l, hl⟩ := hrow1.block hg
          have := lt_of hl; omega,
      h.newR, fun k hk => by
        rcases hE2 k hk with h | h
        · exact hnE1 k (hEe k h)
        · omega, q1.trans q2, h.pos⟩
  refine run_i (s_extract rfl) ?_
  refine run_i (s_extract rfl) ?_
  refine Lp_inv (concordancelaw10_PoolKeeps_l3_mono K) (fun st w' => ∃ (i : Nat) (E : Cov) (s : e.σ) (p : PS) (D : Int → Text), st = ([], vN, qv, int i) ∧ i ≤ 8 ∧ KI W e G 8 qv vN E s p D last tl w' ∧ p.held.length ≤ i ∧ ∀ m f, fget p.held m = some f → m < (i : Int))
    (fun st _ => match st.2.2.2 with | .int _ k => (8 - k).toNat | _ => 0) ⟨0, E2, _, _, _, rfl, by omega, h2, by simp, fun m f h => by simp [fget] at h⟩ ?_
  rintro st w3 ⟨i, E3, s3, p3, D3, rfl, hi, h3, hl3, hk3⟩
  unfold concordancelaw10_PoolKeeps_l3
  simp only
  by_cases hi8 : (i : Int) < 8
  · refine run_i (p_lssT (by omega) _) ?_
    refine cn_ti ?_
    have hno : fget p3.held (i : Int) = none := by
      cases hg : fget p3.held (i : Int) with
      | none => rfl
      | some f => have := hk3 _ _ hg; omega
    obtain ⟨s4, p4, D4, u4, k4, _, z4, l4⟩ := kp_pin hs h3.kp (n := (i : Int)) (by omega) (by omega) (fun f hf => by rw [hno] at hf; cases hf) (.inl (by omega))
    refine Pin_c h3.sys h3.kp.ok (by decide) (h3.kp.few (by decide)) (by omega) (by omega) (fun w4 E4 hS4 m4 => ?_)
    rw [u4] at hS4 ⊢
    simp only at hS4 ⊢
    have h4 := h3.act hS4 m4 k4
    have hln : i < tl.length := by rw [h.len]; omega
    have hv : tl[i] = last i := by
      have := h.val i (by omega)
      rw [List.getElem?_eq_getElem hln] at this
      exact Option.some.inj this
    refine run_i (s_extract rfl) ?_
    refine run_i (s_extract rfl) ?_
    refine run_i (p_neqF (by omega) _) ?_
    refine gc_ffi ?_
    refine row_load h4.row hln rfl ?_
    rw [hv]
    refine run_i (p_sne _) ?_
    simp only [decide_true, Bool.not_true]
    unfold concordancelaw10_PoolKeeps_g4
    refine pk_fi ?_
    refine cn_fi ?_
    refine run_i (p_addI (by omega) (by omega) _) ?_
    refine ⟨⟨i + 1, E4, s4, p4, D4, rfl, by omega, h4, by omega, fun m f hm => ?_⟩, ?_⟩
    · by_cases e1 : m = (i : Int)
      · omega
      · have := hk3 _ _ (z4 m f e1 hm); omega
    · simp only; omega
  · refine run_i (p_lssF (by omega) _) ?_
    refine cn_fi ?_
    unfold concordancelaw10_PoolKeeps_j2
    refine lv_i ?_
    exact k w3 h3.q

set_option maxHeartbeats 2000000 in
theorem PoolKeeps_c {lv : Value} {l : List Act10} {a : Int} (hg : Glob w) (hl : Ar w 3 lv l.length (acells l)) (k : ∀ w', Qt w w' → K (.bool true) w') : callS Pg F.concordancelaw10_PoolKeeps [lv, int a] K w := by
  refine concordancelaw10_PoolKeeps_callS ?_
  unfold concordancelaw10_PoolKeeps
  refine speaks10_c hg (fun w1 q1 => ?_)
  have ha := and_le a (m := 3) (by decide) (by decide)
  refine run_i (p_not _) ?_
  refine cn_fi ?_
  refine run_i (p_and _) ?_
  refine run_i (p_addI (by omega) (by omega) _) ?_
  obtain ⟨fr, hfr⟩ : ∃ fr, fr = 1 + bitv (fun _ x y => x &&& y) .i64 a 3 := ⟨_, rfl⟩
  rw [← hfr]
  refine begin10 (hg.qt q1) (fun w2 av dv E1 hp hT hg2 hE1 q2 => ?_)
  have hl0 := hg.lt
  have hs1 := q1.size
  obtain ⟨e, G, s0, hav, hfl, he, hsd, hG, hI⟩ : ∃ (e : PEnv) (G : e.σ → (Int → Text) → Prop) (s : e.σ), e.av = av ∧ e.fl = .func (.func 31) #[] #[] ∧ e.pages = 8 ∧ Sound e G ∧ G s (fun _ => Z512) ∧ e.I s (fun k => E1 k ∨ False) w2 :=
    ⟨env10 (okLog _ okK) av dv hp, G10 (okLog _ okK) av dv hp, (dev0 40, ()), rfl, rfl, rfl, sound10 okK av dv hp, g10_new, okEnv okK hp hT (dev0_rest 40) (fun h => by have := hE1 _ h; omega)⟩
  have hN := fun K k => @New_c K w2 e s0 _ fr hI hg2 (by omega) (by omega) k
  rw [hav, hfl] at hN
  refine hN _ (fun pv w3 E3 hS q3 hE3 => ?_)
  have hE3' : ∀ k, E3 k → w.heap.size ≤ k := fun k hk => by
    have := q2.size
    rcases hE3 k hk with (h | h) | h
    · have := hE1 k h; omega
    · exact h.elim
    · omega
  refine run_i (s_extract rfl) ?_
  refine run_i (s_extract rfl) ?_
  refine ref9New_c (n := 8) (by decide) (fun w4 vN vO hN hO nN nO q4 => ?_)
  have q14 : Qt w w4 := q1.trans (q2.trans (q3.trans q4))
  refine run_i (show (Instr.field 49 (.agg #[vN, vO]) 0).run Pg w4 = .ok vN w4 from by kernel_rfl) ?_
  have hs3 := (q1.trans (q2.trans q3)).size
  have hk0 : KI w e G fr pv vN E3 s0 ⟨fr, [], []⟩ (fun _ => Z512) (fun _ => Z512) (List.replicate 8 Z512) w4 :=
    ⟨hS.qt q4, ⟨hG, rfl, spWf .nil rfl, by simp; omega, fun n f h => by simp [fget] at h, fun n _ _ _ => rfl, fun n _ _ => Z512_whole⟩, by rw [List.length_replicate, List.map_replicate]; exact hN, by simp, fun n hn => by rw [List.getElem?_replicate, if_pos hn],
      fun g hg hE => by have := nN g hg; have := hS.live hE; omega, fun g hg => by have := nN g hg; omega, hE3', q14, hl0⟩
  refine Lp_inv (concordancelaw10_PoolKeeps_l5_mono K) (fun st w' => ∃ (i : Nat) (E : Cov) (s : e.σ) (p : PS) (D last : Int → Text) (tl : List Text), st = ([], lv, av, .func (.func 31) #[] #[], pv, vN, int i) ∧ i ≤ l.length ∧ i ≤ 50 ∧
      KI w e G fr pv vN E s p D last tl w' ∧ (∀ m g, fget p.held m = some g → g.pins = 0))
    (fun st _ => match st.2.2.2.2.2.2 with | .int _ k => (50 - k).toNat | _ => 0) ⟨0, E3, _, _, _, _, _, rfl, by omega, by omega, hk0, fun m g h => by simp [fget] at h⟩ ?_
  rintro st w' ⟨i, E, s, p, D, last, tl, rfl, hil, hi50, hk, hz⟩
  obtain ⟨sa, sc, rfl⟩ := hl.shape
  by_cases h1 : (i : Int) < l.length
  · by_cases h2 : (i : Int) < 50
    · unfold concordancelaw10_PoolKeeps_l5
      simp only
      refine run_i s_len_sl ?_
      refine run_i (p_lssT (by omega) _) ?_
      refine gc_tti ?_
      refine run_i (p_lssT (by omega) _) ?_
      unfold concordancelaw10_PoolKeeps_g11
      refine pk_ti ?_
      refine cn_ti ?_
      refine keep_round hsd he (by omega) (by omega) hl (by omega) (by omega) hk hz (fun E s p D last tl w' h hz' => ?_)
      refine ⟨⟨i + 1, E, s, p, D, last, tl, rfl, by omega, by omega, h, hz'⟩, ?_⟩
      simp only
      omega
    · unfold concordancelaw10_PoolKeeps_l5
      simp only
      refine run_i s_len_sl ?_
      refine run_i (p_lssT (by omega) _) ?_
      refine gc_tti ?_
      refine run_i (p_lssF (by omega) _) ?_
      unfold concordancelaw10_PoolKeeps_g11
      refine pk_ti ?_
      refine cn_fi ?_
      exact keep_anew hsd he (by omega) hk hav hfl k
  · unfold concordancelaw10_PoolKeeps_l5
    simp only
    refine run_i s_len_sl ?_
    refine run_i (p_lssF (by omega) _) ?_
    refine gc_fti ?_
    unfold concordancelaw10_PoolKeeps_g11
    refine pk_fi ?_
    refine cn_fi ?_
    exact keep_anew hsd he (by omega) hk hav hfl k
end Go.Sx
end
