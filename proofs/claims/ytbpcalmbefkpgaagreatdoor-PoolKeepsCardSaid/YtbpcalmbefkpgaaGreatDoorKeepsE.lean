/- Part 5 of the proof: SxDev2, SxDev3, SxNum, SxTwin2, SxTwin3, SxPl, SxSys, SxPw, SxPx, SxPy, SxPz, SxPq, SxEnv, SxFl. -/
import Derived.Test.YtbpcalmbefkpgaaGreatDoorKeepsA
import Derived.Test.YtbpcalmbefkpgaaGreatDoorKeepsB
import Derived.Test.YtbpcalmbefkpgaaGreatDoorKeepsC
import Derived.Test.YtbpcalmbefkpgaaGreatDoorKeepsD
set_option linter.unusedVariables false
set_option linter.unusedSimpArgs false

section
/- The device: what is written, what lasts, what fails. -/
set_option linter.unusedVariables false
set_option linter.unusedSimpArgs false
set_option maxRecDepth 100000
namespace Go.Sx
open Go Go.RowKit
variable {K : Value → World → Prop} {w : World}

/-- is the write at this place kept? -/
def keepAt (keep : List Int) (i : Nat) : Bool := !keep.isEmpty && !decide (keep.getD (i % keep.length) 0 = 0)
def setT (f : Int → Option Text) (x : Int × Text) : Int → Option Text := fun k => if x.1 = k then some x.2 else f k
def failMap (keep : List Int) : Nat → List (Int × Text) → (Int → Option Text) → (Int → Option Text)
  | _, [], f => f
  | i, x :: l, f => failMap keep (i + 1) l (if keepAt keep i then setT f x else f)
theorem failMap_snoc (keep : List Int) (x : Int × Text) : ∀ (l : List (Int × Text)) (i : Nat) (f : Int → Option Text), failMap keep i (l ++ [x]) f = if keepAt keep (i + l.length) then setT (failMap keep i l f) x else failMap keep i l f
  | [], i, f => by simp [failMap]
  | y :: l, i, f => by
    simp only [List.cons_append, failMap]
    rw [failMap_snoc keep x l]
    simp only [List.length_cons]
    rw [show i + 1 + l.length = i + (l.length + 1) by omega]
def syncMap (l : List (Int × Text)) (f : Int → Option Text) : Int → Option Text := l.foldl setT f
theorem syncMap_snoc (l : List (Int × Text)) (x : Int × Text) (f : Int → Option Text) : syncMap (l ++ [x]) f = setT (syncMap l f) x := by
  unfold syncMap; rw [List.foldl_append]; rfl

def Dev.fail (d : Dev) (keep : List Int) : Dev := { d with last := failMap keep 0 d.wait d.last, wait := [], off := true, fuse := 0, keep := [] }
def Dev.cmd (d : Dev) : Bool × Dev := if d.fuse = 1 then (false, d.fail d.keep) else (true, { d with fuse := if 1 < d.fuse then d.fuse - 1 else d.fuse, cmds := IntKind.i64.wrap (d.cmds + 1) })
def padT (t : Text) : Text := t ++ List.replicate (256 - t.length) 0
def Dev.write (d : Dev) (i : Int) (t : Text) : Dev × Int :=
  if d.off then (d, 7) else if i < 0 ∨ d.size ≤ i then (d, 1) else if 256 < t.length then (d, 6) else
  if d.cmd.1 then ({ d.cmd.2 with wait := d.cmd.2.wait ++ [(i, padT t)] }, 0) else (d.cmd.2, 7)
def Dev.sync (d : Dev) : Dev × Int :=
  if d.off then (d, 7) else if d.cmd.1 then ({ d.cmd.2 with last := syncMap d.cmd.2.wait d.cmd.2.last, wait := [] }, 0) else (d.cmd.2, 7)

/-- what a device covers -/
def devX (b m : Nat) (wv kv : Value) : Cov := fun k => k = b ∨ k = m ∨ wv.ownBlock = some k ∨ kv.ownBlock = some k

/-- A device by its pointer, and what it covers. -/
def DevI (w : World) (v : Value) (d : Dev) (E : Cov) : Prop := ∃ b m wv kv, v = .pointer (some ⟨b, 0, none⟩) ∧ DevRep w b m d wv kv ∧ E = devX b m wv kv

theorem DevRep.keepX {w' : World} {b m : Nat} {d : Dev} {wv kv : Value} (h : DevRep w b m d wv kv) (hk : ∀ k o, w.heap[k]? = some o → devX b m wv kv k → w'.heap[k]? = some o) : DevRep w' b m d wv kv := by
  obtain ⟨es, c, h1, h2⟩ := h.map
  exact ⟨hk _ _ h.at_ (.inl rfl), ⟨es, c, hk _ _ h1 (.inr (.inl rfl)), h2⟩, h.wait.keep (fun g l hg hl => hk _ _ hl (.inr (.inr (.inl hg)))), h.keep.keep (fun g l hg hl => hk _ _ hl (.inr (.inr (.inr hg)))), h.rng, h.few⟩
theorem DevI.keep {w' : World} {v : Value} {d : Dev} {E : Cov} (h : DevI w v d E) (hk : ∀ k o, w.heap[k]? = some o → E k → w'.heap[k]? = some o) : DevI w' v d E := by
  obtain ⟨b, m, wv, kv, rfl, h, rfl⟩ := h
  exact ⟨b, m, wv, kv, rfl, h.keepX hk, rfl⟩
theorem DevI.live {v : Value} {d : Dev} {E : Cov} (h : DevI w v d E) {k : Nat} (hk : E k) : k < w.heap.size := by
  obtain ⟨b, m, wv, kv, rfl, h, rfl⟩ := h
  rcases hk with rfl | rfl | hk | hk
  · exact lt_of h.at_
  · obtain ⟨es, c, h1, _⟩ := h.map; exact lt_of h1
  · obtain ⟨l, hl⟩ := h.wait.block hk; exact lt_of hl
  · obtain ⟨l, hl⟩ := h.keep.block hk; exact lt_of hl
theorem DevI.qt {w' : World} {v : Value} {d : Dev} {E : Cov} (h : DevI w v d E) (q : Qt w w') : DevI w' v d E := h.keep fun k o hk _ => q.all hk
theorem DevI.dev {v : Value} {d : Dev} {E : Cov} (h : DevI w v d E) : ∃ m, IsDev w v m d := by
  obtain ⟨b, m, wv, kv, rfl, h, rfl⟩ := h
  exact ⟨m, b, wv, kv, rfl, h⟩

structure DevSep (w : World) (b m : Nat) (wv kv : Value) : Prop where
  bm : b ≠ m
  wb : wv.ownBlock ≠ some b
  wm : wv.ownBlock ≠ some m
  kb : kv.ownBlock ≠ some b
  km : kv.ownBlock ≠ some m
  wk : ∀ g, wv.ownBlock = some g → kv.ownBlock ≠ some g
theorem DevRep.sep {b m : Nat} {d : Dev} {wv kv : Value} (h : DevRep w b m d wv kv) : DevSep w b m wv kv := by
  obtain ⟨es, c, h1, h2⟩ := h.map
  refine ⟨fun e => ?_, h.wait.ne h.at_ (by decide), fun e => ?_, h.keep.ne h.at_ (by decide), fun e => ?_, fun g hg hg' => ?_⟩
  · subst e
    have := h.at_
    rw [h1] at this; cases this
  · obtain ⟨l, hl⟩ := h.wait.block e
    rw [h1] at hl; cases hl
  · obtain ⟨l, hl⟩ := h.keep.block e
    rw [h1] at hl; cases hl
  · obtain ⟨l, hl⟩ := h.wait.block hg
    obtain ⟨l', hl'⟩ := h.keep.block hg'
    rw [hl] at hl'
    cases hl'

theorem ownShape {e size n : Nat} {v : Value} {xs : List Value} (h : Own w e size v n xs) : ∃ a cap, v = .slice a n cap := (Rd.of_own h).shape

theorem wrd {l : List (Int × Text)} {i : Nat} (hi : i < l.length) : ((wcells l).drop (i * 2)).take 2 = [int (l[i]).1, str (l[i]).2] := by
  have e := wcells_get l i hi
  apply List.ext_getElem?
  intro j
  rw [List.getElem?_take, List.getElem?_drop]
  match j with
  | 0 => simpa using e.1
  | 1 => simpa using e.2
  | j + 2 => rw [if_neg (by omega)]; rfl

theorem map_set {m : Nat} {f : Int → Option Text} {x : Int × Text} (h : MapI (w.heap[m]?) (fun k => (f k).map str)) {K : World → Prop}
    (k : ∀ o, (∃ es c, o = .map es c) → (m < w.heap.size → MapI ((w.putObj m o).heap[m]?) (fun k => (setT f x k).map str)) → K (w.putObj m o)) : runU Pg (Instr.mapUpdate 71 (.map (some m)) (int x.1) (str x.2)) K w := by
  obtain ⟨es, c, hr, hm⟩ := r_mapSet (P := Pg) (t := 71) (kt := T.i64_2) (et := T.string) (by kernel_rfl) (by kernel_rfl) h (k := x.1) (v := str x.2)
  refine runU_i hr (k _ ⟨es, c, rfl⟩ fun hl => ?_)
  rw [hp_put_same hl]
  have e : (fun k => (setT f x k).map str) = fun k' => if x.1 = k' then some (str x.2) else (f k').map str := by
    funext k'
    unfold setT
    split <;> rfl
  rw [e]; exact hm

set_option maxHeartbeats 1000000 in
theorem fail_x {b m : Nat} {wv kv kv' : Value} {d : Dev} {keep : List Int} (h : DevRep w b m d wv kv) (hk : Own w T.i64_2 1 kv' keep.length (keep.map int)) (hkm : kv'.ownBlock ≠ some m) (hkl : keep.length ≤ 100000)
    (k : ∀ w', DevRep w' b m (d.fail keep) (.slice none 0 0) (.slice none 0 0) → Frm (fun k _ => k = b ∨ k = m) w w' → K (.tuple #[]) w') : call Pg F.device_Device_fail [.pointer (some ⟨b, 0, none⟩), kv'] K w := by
  have hs := h.sep
  have hb := h.at_
  obtain ⟨wa, wc, rfl⟩ := ownShape h.wait
  obtain ⟨ka, kc, rfl⟩ := ownShape h.keep
  obtain ⟨ka', kc', rfl⟩ := ownShape hk
  have lb := lt_of hb
  refine device_Device_fail_call ?_
  unfold device_Device_fail
  refine run_i (p_nil _) ?_
  refine run_i s_field ?_
  refine run_i (s_load (cellAt_l hb rfl)) ?_
  refine run_i s_len_sl ?_
  refine Lp_inv (device_Device_fail_l2_mono K) (fun st w' => ∃ i : Nat, i ≤ d.wait.length ∧ st = ([], .pointer (some ⟨b, 0, none⟩), .slice ka' keep.length kc', .slice wa d.wait.length wc, int d.wait.length, int i) ∧ Frm (fun k _ => k = m) w w' ∧
      MapI (w'.heap[m]?) (fun k => (failMap keep 0 (d.wait.take i) d.last k).map str))
    (fun st _ => match st.2.2.2.2.2 with | .int _ k => (d.wait.length - k).toNat | _ => 0) ⟨0, by omega, rfl, .refl _, h.map⟩ ?_
  rintro st w1 ⟨i, hi, rfl, f1, hm1⟩
  unfold device_Device_fail_l2
  have hb1 := f1.keep _ _ hb hs.bm
  have hw1 : Own w1 T.device_write 2 (.slice wa d.wait.length wc) d.wait.length (wcells d.wait) := h.wait.frm f1 (fun g l hg e => hs.wm (by rw [hg, e]))
  have hk1 : Own w1 T.i64_2 1 (.slice ka' keep.length kc') keep.length (keep.map int) := hk.frm f1 (fun g l hg e => hkm (by rw [hg, e]))
  have hfew := h.few
  refine run_i (p_lss _) ?_
  refine cnd_dec (fun hc => ?_) (fun hc => ?_)
  · have hil : i < d.wait.length := by omega
    refine (Rd.of_own hw1).loadA (us := [int (d.wait[i]).1, str (d.wait[i]).2]) (by decide) hil (wrd hil) SliceC.get AggC.get rfl ?_
    obtain ⟨c, hcw⟩ : ∃ c, c = w1.heap.size := ⟨_, rfl⟩
    have esnoc : d.wait.take (i + 1) = d.wait.take i ++ [d.wait[i]] := take_snoc' hil
    have etl : (d.wait.take i).length = i := by rw [List.length_take]; omega
    have efm := failMap_snoc keep d.wait[i] (d.wait.take i) 0 d.last
    rw [etl, Nat.zero_add, ← esnoc] at efm
    have next : ∀ w2, Qt w1 w2 → keepAt keep i = false → device_Device_fail_j3 K (fun s' w' => (∃ i : Nat, i ≤ d.wait.length ∧ s' = ([], .pointer (some ⟨b, 0, none⟩), .slice ka' keep.length kc', .slice wa d.wait.length wc, int d.wait.length, int i) ∧ Frm (fun k _ => k = m) w w' ∧
        MapI (w'.heap[m]?) (fun k => (failMap keep 0 (d.wait.take i) d.last k).map str)) ∧ (match s'.2.2.2.2.2 with | .int _ k => (d.wait.length - k).toNat | _ => 0) < (match (([], .pointer (some ⟨b, 0, none⟩), .slice ka' keep.length kc', .slice wa d.wait.length wc, int d.wait.length, int i) : List Deferred × Value × Value × Value × Value × Value).2.2.2.2.2 with | .int _ k => (d.wait.length - k).toNat | _ => 0))
        [] (.pointer (some ⟨b, 0, none⟩)) (.slice ka' keep.length kc') (.slice wa d.wait.length wc) (int d.wait.length) (int i) w2 := by
      intro w2 q hno
      unfold device_Device_fail_j3
      refine run_i (p_addI (by omega) (by omega) _) ?_
      refine ⟨⟨i + 1, by omega, rfl, f1.trans (.of_qt q), ?_⟩, ?_⟩
      · obtain ⟨es, c, e1, e2⟩ := hm1
        rw [efm, hno]
        exact ⟨es, c, q.all e1, e2⟩
      · first | omega | (simp only; omega)
    have qb : Qt w1 ((w1.alloc (.cells [int 0, str []].toArray T.device_write)).putObj w1.heap.size (.cells [int (d.wait[i]).1, str (d.wait[i]).2].toArray T.device_write (0, 0))) := by (refine (((Frm.refl _).alloc _).put_new _ (by first | omega | (simp only [sz_alloc, sz_put, sz_drew]; omega) | (have := f1.size; first | omega | (simp only [sz_alloc, sz_put, sz_drew] at *; omega)))))
    by_cases hke : keep = []
    · have hkz : keep.length = 0 := by rw [hke]; rfl
      refine run_i s_alloc ?_
      refine runU_i (s_storeW hp_alloc_new rfl (by simp [Value.oneCell', str]) rfl) ?_
      refine run_i s_len_sl ?_
      refine run_i (p_gtrF (by omega) _) ?_
      refine gc_fti ?_
      unfold device_Device_fail_g4
      refine pk_fi ?_
      refine cn_fi ?_
      exact next _ qb (by simp [keepAt, hke])
    · have hkz : 0 < keep.length := List.length_pos_iff.2 hke
      refine run_i s_alloc ?_
      refine runU_i (s_storeW hp_alloc_new rfl (by simp [Value.oneCell', str]) rfl) ?_
      refine run_i s_len_sl ?_
      refine run_i (p_gtrT (by omega) _) ?_
      refine gc_tti ?_
      refine run_i s_len_sl ?_
      refine run_i (p_remI (by omega) (by omega) _) ?_
      have hmod : (i : Int) % (keep.length : Int) = ((i % keep.length : Nat) : Int) := by omega
      have hml : i % keep.length < keep.length := Nat.mod_lt _ hkz
      rw [hmod]
      have hk2 : Rd _ T.i64_2 1 (.slice ka' keep.length kc') keep.length (keep.map int) := (Rd.of_own hk1).qt qb
      refine hk2.load (u := int (keep.getD (i % keep.length) 0)) hml (by simp [List.getD, hml]) SliceC.get PlainC.get rfl ?_
      by_cases hkv : keep.getD (i % keep.length) 0 = 0
      · refine run_i (p_neqF (by omega) _) ?_
        unfold device_Device_fail_g4
        refine pk_ti ?_
        refine cn_fi ?_
        exact next _ qb (by unfold keepAt; rw [decide_eq_true hkv]; simp)
      · have hyes : keepAt keep i = true := by
          unfold keepAt
          rw [decide_eq_false hkv, show keep.isEmpty = false by cases keep with | nil => exact absurd rfl hke | cons a l => rfl]
          rfl
        refine run_i (p_neqT (by omega) _) ?_
        unfold device_Device_fail_g4
        refine pk_ti ?_
        refine cn_ti ?_
        refine rnT_i (fun _ => (p_nil _)) ?_
        refine rnT_i (fun _ => s_field) ?_
        refine rnR_i (s_load (cellAt_l (drew_at (put_other2 (old hb1) (by intro hz; have hz2 := lt_of hb1; first | omega | (simp only [sz_alloc, sz_put, sz_drew] at hz ⊢; omega) | (have := f1.size; have := qb.size; first | omega | (simp only [sz_alloc, sz_put, sz_drew] at *; omega))))) rfl)) ?_
        refine rnT_i (fun _ => s_field) ?_
        refine rnR_i (s_load (cellAt_l (drew_at (hp_put_same (lt_of hp_alloc_new))) rfl)) ?_
        refine rnT_i (fun _ => s_field) ?_
        refine rnR_i (s_load (cellAt_l (drew_at (hp_put_same (lt_of hp_alloc_new))) rfl)) ?_
        obtain ⟨es, cc, e1, e2⟩ := hm1
        have lm := lt_of e1
        refine map_set (f := failMap keep 0 (d.wait.take i) d.last) (x := d.wait[i]) ⟨es, cc, qb.drew.all e1, e2⟩ (fun o ho hmi => ?_)
        have hsz := f1.size
        refine ⟨trivial, ?_⟩
        unfold device_Device_fail_j3
        refine run_i (p_addI (by omega) (by omega) _) ?_
        refine ⟨⟨i + 1, by omega, rfl, ?_, ?_⟩, ?_⟩
        · have : Frm (fun k _ => k = m) w _ := f1.trans (.of_qt qb.drew)
          exact this.put_may _ (fun _ _ => rfl)
        · rw [efm, hyes]
          exact hmi (by simp only [sz_drew, sz_put, sz_alloc]; omega)
        · first | omega | (simp only; omega)
  · have : i = d.wait.length := by omega
    subst this
    rw [List.take_length] at hm1
    unfold device_Device_fail_j1
    obtain ⟨es, cc, e1, e2⟩ := hm1
    have nbm : m ≠ b := fun e => hs.bm e.symm
    refine run_i (p_nil _) ?_
    refine run_i s_field ?_
    refine runU_i (s_store hb1 rfl (by simp <;> omega)) ?_
    refine run_i (p_nil _) ?_
    refine run_i s_field ?_
    refine runU_i (s_store (hp_put_same (lt_of hb1)) rfl (by simp <;> omega)) ?_
    refine run_i (p_nil _) ?_
    refine run_i s_field ?_
    refine runU_i (s_store (hp_put_same (lt_of (hp_put_same (lt_of hb1)))) rfl (by simp <;> omega)) ?_
    refine run_i (p_nil _) ?_
    refine run_i s_field ?_
    refine runU_i (s_store (hp_put_same (lt_of (hp_put_same (lt_of (hp_put_same (lt_of hb1)))))) rfl (by simp <;> omega)) ?_
    refine k _ ⟨?_, ⟨es, cc, ?_, e2⟩, .nil, .nil, by simp [Dev.fail], by simp [Dev.fail]⟩ ?_
    · exact (hp_put_same (lt_of (hp_put_same (lt_of (hp_put_same (lt_of (hp_put_same (lt_of hb1))))))))
    · exact (put_other2 (put_other2 (put_other2 (put_other2 e1 (by intro hz; have hz2 := lt_of e1; first | omega | (simp only [sz_alloc, sz_put, sz_drew] at hz ⊢; omega) | (have := f1.size; first | omega | (simp only [sz_alloc, sz_put, sz_drew] at *; omega)))) (by intro hz; have hz2 := lt_of e1; first | omega | (simp only [sz_alloc, sz_put, sz_drew] at hz ⊢; omega) | (have := f1.size; first | omega | (simp only [sz_alloc, sz_put, sz_drew] at *; omega)))) (by intro hz; have hz2 := lt_of e1; first | omega | (simp only [sz_alloc, sz_put, sz_drew] at hz ⊢; omega) | (have := f1.size; first | omega | (simp only [sz_alloc, sz_put, sz_drew] at *; omega)))) (by intro hz; have hz2 := lt_of e1; first | omega | (simp only [sz_alloc, sz_put, sz_drew] at hz ⊢; omega) | (have := f1.size; first | omega | (simp only [sz_alloc, sz_put, sz_drew] at *; omega))))
    · have F : Frm (fun k _ => k = b ∨ k = m) w w1 := f1.mono (fun _ _ _ h => .inr h)
      exact (((F.put_may _ (fun _ _ => .inl rfl)).put_may _ (fun _ _ => .inl rfl)).put_may _ (fun _ _ => .inl rfl)).put_may _ (fun _ _ => .inl rfl)

theorem cmd_x {b m : Nat} {wv kv : Value} {d : Dev} (h : DevRep w b m d wv kv) (hkl : d.keep.length ≤ 100000)
    (k : ∀ w' wv' kv', DevRep w' b m d.cmd.2 wv' kv' → Frm (fun k _ => k = b ∨ k = m) w w' → ((wv' = wv ∧ kv' = kv) ∨ (wv' = .slice none 0 0 ∧ kv' = .slice none 0 0)) → K (.bool d.cmd.1) w') : call Pg F.device_Device_command [.pointer (some ⟨b, 0, none⟩)] K w := by
  have hb := h.at_
  have hs := h.sep
  have hr := h.rng
  obtain ⟨wa, wc, rfl⟩ := ownShape h.wait
  obtain ⟨ka, kc, rfl⟩ := ownShape h.keep
  have lb := lt_of hb
  obtain ⟨es, cc, e1, e2⟩ := h.map
  have lm := lt_of e1
  have nbm : m ≠ b := fun e => hs.bm e.symm
  refine device_Device_command_call ?_
  unfold device_Device_command
  unfold Dev.cmd at k
  by_cases h1 : d.fuse = 1
  · rw [if_pos h1] at k
    refine run_i (p_nil _) ?_
    refine run_i s_field ?_
    refine run_i (s_load (cellAt_l hb rfl)) ?_
    refine run_i (p_eqlT (by omega) _) ?_
    refine cn_ti ?_
    refine run_i (p_nil _) ?_
    refine run_i s_field ?_
    refine run_i (s_load (cellAt_l hb rfl)) ?_
    refine fail_x h h.keep hs.km hkl (fun w' h' f' => ?_)
    refine lv_i ?_
    exact k w' _ _ h' f' (.inr ⟨rfl, rfl⟩)
  · rw [if_neg h1] at k
    have ow : ∀ (w' : World), Frm (fun k _ => k = b) w w' → w'.heap[b]? = some (.cells [int d.size, .map (some m), .slice wa d.wait.length wc, .bool d.off, int (if 1 < d.fuse then d.fuse - 1 else d.fuse), .slice ka d.keep.length kc, int (IntKind.i64.wrap (d.cmds + 1))].toArray T.device_Device (0, 0)) →
        DevRep w' b m { d with fuse := if 1 < d.fuse then d.fuse - 1 else d.fuse, cmds := IntKind.i64.wrap (d.cmds + 1) } (.slice wa d.wait.length wc) (.slice ka d.keep.length kc) := by
      intro w' f hb'
      refine ⟨hb', ⟨es, cc, f.keep _ _ e1 nbm, e2⟩, h.wait.frm f (fun g l hg e => hs.wb (by rw [hg, e])), h.keep.frm f (fun g l hg e => hs.kb (by rw [hg, e])), ?_, h.few⟩
      split <;> simp only <;> omega
    by_cases h2 : 1 < d.fuse
    · rw [if_pos h2] at k ow
      refine run_i (p_nil _) ?_
      refine run_i s_field ?_
      refine run_i (s_load (cellAt_l hb rfl)) ?_
      refine run_i (p_eqlF (by omega) _) ?_
      refine cn_fi ?_
      refine run_i (p_nil _) ?_
      refine run_i s_field ?_
      refine run_i (s_load (cellAt_l hb rfl)) ?_
      refine run_i (p_gtrT (by omega) _) ?_
      refine cn_ti ?_
      refine run_i (p_nil _) ?_
      refine run_i s_field ?_
      refine run_i (s_load (cellAt_l hb rfl)) ?_
      refine run_i (p_subI (by omega) (by omega) _) ?_
      refine run_i (p_nil _) ?_
      refine run_i s_field ?_
      refine runU_i (s_store hb rfl (by simp <;> omega)) ?_
      unfold device_Device_command_j1
      refine run_i (p_nil _) ?_
      refine run_i s_field ?_
      refine run_i (s_load (cellAt_l (hp_put_same (lt_of hb)) rfl)) ?_
      refine run_i (p_add _) ?_
      refine run_i (p_nil _) ?_
      refine run_i s_field ?_
      refine runU_i (s_store (hp_put_same (lt_of hb)) rfl (by simp <;> omega)) ?_
      refine lv_i ?_
      exact k _ _ _ (ow _ (((Frm.refl w).put_may _ (fun _ _ => rfl)).put_may _ (fun _ _ => rfl)) (by (exact (hp_put_same (lt_of (hp_put_same (lt_of hb))))))) (((Frm.refl w).put_may _ (fun _ _ => .inl rfl)).put_may _ (fun _ _ => .inl rfl)) (.inl ⟨rfl, rfl⟩)
    · rw [if_neg h2] at k ow
      refine run_i (p_nil _) ?_
      refine run_i s_field ?_
      refine run_i (s_load (cellAt_l hb rfl)) ?_
      refine run_i (p_eqlF (by omega) _) ?_
      refine cn_fi ?_
      refine run_i (p_nil _) ?_
      refine run_i s_field ?_
      refine run_i (s_load (cellAt_l hb rfl)) ?_
      refine run_i (p_gtrF (by omega) _) ?_
      refine cn_fi ?_
      unfold device_Device_command_j1
      refine run_i (p_nil _) ?_
      refine run_i s_field ?_
      refine run_i (s_load (cellAt_l hb rfl)) ?_
      refine run_i (p_add _) ?_
      refine run_i (p_nil _) ?_
      refine run_i s_field ?_
      refine runU_i (s_store hb rfl (by simp <;> omega)) ?_
      refine lv_i ?_
      exact k _ _ _ (ow _ ((Frm.refl w).put_may _ (fun _ _ => rfl)) (by (exact (hp_put_same (lt_of hb))))) ((Frm.refl w).put_may _ (fun _ _ => .inl rfl)) (.inl ⟨rfl, rfl⟩)
end Go.Sx
end

section
/- The device: Write, Sync. -/
set_option linter.unusedVariables false
set_option linter.unusedSimpArgs false
set_option maxRecDepth 100000
namespace Go.Sx
open Go Go.RowKit
variable {K : Value → World → Prop} {w : World}

theorem devX_sub {w w' : World} {b m : Nat} {wv kv wv' kv' : Value} (h : (wv' = wv ∧ kv' = kv) ∨ (wv' = .slice none 0 0 ∧ kv' = .slice none 0 0)) (k : Nat) (hk : devX b m wv' kv' k) : devX b m wv kv k := by
  rcases h with ⟨rfl, rfl⟩ | ⟨rfl, rfl⟩
  · exact hk
  · rcases hk with hk | hk | hk | hk
    · exact .inl hk
    · exact .inr (.inl hk)
    · cases hk
    · cases hk

theorem Dev.cmd_wait (d : Dev) : d.cmd.1 = true → d.cmd.2.wait = d.wait ∧ d.cmd.2.size = d.size ∧ d.cmd.2.off = d.off := by
  unfold Dev.cmd
  split
  · intro h; cases h
  · intro _; exact ⟨rfl, rfl, rfl⟩

set_option maxHeartbeats 1000000 in
theorem device_Write_c {v : Value} {d : Dev} {E : Cov} {i : Int} {t : Text} (h : DevI w v d E) (hkl : d.keep.length ≤ 100000) (hwl : d.wait.length < 100000) (htl : t.length ≤ 100000)
    (k : ∀ w' E', DevI w' v (d.write i t).1 E' → Mv w E w' E' → K (int (d.write i t).2) w') : call Pg F.device_Device_Write [v, int i, str t] K w := by
  obtain ⟨b, m, wv, kv, rfl, h, rfl⟩ := h
  have hb := h.at_
  have lb := lt_of hb
  refine device_Device_Write_call ?_
  unfold device_Device_Write
  unfold Dev.write at k
  cases hoff : d.off with
  | true =>
    rw [hoff] at hb
    rw [if_pos hoff] at k
    refine run_i s_ptr_eql ?_
    refine cn_fi ?_
    refine run_i (p_nil _) ?_
    refine run_i s_field ?_
    refine run_i (s_load (cellAt_l hb rfl)) ?_
    refine cn_ti ?_
    refine lv_i ?_
    exact k w _ ⟨b, m, wv, kv, rfl, h, rfl⟩ .refl
  | false =>
    rw [hoff] at hb
    rw [if_neg (by rw [hoff]; simp)] at k
    by_cases h1 : i < 0
    · rw [if_pos (.inl h1)] at k
      refine run_i s_ptr_eql ?_
      refine cn_fi ?_
      refine run_i (p_nil _) ?_
      refine run_i s_field ?_
      refine run_i (s_load (cellAt_l hb rfl)) ?_
      refine cn_fi ?_
      refine run_i (p_lssT (by omega) _) ?_
      refine gc_tfi ?_
      unfold device_Device_Write_g1
      refine pk_ti ?_
      refine cn_ti ?_
      refine lv_i ?_
      exact k w _ ⟨b, m, wv, kv, rfl, h, rfl⟩ .refl
    · by_cases h2 : d.size ≤ i
      · rw [if_pos (.inr h2)] at k
        refine run_i s_ptr_eql ?_
        refine cn_fi ?_
        refine run_i (p_nil _) ?_
        refine run_i s_field ?_
        refine run_i (s_load (cellAt_l hb rfl)) ?_
        refine cn_fi ?_
        refine run_i (p_lssF (by omega) _) ?_
        refine gc_ffi ?_
        refine run_i (p_nil _) ?_
        refine run_i s_field ?_
        refine run_i (s_load (cellAt_l hb rfl)) ?_
        refine run_i (p_geqT (by omega) _) ?_
        unfold device_Device_Write_g1
        refine pk_fi ?_
        refine cn_ti ?_
        refine lv_i ?_
        exact k w _ ⟨b, m, wv, kv, rfl, h, rfl⟩ .refl
      · rw [if_neg (by omega)] at k
        by_cases h3 : 256 < t.length
        · rw [if_pos h3] at k
          refine run_i s_ptr_eql ?_
          refine cn_fi ?_
          refine run_i (p_nil _) ?_
          refine run_i s_field ?_
          refine run_i (s_load (cellAt_l hb rfl)) ?_
          refine cn_fi ?_
          refine run_i (p_lssF (by omega) _) ?_
          refine gc_ffi ?_
          refine run_i (p_nil _) ?_
          refine run_i s_field ?_
          refine run_i (s_load (cellAt_l hb rfl)) ?_
          refine run_i (p_geqF (by omega) _) ?_
          unfold device_Device_Write_g1
          refine pk_fi ?_
          refine cn_fi ?_
          refine run_i s_len_str ?_
          refine run_i (p_gtrT (by omega) _) ?_
          refine cn_ti ?_
          refine lv_i ?_
          exact k w _ ⟨b, m, wv, kv, rfl, h, rfl⟩ .refl
        · rw [if_neg h3] at k
          refine run_i s_ptr_eql ?_
          refine cn_fi ?_
          refine run_i (p_nil _) ?_
          refine run_i s_field ?_
          refine run_i (s_load (cellAt_l hb rfl)) ?_
          refine cn_fi ?_
          refine run_i (p_lssF (by omega) _) ?_
          refine gc_ffi ?_
          refine run_i (p_nil _) ?_
          refine run_i s_field ?_
          refine run_i (s_load (cellAt_l hb rfl)) ?_
          refine run_i (p_geqF (by omega) _) ?_
          unfold device_Device_Write_g1
          refine pk_fi ?_
          refine cn_fi ?_
          refine run_i s_len_str ?_
          refine run_i (p_gtrF (by omega) _) ?_
          refine cn_fi ?_
          refine cmd_x h hkl (fun w1 wv1 kv1 r1 f1 hsh => ?_)
          obtain ⟨dc, hdc⟩ : ∃ dc, dc = d.cmd := ⟨_, rfl⟩
          have hcw := d.cmd_wait
          rw [← hdc] at k r1 hcw ⊢
          have m1 : Mv w (devX b m wv kv) w1 (devX b m wv1 kv1) := ⟨f1.mono (fun k o _ e => e.elim .inl fun e => .inr (.inl e)), fun k hk => .inl (devX_sub (w := w) (w' := w1) hsh k hk)⟩
          cases hc1 : dc.1 with
          | false =>
            rw [if_neg (by rw [hc1]; simp)] at k
            refine run_i (p_not _) ?_
            refine cn_ti ?_
            refine lv_i ?_
            exact k w1 _ ⟨b, m, wv1, kv1, rfl, r1, rfl⟩ m1
          | true =>
            rw [if_pos hc1] at k
            obtain ⟨hcw1, hcw2, hcw3⟩ := hcw hc1
            refine run_i (p_not _) ?_
            refine cn_fi ?_
            have hb1 := r1.at_
            have lb1 := lt_of hb1
            have sp := r1.sep
            refine ⟨fun w' => w'.heap[b]? = some (.cells [int dc.2.size, .map (some m), wv1, .bool dc.2.off, int dc.2.fuse, kv1, int dc.2.cmds].toArray T.device_Device (0, 0)), hb1, ?_⟩
            refine rnT_i (fun _ => (p_nil _)) ?_
            refine rnT_i (fun _ => s_field) ?_
            refine rn_i (fun w' hS => s_load (cellAt_l hS rfl)) ?_
            refine rnT_i (fun _ => s_len_str) ?_
            refine rnT_i (fun _ => (p_subI (by omega) (by omega) _)) ?_
            have e256 : (256 : Int) - (t.length : Int) = ((256 - t.length : Nat) : Int) := by omega
            rw [e256]
            refine noughts_c (by omega) (fun w2 q2 => ?_)
            have Q2 : Qt w1 w2 := (Frm.refl w1).drew.trans q2
            have r2 := r1.qt Q2
            refine ⟨r2.at_, ?_⟩
            refine rnT_i (fun _ => (p_cat (by first | omega | (simp only [List.length_append, List.length_take, List.length_drop, List.length_cons, List.length_nil, List.length_replicate, List.length_map, List.length_reverse] at *; omega)) _)) ?_
            refine rnT_i (fun w => build_of (cells := #[int i, str (padT t)]) (by kernel_rfl) w) ?_
            refine run_i (s_build1 (by decide) (by decide) (by kernel_rfl)) ?_
            have Q3 : Qt w1 (w2.alloc (.cells [int i, str (padT t)].toArray T.device_write)) := Q2.alloc _
            have r3 := r1.qt Q3
            refine ⟨r3.at_, ?_⟩
            have how : Own (w2.alloc (.cells [int i, str (padT t)].toArray T.device_write)) T.device_write 2 wv1 d.wait.length (wcells d.wait) := by
              have := r3.wait
              rw [hcw1] at this
              exact this
            refine s_append (size := 2) (by decide) (by decide) how (m := 1) (news := [int i, str (padT t)]) ⟨rfl, _, _, rfl, Nat.le_refl _, fun _ => ⟨_, 0, _, _, rfl, hp_alloc_new, rfl⟩⟩ (by simp [Value.oneCell', str]) (by omega) (fun wv4 w4 ho4 f4 hb4 _ => ?_)
            have hb4' := f4.keep _ _ r3.at_ sp.wb
            have lb4 := lt_of hb4'
            obtain ⟨a4, c4, rfl⟩ := ownShape ho4
            refine rnT_i (fun _ => (p_nil _)) ?_
            refine rnT_i (fun _ => s_field) ?_
            refine runU_i (s_store hb4' rfl (by simp <;> omega)) ?_
            refine lv_i ?_
            obtain ⟨es, cc, e1, e2⟩ := r3.map
            have hm4 := f4.keep _ _ e1 sp.wm
            have hnm : m ≠ b := fun e => sp.bm e.symm
            have hlen : (d.wait ++ [(i, padT t)]).length = d.wait.length + 1 := by simp
            have hoth : ∀ g, (Value.slice a4 (d.wait.length + 1) c4).ownBlock = some g → wv1.ownBlock = some g ∨ w1.heap.size ≤ g := by
              intro g hg
              rcases hb4 with e | e
              · exact .inl (by rw [← e]; exact hg)
              · rw [e] at hg; cases hg; right; have := Q2.size; rw [sz_alloc]; omega
            have hb4n : (Value.slice a4 (d.wait.length + 1) c4).ownBlock ≠ some b := ho4.ne hb4' (by decide)
            refine k _ _ ⟨b, m, .slice a4 (d.wait.length + 1) c4, kv1, rfl, ⟨?_, ⟨es, cc, put_other hm4 hnm, e2⟩, ?_, ?_, r1.rng, ?_⟩, rfl⟩ (m1.trans ⟨?_, ?_⟩)
            · rw [hp_put_same lb4]
              simp only [hcw1, hlen]
              rfl
            · simp only [hcw1, hlen]
              have ew : wcells (d.wait ++ [(i, padT t)]) = wcells d.wait ++ [int i, str (padT t)] := by simp [wcells]
              rw [ew]
              exact ho4.keep (fun g l hg hl => put_other hl (fun e => hb4n (by rw [hg, e])))
            · have hk4 := r3.keep.frm f4 (fun g l hg e => sp.wk g e hg)
              exact hk4.keep (fun g l hg hl => put_other hl (fun e => sp.kb (by rw [hg, e])))
            · simp only [hcw1, hlen]; omega
            · have F : Frm (fun k _ => devX b m wv1 kv1 k) w1 w4 := (Frm.of_qt Q3).trans (f4.mono (fun k o _ e => .inr (.inr (.inl e))))
              exact F.put_may _ (fun _ _ => .inl rfl)
            · rintro k (hk | hk | hk | hk)
              · exact .inl (.inl hk)
              · exact .inl (.inr (.inl hk))
              · exact (hoth k hk).imp (fun h => .inr (.inr (.inl h))) id
              · exact .inl (.inr (.inr (.inr hk)))

set_option maxHeartbeats 1000000 in
theorem device_Sync_c {v : Value} {d : Dev} {E : Cov} (h : DevI w v d E) (hkl : d.keep.length ≤ 100000)
    (k : ∀ w' E', DevI w' v d.sync.1 E' → Mv w E w' E' → K (int d.sync.2) w') : call Pg F.device_Device_Sync [v] K w := by
  obtain ⟨b, m, wv, kv, rfl, h, rfl⟩ := h
  have hb := h.at_
  have lb := lt_of hb
  refine device_Device_Sync_call ?_
  unfold device_Device_Sync
  unfold Dev.sync at k
  cases hoff : d.off with
  | true =>
    rw [hoff] at hb
    rw [if_pos hoff] at k
    refine run_i s_ptr_eql ?_
    refine cn_fi ?_
    refine run_i (p_nil _) ?_
    refine run_i s_field ?_
    refine run_i (s_load (cellAt_l hb rfl)) ?_
    refine cn_ti ?_
    unfold device_Device_Sync_j4
    refine cn_ti ?_
    refine lv_i ?_
    exact k w _ ⟨b, m, wv, kv, rfl, h, rfl⟩ .refl
  | false =>
    rw [hoff] at hb
    rw [if_neg (by rw [hoff]; simp)] at k
    refine run_i s_ptr_eql ?_
    refine cn_fi ?_
    refine run_i (p_nil _) ?_
    refine run_i s_field ?_
    refine run_i (s_load (cellAt_l hb rfl)) ?_
    refine cn_fi ?_
    refine cmd_x h hkl (fun w1 wv1 kv1 r1 f1 hsh => ?_)
    obtain ⟨dc, hdc⟩ : ∃ dc, dc = d.cmd := ⟨_, rfl⟩
    have hcw := d.cmd_wait
    rw [← hdc] at k r1 hcw ⊢
    have m1 : Mv w (devX b m wv kv) w1 (devX b m wv1 kv1) := ⟨f1.mono (fun k o _ e => e.elim .inl fun e => .inr (.inl e)), fun k hk => .inl (devX_sub (w := w) (w' := w1) hsh k hk)⟩
    refine run_i (p_not _) ?_
    unfold device_Device_Sync_j4
    cases hc1 : dc.1 with
    | false =>
      rw [if_neg (by rw [hc1]; simp)] at k
      refine cn_ti ?_
      refine lv_i ?_
      exact k w1 _ ⟨b, m, wv1, kv1, rfl, r1, rfl⟩ m1
    | true =>
      rw [if_pos hc1] at k
      obtain ⟨hcw1, hcw2, hcw3⟩ := hcw hc1
      have hb1 := r1.at_
      have sp := r1.sep
      obtain ⟨wa, wc, rfl⟩ := ownShape r1.wait
      have lb1 := lt_of hb1
      have nbm : m ≠ b := fun e => sp.bm e.symm
      have hfew := r1.few
      refine cn_fi ?_
      unfold device_Device_Sync_j1
      refine run_i (p_nil _) ?_
      refine run_i s_field ?_
      refine run_i (s_load (cellAt_l hb1 rfl)) ?_
      refine run_i s_len_sl ?_
      refine Lp_inv (device_Device_Sync_l3_mono K) (fun st w' => ∃ i : Nat, i ≤ dc.2.wait.length ∧ st = ([], .pointer (some ⟨b, 0, none⟩), .slice wa dc.2.wait.length wc, int dc.2.wait.length, int i) ∧ Frm (fun k _ => k = m) w1 w' ∧
          MapI (w'.heap[m]?) (fun k => (syncMap (dc.2.wait.take i) dc.2.last k).map str))
        (fun st _ => match st.2.2.2.2 with | .int _ k => (dc.2.wait.length - k).toNat | _ => 0) ⟨0, by omega, rfl, .refl _, r1.map⟩ ?_
      rintro st w2 ⟨i, hi, rfl, f2, hm2⟩
      unfold device_Device_Sync_l3
      have hb2 := f2.keep _ _ hb1 sp.bm
      have hw2 : Own w2 T.device_write 2 (.slice wa dc.2.wait.length wc) dc.2.wait.length (wcells dc.2.wait) := r1.wait.frm f2 (fun g l hg e => sp.wm (by rw [hg, e]))
      refine run_i (p_lss _) ?_
      refine cnd_dec (fun hc => ?_) (fun hc => ?_)
      · have hil : i < dc.2.wait.length := by omega
        refine (Rd.of_own hw2).loadA (us := [int (dc.2.wait[i]).1, str (dc.2.wait[i]).2]) (by decide) hil (wrd hil) SliceC.get AggC.get rfl ?_
        have esnoc : dc.2.wait.take (i + 1) = dc.2.wait.take i ++ [dc.2.wait[i]] := take_snoc' hil
        have qb : Qt w2 ((w2.alloc (.cells [int 0, str []].toArray T.device_write)).putObj w2.heap.size (.cells [int (dc.2.wait[i]).1, str (dc.2.wait[i]).2].toArray T.device_write (0, 0))) := by (refine (((Frm.refl _).alloc _).put_new _ (by first | omega | (simp only [sz_alloc, sz_put, sz_drew]; omega) | (have := f1.size; have := f2.size; first | omega | (simp only [sz_alloc, sz_put, sz_drew] at *; omega)))))
        obtain ⟨es, cc, e1, e2⟩ := hm2
        have lm := lt_of e1
        refine run_i s_alloc ?_
        refine runU_i (s_storeW hp_alloc_new rfl (by simp [Value.oneCell', str]) rfl) ?_
        refine rnT_i (fun _ => (p_nil _)) ?_
        refine rnT_i (fun _ => s_field) ?_
        refine rnR_i (s_load (cellAt_l (drew_at (put_other2 (old hb2) (by intro hz; have hz2 := lt_of hb2; first | omega | (simp only [sz_alloc, sz_put, sz_drew] at hz ⊢; omega) | (have := f1.size; have := f2.size; have := qb.size; first | omega | (simp only [sz_alloc, sz_put, sz_drew] at *; omega))))) rfl)) ?_
        refine rnT_i (fun _ => s_field) ?_
        refine rnR_i (s_load (cellAt_l (drew_at (hp_put_same (lt_of hp_alloc_new))) rfl)) ?_
        refine rnT_i (fun _ => s_field) ?_
        refine rnR_i (s_load (cellAt_l (drew_at (hp_put_same (lt_of hp_alloc_new))) rfl)) ?_
        refine map_set (f := syncMap (dc.2.wait.take i) dc.2.last) (x := dc.2.wait[i]) ⟨es, cc, qb.drew.all e1, e2⟩ (fun o ho hmi => ?_)
        refine ⟨trivial, ?_⟩
        refine run_i (p_addI (by omega) (by omega) _) ?_
        refine ⟨⟨i + 1, by omega, rfl, ?_, ?_⟩, ?_⟩
        · have : Frm (fun k _ => k = m) w1 _ := f2.trans (.of_qt qb.drew)
          exact this.put_may _ (fun _ _ => rfl)
        · rw [esnoc, syncMap_snoc]
          exact hmi (by simp only [sz_drew, sz_put, sz_alloc]; omega)
        · first | omega | (simp only; omega)
      · have : i = dc.2.wait.length := by omega
        subst this
        rw [List.take_length] at hm2
        obtain ⟨es, cc, e1, e2⟩ := hm2
        unfold device_Device_Sync_j2
        refine run_i (p_nil _) ?_
        refine run_i s_field ?_
        refine runU_i (s_store hb2 rfl (by simp <;> omega)) ?_
        refine k _ _ ⟨b, m, .slice none 0 0, kv1, rfl, ⟨?_, ⟨es, cc, put_other e1 nbm, e2⟩, .nil, ?_, r1.rng, by simp⟩, rfl⟩ (m1.trans ⟨?_, ?_⟩)
        · exact (hp_put_same (lt_of hb2))
        · have := r1.keep.frm f2 (fun g l hg e => sp.km (by rw [hg, e]))
          exact this.keep (fun g l hg hl => put_other hl (fun e => sp.kb (by rw [hg, e])))
        · have F : Frm (fun k _ => devX b m (.slice wa dc.2.wait.length wc) kv1 k) w1 w2 := f2.mono (fun k o _ e => .inr (.inl e))
          exact F.put_may _ (fun _ _ => .inl rfl)
        · rintro k (hk | hk | hk | hk)
          · exact .inl (.inl hk)
          · exact .inl (.inr (.inl hk))
          · cases hk
          · exact .inl (.inr (.inr (.inr hk)))
end Go.Sx
end

section
/- Numbers as bytes. -/
set_option linter.unusedVariables false
set_option linter.unusedSimpArgs false
set_option maxRecDepth 100000
namespace Go.Sx
open Go Go.RowKit
variable {K : Value → World → Prop} {w : World}

theorem made_one (v : Value) (m : Nat) : (madeCells #[v] m).toList = List.replicate m v := by
  simp only [madeCells, Array.toList_map, Array.toList_range]
  rw [List.eq_replicate_iff]
  refine ⟨by simp, fun b hb => ?_⟩
  obtain ⟨i, _, rfl⟩ := List.mem_map.1 hb
  have : i % (#[v] : Array Value).size = 0 := Nat.mod_one i
  rw [this]; rfl

/-- A number of so many bytes, the greatest first. -/
def numOf (s : Text) : Int := s.foldl (fun n b => n * 256 + b.toNat) 0
def putT : Nat → Int → Text
  | 0, _ => []
  | k + 1, n => UInt8.ofNat (n / 256 ^ k % 256).toNat :: putT k n

theorem putT_len (k : Nat) (n : Int) : (putT k n).length = k := by
  induction k with
  | zero => rfl
  | succ k ih => simp [putT, ih]

theorem numOf_snoc (s : Text) (b : UInt8) : numOf (s ++ [b]) = numOf s * 256 + b.toNat := by
  unfold numOf; rw [List.foldl_append]; rfl
theorem numOf_go (s : Text) : ∀ n : Int, s.foldl (fun (n : Int) (b : UInt8) => n * 256 + (b.toNat : Int)) n = n * 256 ^ s.length + numOf s := by
  induction s with
  | nil => intro n; simp [numOf]
  | cons b s ih =>
    intro n
    have h0 := ih b.toNat
    have h1 : numOf (b :: s) = s.foldl (fun (n : Int) (b : UInt8) => n * 256 + (b.toNat : Int)) (0 * 256 + b.toNat) := rfl
    rw [List.foldl_cons, ih, h1]
    have e : (0 : Int) * 256 + b.toNat = b.toNat := by omega
    rw [e, h0, List.length_cons, Int.pow_succ, Int.add_mul, Int.mul_assoc, Int.mul_comm 256, Int.add_assoc]
theorem numOf_cons (b : UInt8) (s : Text) : numOf (b :: s) = b.toNat * 256 ^ s.length + numOf s := by
  have h1 : numOf (b :: s) = s.foldl (fun (n : Int) (b : UInt8) => n * 256 + (b.toNat : Int)) (0 * 256 + b.toNat) := rfl
  rw [h1, numOf_go]; simp
theorem numOf_nonneg (s : Text) : 0 ≤ numOf s := by
  induction s with
  | nil => simp [numOf]
  | cons b s ih =>
    rw [numOf_cons]
    have : (0 : Int) ≤ b.toNat * 256 ^ s.length := Int.mul_nonneg (by omega) (Int.pow_nonneg (by decide))
    omega
theorem numOf_lt (s : Text) : numOf s < 256 ^ s.length := by
  induction s with
  | nil => simp [numOf]
  | cons b s ih =>
    rw [numOf_cons, List.length_cons, Int.pow_succ]
    have hb : (b.toNat : Int) ≤ 255 := by have := b.toNat_lt; omega
    have hp : (0 : Int) < 256 ^ s.length := Int.pow_pos (by decide)
    have : (b.toNat : Int) * 256 ^ s.length ≤ 255 * 256 ^ s.length := Int.mul_le_mul_of_nonneg_right hb (by omega)
    omega
theorem numOf_putT (k : Nat) (n : Int) (h0 : 0 ≤ n) : numOf (putT k n) = n % 256 ^ k := by
  induction k with
  | zero => simp [putT, numOf, Int.emod_one]
  | succ k ih =>
    have hp : (0 : Int) < 256 ^ k := Int.pow_pos (by decide)
    have e1 : ((UInt8.ofNat (n / 256 ^ k % 256).toNat).toNat : Int) = n / 256 ^ k % 256 := by
      have h1 : 0 ≤ n / 256 ^ k % 256 := Int.emod_nonneg _ (by decide)
      have h2 : n / 256 ^ k % 256 < 256 := Int.emod_lt_of_pos _ (by decide)
      rw [UInt8.toNat_ofNat']
      omega
    rw [putT, numOf_cons, putT_len, ih, e1, Int.pow_succ]
    have h3 := Int.emod_add_mul_ediv n (256 ^ k)
    have h4 := Int.emod_add_mul_ediv (n / 256 ^ k) 256
    have h5 : n % (256 ^ k * 256) = n % 256 ^ k + 256 ^ k * (n / 256 ^ k % 256) := by
      rw [Int.emod_def n (256 ^ k * 256), ← Int.ediv_ediv_of_nonneg (by omega : (0:Int) ≤ 256 ^ k)]
      have h6 : 256 ^ k * 256 * (n / 256 ^ k / 256) = 256 ^ k * (256 * (n / 256 ^ k / 256)) := Int.mul_assoc ..
      rw [h6]
      have h7 : n / 256 ^ k % 256 = n / 256 ^ k - 256 * (n / 256 ^ k / 256) := by omega
      rw [h7, Int.mul_sub]
      omega
    rw [h5, Int.mul_comm (256 ^ k)]
    omega
theorem numOf_put {k : Nat} {n : Int} (h0 : 0 ≤ n) (h1 : n < 256 ^ k) : numOf (putT k n) = n := by
  rw [numOf_putT k n h0, Int.emod_eq_of_lt h0 h1]
theorem putT_numOf (s : Text) : putT s.length (numOf s) = s := by
  have key : ∀ (s : Text) (m : Int), 0 ≤ m → putT s.length (m * 256 ^ s.length + numOf s) = s := by
    intro s
    induction s with
    | nil => intro m _; rfl
    | cons b s ih =>
      intro m hm
      have hp : (0 : Int) < 256 ^ s.length := Int.pow_pos (by decide)
      have h2 := numOf_lt s
      have h3 := numOf_nonneg s
      have hb : (b.toNat : Int) < 256 := by have := b.toNat_lt; omega
      rw [List.length_cons, putT, numOf_cons, Int.pow_succ]
      have e0 : m * (256 ^ s.length * 256) + (b.toNat * 256 ^ s.length + numOf s) = (m * 256 + b.toNat) * 256 ^ s.length + numOf s := by
        rw [Int.add_mul, Int.mul_assoc, Int.mul_comm 256]; omega
      rw [e0, ih _ (by omega)]
      have e1 : ((m * 256 + b.toNat) * 256 ^ s.length + numOf s) / 256 ^ s.length = m * 256 + b.toNat := by
        rw [Int.add_comm, Int.add_mul_ediv_right _ _ (by omega), Int.ediv_eq_zero_of_lt h3 h2]; omega
      rw [e1]
      have e2 : (m * 256 + (b.toNat : Int)) % 256 = b.toNat := by omega
      rw [e2]
      simp
  have := key s 0 (by decide)
  simpa using this

theorem pow256_le {i j : Nat} (h : i ≤ j) : (256 : Int) ^ i ≤ 256 ^ j := by
  have h1 : (256 : Nat) ^ i ≤ 256 ^ j := Nat.pow_le_pow_right (by decide) h
  have h2 : ∀ k, ((256 ^ k : Nat) : Int) = (256 : Int) ^ k := fun k => by rw [Int.natCast_pow]; rfl
  rw [← h2, ← h2]
  exact_mod_cast h1

theorem or_small {n b : Int} (h0 : 0 ≤ n) (h1 : n < 2 ^ 54) (h2 : 0 ≤ b) (h3 : b < 256) : bitv (fun _ x y => x ||| y) .i64 (n * 2 ^ 8) b = n * 256 + b := by
  obtain ⟨m, rfl⟩ : ∃ m : Nat, n = m := ⟨n.toNat, by omega⟩
  obtain ⟨c, rfl⟩ : ∃ c : Nat, b = c := ⟨b.toNat, by omega⟩
  unfold bitv
  have e1 : BitVec.ofInt 64 ((m : Int) * 2 ^ 8) = BitVec.ofNat 64 (m * 256) := by
    apply BitVec.eq_of_toNat_eq
    rw [BitVec.toNat_ofInt, BitVec.toNat_ofNat]
    omega
  have e2 : BitVec.ofInt 64 (c : Int) = BitVec.ofNat 64 c := by
    apply BitVec.eq_of_toNat_eq
    rw [BitVec.toNat_ofInt, BitVec.toNat_ofNat]
    omega
  have e3 : (BitVec.ofNat 64 (m * 256) ||| BitVec.ofNat 64 c).toNat = m * 256 + c := by
    rw [BitVec.toNat_or, BitVec.toNat_ofNat, BitVec.toNat_ofNat, Nat.mod_eq_of_lt (by omega), Nat.mod_eq_of_lt (by omega)]
    have := Nat.shiftLeft_add_eq_or_of_lt (show c < 2 ^ 8 by omega) m
    rw [Nat.shiftLeft_eq] at this
    exact this.symm
  show IntKind.i64.wrap (((BitVec.ofInt 64 ((m : Int) * 2 ^ 8)) ||| (BitVec.ofInt 64 (c : Int))).toNat) = _
  rw [e1, e2, e3, wrapI (by omega) (by omega)]
  omega

theorem sum_Get_c {s : Text} (hs : s.length ≤ 7) (k : K (int (numOf s)) w) : call Pg F.sum_Get [str s] K w := by
  refine sum_Get_call ?_
  unfold sum_Get
  refine run_i s_len_str ?_
  refine run_i (p_gtrF (by omega) _) ?_
  refine cn_fi ?_
  refine run_i s_len_str ?_
  refine Lp_inv (sum_Get_l2_mono K) (fun st w' => w' = w ∧ ∃ i : Nat, i ≤ s.length ∧ st = ([], str s, int (numOf (s.take i)), int s.length, int i))
    (fun st _ => match st.2.2.2.2 with | .int _ k => (s.length - k).toNat | _ => 0) ⟨rfl, 0, by omega, rfl⟩ ?_
  rintro st w' ⟨rfl, i, hi, rfl⟩
  unfold sum_Get_l2
  refine run_i (p_lss _) ?_
  refine cnd_dec (fun h => ?_) (fun h => ?_)
  · have hi' : i < s.length := by omega
    have h1 := numOf_nonneg (s.take i)
    have h2 := numOf_lt (s.take i)
    have hl : (s.take i).length = i := by rw [List.length_take]; omega
    rw [hl] at h2
    have h3 : (256 : Int) ^ i ≤ 256 ^ 6 := pow256_le (by omega)
    have h4 : (256 : Int) ^ 6 = 281474976710656 := by decide
    refine run_i (p_shl (by omega) _) ?_
    have e1 : IntKind.i64.wrap (numOf (s.take i) * 2 ^ (min (8 : Int).toNat IntKind.i64.bits)) = numOf (s.take i) * 2 ^ 8 := by
      have : min (8 : Int).toNat IntKind.i64.bits = 8 := by decide
      rw [this, wrapI (by omega) (by omega)]
    rw [e1]
    refine run_i (s_index_str (i := (i : Int)) (by omega) (by omega)) ?_
    have hb : ((s.getD (i : Int).toNat 0).toNat : Int) < 256 := by have := (s.getD (i : Int).toNat 0).toNat_lt; omega
    refine run_i (s_convI (by omega) (by omega)) ?_
    refine run_i (p_or _) ?_
    refine run_i (p_addI (by omega) (by omega) _) ?_
    refine ⟨⟨rfl, i + 1, by omega, ?_⟩, ?_⟩
    · have e2 : s.getD (i : Int).toNat 0 = s[i] := by simp [List.getD, hi']
      rw [or_small h1 (by omega) (by omega) hb, e2, take_snoc' hi', numOf_snoc]
      rfl
    · first | omega | (simp only; omega)
  · have : i = s.length := by omega
    subst this
    unfold sum_Get_j1
    rw [List.take_length]
    exact k

def lsnOf (s : Text) : Int := if s.length = 512 then numOf (s.take 6) else 0
theorem page_LSN_c {s : Text} (hs : s.length ≤ 1000000) (k : K (int (lsnOf s)) w) : call Pg F.page_LSN [str s] K w := by
  refine page_LSN_call ?_
  unfold page_LSN
  unfold lsnOf at k
  refine run_i s_len_str ?_
  by_cases h : s.length = 512
  · rw [if_pos h] at k
    refine run_i (p_neqF (by omega) _) ?_
    refine cn_fi ?_
    refine run_i (s_str_h (by first | omega | (simp only [List.length_append, List.length_take, List.length_drop, List.length_cons, List.length_nil, List.length_replicate, List.length_map, List.length_reverse] at *; omega)) (by first | omega | (simp only [List.length_append, List.length_take, List.length_drop, List.length_cons, List.length_nil, List.length_replicate, List.length_map, List.length_reverse] at *; omega))) ?_
    refine sum_Get_c (by rw [List.length_take]; simp; omega) ?_
    refine lv_i ?_
    exact k
  · rw [if_neg h] at k
    refine run_i (p_neqT (by omega) _) ?_
    refine cn_ti ?_
    refine lv_i ?_
    exact k

theorem shr_small {n : Int} (h0 : 0 ≤ n) (i : Nat) (hi : i ≤ 7) : n.fdiv (2 ^ (min ((8 : Int) * (i : Int)).toNat IntKind.i64.bits)) = n / 256 ^ i := by
  have e : min ((8 : Int) * (i : Int)).toNat IntKind.i64.bits = 8 * i := by simp only [IntKind.bits]; omega
  have hp : (0 : Int) ≤ 2 ^ (8 * i) := Int.pow_nonneg (by decide)
  rw [e, Int.fdiv_eq_ediv_of_nonneg _ hp]
  congr 1
  rw [Int.pow_mul]
  rfl

def bcells (s : Text) : List Value := s.map fun b => .int .u8 (b.toNat : Int)
theorem bcells_len (s : Text) : (bcells s).length = s.length := by simp [bcells]

theorem sum_Put_c {n : Int} {size : Nat} (h1 : 1 ≤ size) (h2 : size ≤ 7) (h0 : 0 ≤ n) (hn : n < 256 ^ size) (k : ∀ w', Qt w w' → K (str (putT size n)) w') : call Pg F.sum_Put [int n, int size] K w := by
  refine sum_Put_call ?_
  unfold sum_Put
  have hn7 : n < 72057594037927936 := by
    have : (256 : Int) ^ size ≤ 256 ^ 7 := pow256_le h2
    have h4 : (256 : Int) ^ 7 = 72057594037927936 := by decide
    omega
  refine run_i (p_lssF (by omega) _) ?_
  refine gc_ffi ?_
  refine run_i (p_gtrF (by omega) _) ?_
  unfold sum_Put_g4
  refine pk_fi ?_
  refine gc_ffi ?_
  refine run_i (p_lssF (by omega) _) ?_
  unfold sum_Put_g5
  refine pk_fi ?_
  refine gc_ffi ?_
  refine run_i (p_mulI (by omega) (by omega) _) ?_
  refine run_i (p_shr (by omega) _) ?_
  refine run_i (p_neq _) ?_
  unfold sum_Put_g6
  refine pk_fi ?_
  have hz : n / 256 ^ size = 0 := Int.ediv_eq_zero_of_lt h0 hn
  rw [shr_small h0 size h2, hz]
  refine cn_fi ?_
  unfold sum_Put_j1
  refine r_make (t := 42) (e := T.u8) (size := 1) (bytes := 1) (z := .int .u8 0) (by kernel_rfl) ElC.get .i64 .i64 size (by omega) (by simp [maxLen]; omega) (fun w1 ho q1 => ?_)
  refine run_i s_len_sl ?_
  obtain ⟨g, hg⟩ : ∃ g, g = w.heap.size := ⟨_, rfl⟩
  rw [← hg] at ho ⊢
  have hz0 : (madeCells (Value.int .u8 0).cells (size * 1)).toList = List.replicate size (.int .u8 0) := by
    rw [Nat.mul_one]
    exact made_one _ _
  rw [hz0] at ho
  obtain ⟨_, cap, rest, ev, hgb, _, _, hlen⟩ := ho.parts (by omega)
  cases ev
  have hrest : rest = [] := by
    rw [List.length_append, List.length_replicate] at hlen
    exact List.eq_nil_of_length_eq_zero (by omega)
  subst hrest
  rw [List.append_nil] at hgb
  refine Lp_inv (sum_Put_l3_mono K) (fun st w' => Qt w w' ∧ ∃ i : Nat, i ≤ size ∧ st = ([], int n, int size, .slice (some ⟨g, 0, none⟩) size size, int size, int i) ∧ w'.heap[g]? = some (.cells (List.replicate (size - i) (Value.int .u8 0) ++ bcells (putT i n)).toArray T.u8 (0, 0)))
    (fun st _ => match st.2.2.2.2.2 with | .int _ k => (size - k).toNat | _ => 0) ⟨q1, 0, by omega, rfl, ?_⟩ ?_
  · simpa [putT, bcells] using hgb
  rintro st w' ⟨q, i, hi, rfl, hgw⟩
  unfold sum_Put_l3
  have lg := lt_of hgw
  refine run_i (p_lss _) ?_
  refine cnd_dec (fun hc => ?_) (fun hc => ?_)
  · have hi' : i < size := by omega
    refine run_i (p_subI (by omega) (by omega) _) ?_
    refine run_i (p_subI (by omega) (by omega) _) ?_
    refine run_i (p_mulI (by omega) (by omega) _) ?_
    refine run_i (p_shr (by omega) _) ?_
    refine run_i s_conv ?_
    refine run_i (s_index (by omega) (by omega)) ?_
    refine runU_i (s_store hgw rfl (by simp <;> omega)) ?_
    refine run_i (p_addI (by omega) (by omega) _) ?_
    rw [shr_small h0 i (by omega)]
    have hlen2 : (List.replicate (size - i) (Value.int .u8 0) ++ bcells (putT i n)).length = size := by
      rw [List.length_append, List.length_replicate, bcells_len, putT_len]; omega
    have hp : (0 : Int) < 256 ^ i := Int.pow_pos (by decide)
    have hw8 : IntKind.u8.wrap (n / 256 ^ i) = n / 256 ^ i % 256 := by
      have h1 : 0 ≤ n / 256 ^ i := Int.ediv_nonneg h0 (by omega)
      unfold IntKind.wrap; simp [IntKind.bits, IntKind.signed]
    have hidx : ((size : Int) - 1 - i).toNat = size - 1 - i := by omega
    refine ⟨⟨q.put_new _ (by omega), i + 1, by omega, rfl, ?_⟩, ?_⟩
    · rw [hp_put_same lg]
      congr 2
      apply congrArg
      rw [hidx, hw8]
      have e1 : size - i = (size - (i + 1)) + 1 := by omega
      have e2 : 0 + (size - 1 - i) * 1 = size - (i + 1) := by omega
      rw [e2, e1, List.replicate_succ', List.append_assoc, List.set_append_right _ _ (by simp)]
      simp only [List.length_replicate, Nat.sub_self, List.cons_append, List.nil_append, List.set_cons_zero]
      congr 1
      simp only [bcells, putT, List.map_cons]
      congr 2
      have h1 : 0 ≤ n / 256 ^ i % 256 := Int.emod_nonneg _ (by decide)
      have h2 : n / 256 ^ i % 256 < 256 := Int.emod_lt_of_pos _ (by decide)
      rw [UInt8.toNat_ofNat']
      omega
    · first | omega | (simp only; omega)
  · have : i = size := by omega
    subst this
    unfold sum_Put_j2
    refine run_i (b2s_of (e := T.u8) (m := i) (ns := (putT i n).map fun b => (b.toNat : Int)) (by kernel_rfl) (by kernel_rfl) (by kernel_rfl) (by rw [List.length_map, putT_len]) hgw ?_) ?_
    · rw [Nat.sub_self]
      simp only [List.replicate_zero, List.nil_append]
      rw [List.take_of_length_le (by rw [bcells_len, putT_len]; omega)]
      simp [bcells, Function.comp]
    · skip
      have e : ((putT i n).map fun b => (b.toNat : Int)).map (fun n => UInt8.ofNat n.toNat) = putT i n := by
        rw [List.map_map]
        conv => rhs; rw [← List.map_id (putT i n)]
        apply List.map_congr_left
        intro b _
        simp
      rw [e]
      exact k _ q

theorem sum_Seal_c {s : Text} (hs : s.length ≤ 1000000) (hg : Glob w) (k : ∀ w', Qt w w' → K (str (s ++ markT s)) w') : call Pg F.sum_Seal [str s] K w := by
  refine sum_Seal_call ?_
  unfold sum_Seal
  refine sum_mark_c hs hg (fun w' q => ?_)
  have : (markT s).length = 4 := rfl
  refine run_i (p_cat (by first | omega | (simp only [List.length_append, List.length_take, List.length_drop, List.length_cons, List.length_nil, List.length_replicate, List.length_map, List.length_reverse] at *; omega)) _) ?_
  refine lv_i ?_
  exact k w' q
end Go.Sx
end

section
/- Areas of twins: pages are written, command by command. -/
set_option linter.unusedVariables false
set_option linter.unusedSimpArgs false
set_option maxRecDepth 100000
namespace Go.Sx
open Go Go.RowKit
variable {K : Value → World → Prop} {w : World}

/-- a device's commands -/
inductive DCmd where
  | w (i : Int) (t : Text)
  | s

def DCmd.run : DCmd → Dev → Dev × Int
  | .w i t, d => d.write i t
  | .s, d => d.sync

/-- commands, one by one, till one fails -/
def runs : List DCmd → Dev → Dev × Int
  | [], d => (d, 0)
  | c :: l, d => if (c.run d).2 ≠ 0 then c.run d else runs l (c.run d).1

theorem runs_stop {l1 l2 : List DCmd} : ∀ {d : Dev}, (runs l1 d).2 ≠ 0 → runs (l1 ++ l2) d = runs l1 d := by
  induction l1 with
  | nil => intro d h; exact absurd rfl h
  | cons c l ih =>
    intro d h
    simp only [List.cons_append, runs] at h ⊢
    split
    · rfl
    · rename_i h1
      rw [if_neg h1] at h
      exact ih h
theorem runs_go {l1 l2 : List DCmd} : ∀ {d : Dev}, (runs l1 d).2 = 0 → runs (l1 ++ l2) d = runs l2 (runs l1 d).1 := by
  induction l1 with
  | nil => intro d _; rfl
  | cons c l ih =>
    intro d h
    simp only [List.cons_append, runs] at h ⊢
    split
    · rename_i h1
      rw [if_pos h1] at h
      exact absurd h h1
    · rename_i h1
      rw [if_neg h1] at h
      exact ih h
theorem runs_one (c : DCmd) (d : Dev) : runs [c] d = c.run d := by
  simp only [runs]
  split
  · rfl
  · rename_i h
    have : (c.run d).2 = 0 := by simpa using h
    exact Prod.ext rfl this.symm

/-- so many commands may be done. -/
structure DOk (d : Dev) (n : Nat) : Prop where
  keep : d.keep.length ≤ 100000
  wait : d.wait.length + n ≤ 100000
theorem DOk.mono {d : Dev} {n m : Nat} (h : DOk d n) (hm : m ≤ n) : DOk d m := ⟨h.keep, by have := h.wait; omega⟩
theorem Dev.cmd_bd (d : Dev) : d.cmd.2.keep.length ≤ d.keep.length ∧ d.cmd.2.wait.length ≤ d.wait.length := by
  unfold Dev.cmd
  split
  · simp [Dev.fail]
  · simp
theorem DCmd.run_ok {c : DCmd} {d : Dev} {n : Nat} (h : DOk d (n + 1)) : DOk (c.run d).1 n := by
  have hc := d.cmd_bd
  have h1 := h.keep
  have h2 := h.wait
  cases c with
  | w i t =>
    simp only [DCmd.run, Dev.write]
    split
    · exact h.mono (by omega)
    · split
      · exact h.mono (by omega)
      · split
        · exact h.mono (by omega)
        · split
          · exact ⟨by simp only; omega, by simp only [List.length_append, List.length_cons, List.length_nil]; omega⟩
          · exact ⟨by simp only; omega, by simp only; omega⟩
  | s =>
    simp only [DCmd.run, Dev.sync]
    split
    · exact h.mono (by omega)
    · split
      · exact ⟨by simp only; omega, by simp only [List.length_nil]; omega⟩
      · exact ⟨by simp only; omega, by simp only; omega⟩
theorem runs_ok {l : List DCmd} : ∀ {d : Dev} {n : Nat}, DOk d (l.length + n) → DOk (runs l d).1 n := by
  induction l with
  | nil => intro d n h; simpa [runs] using h
  | cons c l ih =>
    intro d n h
    have h1 : DOk (c.run d).1 (l.length + n) := DCmd.run_ok (h.mono (by simp only [List.length_cons]; omega))
    simp only [runs]
    split
    · exact h1.mono (by omega)
    · exact ih h1

def putCmds (i : Int) (t : Text) : List DCmd := [.w i (t.take 256), .w (i + 1) (t.drop 256)]
def nameT (n : Int) : Text := [67, 84] ++ putT 2 n ++ markT ([67, 84] ++ putT 2 n)
def slotCmds (a : Area) (i : Int) (x : Int × Text) : List DCmd := .w (a.at_ + 3 * i) (nameT x.1) :: putCmds (a.at_ + 3 * i + 1) x.2
def slotsFrom (a : Area) : Int → List (Int × Text) → List DCmd
  | _, [] => []
  | i, x :: l => slotCmds a i x ++ slotsFrom a (i + 1) l
def pageCmds (a : Area) (l : List (Int × Text)) : List DCmd := l.flatMap fun x => putCmds (a.from_ + 2 * x.1) x.2
def roundCmds (a : Area) (l : List (Int × Text)) : List DCmd := slotsFrom a 0 l ++ ([.s] ++ (pageCmds a l ++ [.s]))
def writeCmds (a : Area) : Nat → List (Int × Text) → List DCmd
  | 0, _ => []
  | f + 1, l => if l = [] then [] else roundCmds a (l.take a.slots.toNat) ++ writeCmds a f (l.drop a.slots.toNat)

theorem slotsFrom_snoc (a : Area) (x : Int × Text) : ∀ (l : List (Int × Text)) (i : Int), slotsFrom a i (l ++ [x]) = slotsFrom a i l ++ slotCmds a (i + l.length) x
  | [], i => by simp [slotsFrom]
  | y :: l, i => by
    simp only [List.cons_append, slotsFrom]
    rw [slotsFrom_snoc a x l, List.append_assoc]
    simp only [List.length_cons]
    rw [show i + 1 + (l.length : Int) = i + ((l.length + 1 : Nat) : Int) by omega]
theorem slotsFrom_len (a : Area) : ∀ (l : List (Int × Text)) (i : Int), (slotsFrom a i l).length = 3 * l.length
  | [], i => rfl
  | y :: l, i => by simp only [slotsFrom, List.length_append, slotCmds, putCmds, List.length_cons, List.length_nil, slotsFrom_len a l]; omega
theorem pageCmds_snoc (a : Area) (x : Int × Text) (l : List (Int × Text)) : pageCmds a (l ++ [x]) = pageCmds a l ++ putCmds (a.from_ + 2 * x.1) x.2 := by simp [pageCmds]
theorem pageCmds_len (a : Area) (l : List (Int × Text)) : (pageCmds a l).length = 2 * l.length := by
  induction l with
  | nil => rfl
  | cons x l ih => simp only [pageCmds, List.flatMap_cons, List.length_append, putCmds, List.length_cons, List.length_nil] at ih ⊢; omega
theorem roundCmds_len (a : Area) (l : List (Int × Text)) : (roundCmds a l).length = 5 * l.length + 2 := by
  simp only [roundCmds, List.length_append, slotsFrom_len, pageCmds_len, List.length_cons, List.length_nil]; omega

/-- An area, its device, and what they cover. -/
def TwinI (w : World) (av dv : Value) (a : Area) (d : Dev) (E : Cov) : Prop :=
  ∃ ab Ed, av = .pointer (some ⟨ab, 0, none⟩) ∧ w.heap[ab]? = some (.cells [dv, int a.at_, int a.slots, int a.from_, int a.pages].toArray T.twin_Area (0, 0)) ∧ DevI w dv d Ed ∧ ¬ Ed ab ∧ E = fun k => k = ab ∨ Ed k

theorem TwinI.keep {w' : World} {av dv : Value} {a : Area} {d : Dev} {E : Cov} (h : TwinI w av dv a d E) (hk : ∀ k o, w.heap[k]? = some o → E k → w'.heap[k]? = some o) : TwinI w' av dv a d E := by
  obtain ⟨ab, Ed, rfl, hb, hd, hn, rfl⟩ := h
  exact ⟨ab, Ed, rfl, hk _ _ hb (.inl rfl), hd.keep (fun k o h1 h2 => hk k o h1 (.inr h2)), hn, rfl⟩
theorem TwinI.qt {w' : World} {av dv : Value} {a : Area} {d : Dev} {E : Cov} (h : TwinI w av dv a d E) (q : Qt w w') : TwinI w' av dv a d E := h.keep fun k o hk _ => q.all hk
theorem TwinI.live {av dv : Value} {a : Area} {d : Dev} {E : Cov} (h : TwinI w av dv a d E) {k : Nat} (hk : E k) : k < w.heap.size := by
  obtain ⟨ab, Ed, rfl, hb, hd, hn, rfl⟩ := h
  rcases hk with rfl | hk
  · exact lt_of hb
  · exact hd.live hk
theorem TwinI.area {av dv : Value} {a : Area} {d : Dev} {E : Cov} (h : TwinI w av dv a d E) : IsArea w av dv a := by
  obtain ⟨ab, Ed, rfl, hb, _⟩ := h; exact ⟨ab, rfl, hb⟩
/-- the device moves. -/
theorem TwinI.dev {av dv : Value} {a : Area} {d d' : Dev} {E : Cov} {w' : World} (h : TwinI w av dv a d E) (op : ∀ Ed, DevI w dv d Ed → ∃ Ed', DevI w' dv d' Ed' ∧ Mv w Ed w' Ed') : ∃ E', TwinI w' av dv a d' E' ∧ Mv w E w' E' := by
  obtain ⟨ab, Ed, rfl, hb, hd, hn, rfl⟩ := h
  obtain ⟨Ed', i', m⟩ := op Ed hd
  exact ⟨_, ⟨ab, Ed', rfl, m.keep hb hn, i', m.out (lt_of hb) hn, rfl⟩, m.right⟩

/-- what a part of the work does: commands -/
def Does (av dv : Value) (a : Area) (d : Dev) (cs : List DCmd) (w : World) (E : Cov) (K : Value → World → Prop) : Prop :=
  ∀ w' E', TwinI w' av dv a (runs cs d).1 E' → Mv w E w' E' → K (int (runs cs d).2) w'

theorem write1 {av dv : Value} {a : Area} {d : Dev} {E : Cov} {i : Int} {t : Text} (h : TwinI w av dv a d E) (ho : DOk d 1) (ht : t.length ≤ 100000) (k : Does av dv a d [.w i t] w E K) : call Pg F.device_Device_Write [dv, int i, str t] K w := by
  have h' := h
  obtain ⟨ab, Ed, rfl, hb, hd, hn, rfl⟩ := h'
  have hr := runs_one (.w i t) d
  unfold Does at k
  rw [hr] at k
  exact device_Write_c hd ho.keep (by have := ho.wait; omega) ht (fun w' Ed' hd' m => k w' _ ⟨ab, Ed', rfl, m.keep hb hn, hd', m.out (lt_of hb) hn, rfl⟩ m.right)

theorem sync1 {av dv : Value} {a : Area} {d : Dev} {E : Cov} (h : TwinI w av dv a d E) (ho : DOk d 1) (k : Does av dv a d [.s] w E K) : call Pg F.device_Device_Sync [dv] K w := by
  have h' := h
  obtain ⟨ab, Ed, rfl, hb, hd, hn, rfl⟩ := h'
  have hr := runs_one .s d
  unfold Does at k
  rw [hr] at k
  exact device_Sync_c hd ho.keep (fun w' Ed' hd' m => k w' _ ⟨ab, Ed', rfl, m.keep hb hn, hd', m.out (lt_of hb) hn, rfl⟩ m.right)

/-- one part behind another -/
theorem Does.split {av dv : Value} {a : Area} {d : Dev} {c1 c2 : List DCmd} {E : Cov} (k : Does av dv a d (c1 ++ c2) w E K) {w' : World} {E' : Cov} (m : Mv w E w' E') :
    ((runs c1 d).2 ≠ 0 → TwinI w' av dv a (runs c1 d).1 E' → K (int (runs c1 d).2) w') ∧ ((runs c1 d).2 = 0 → Does av dv a (runs c1 d).1 c2 w' E' K) := by
  refine ⟨fun h hT => ?_, fun h w2 E2 hT m2 => ?_⟩
  · have := k w' E'
    rw [runs_stop h] at this
    exact this hT m
  · have := k w2 E2
    rw [runs_go h] at this
    exact this hT (m.trans m2)
theorem Does.from {av dv : Value} {a : Area} {d : Dev} {c : List DCmd} {E E' : Cov} {w' : World} (k : Does av dv a d c w E K) (m : Mv w E w' E') : Does av dv a d c w' E' K := fun w2 E2 hT m2 => k w2 E2 hT (m.trans m2)

theorem put_c {av dv : Value} {a : Area} {d : Dev} {E : Cov} {i : Int} {t : Text} (h : TwinI w av dv a d E) (ho : DOk d 2) (ht : t.length = 512) (hi0 : -1000000 ≤ i) (hi1 : i ≤ 1000000) (k : Does av dv a d (putCmds i t) w E K) : call Pg F.twin_Area_put [av, int i, str t] K w := by
  have h' := h
  obtain ⟨ab, Ed, rfl, hb, hd, hn, rfl⟩ := h'
  refine twin_Area_put_call ?_
  unfold twin_Area_put
  refine rnT_i (fun _ => (p_nil _)) ?_
  refine rnT_i (fun _ => s_field) ?_
  refine rnR_i (s_load (cellAt_l (drew_at hb) rfl)) ?_
  refine rnT_i (fun _ => (s_str_h (by first | omega | (simp only [List.length_append, List.length_take, List.length_drop, List.length_cons, List.length_nil, List.length_replicate, List.length_map, List.length_reverse] at *; omega)) (by first | omega | (simp only [List.length_append, List.length_take, List.length_drop, List.length_cons, List.length_nil, List.length_replicate, List.length_map, List.length_reverse] at *; omega)))) ?_
  have e256 : (256 : Int).toNat = 256 := rfl
  simp only [e256]
  have qd : Qt w w.drew := (Frm.refl w).drew
  have k1 : Does (.pointer (some ⟨ab, 0, none⟩)) dv a d ([.w i (t.take 256)] ++ [.w (i + 1) (t.drop 256)]) w.drew (fun k => k = ab ∨ Ed k) K := k.from (.of_qt qd)
  refine write1 (h.qt qd) (ho.mono (by omega)) (by rw [List.length_take]; omega) (fun w1 E1 h1 m1 => ?_)
  obtain ⟨k2, k3⟩ := k1.split m1
  have ho1 : DOk (runs [.w i (t.take 256)] d).1 1 := runs_ok (n := 1) (ho.mono (by simp))
  obtain ⟨r, hr⟩ : ∃ r, r = runs [.w i (t.take 256)] d := ⟨_, rfl⟩
  rw [← hr] at h1 k2 k3 ho1 ⊢
  refine ⟨trivial, ?_⟩
  have h1' := h1
  obtain ⟨ab1, Ed1, e1, hb1, hd1, hn1, rfl⟩ := h1'
  cases e1
  by_cases hr0 : r.2 = 0
  · rw [hr0]
    refine run_i (p_neqF (by omega) _) ?_
    refine cn_fi ?_
    refine rnT_i (fun _ => (p_nil _)) ?_
    refine rnT_i (fun _ => s_field) ?_
    refine rnR_i (s_load (cellAt_l (drew_at hb1) rfl)) ?_
    refine rnT_i (fun _ => (p_addI (by omega) (by omega) _)) ?_
    refine rnT_i (fun _ => (s_str_l (by first | omega | (simp only [List.length_append, List.length_take, List.length_drop, List.length_cons, List.length_nil, List.length_replicate, List.length_map, List.length_reverse] at *; omega)) (by first | omega | (simp only [List.length_append, List.length_take, List.length_drop, List.length_cons, List.length_nil, List.length_replicate, List.length_map, List.length_reverse] at *; omega)))) ?_
    simp only [e256]
    have qd1 : Qt w1 w1.drew := (Frm.refl w1).drew
    have k4 := (k3 hr0).from (.of_qt qd1)
    refine write1 (h1.qt qd1) ho1 (by rw [List.length_drop]; simp; omega) (fun w2 E2 h2 m2 => ?_)
    refine ⟨trivial, ?_⟩
    refine lv_i ?_
    exact k4 w2 E2 h2 m2
  · refine run_i (p_neqT (by omega) _) ?_
    refine cn_ti ?_
    refine lv_i ?_
    exact k2 hr0 h1

theorem name_c {n : Int} (h0 : 0 ≤ n) (h1 : n < 65536) (hg : Glob w) (k : ∀ w', Qt w w' → K (str (nameT n)) w') : call Pg F.twin_name [int n] K w := by
  refine twin_name_call ?_
  unfold twin_name
  have e2 : (256 : Int) ^ 2 = 65536 := by decide
  refine sum_Put_c (size := 2) (by omega) (by omega) h0 (by omega) (fun w1 q1 => ?_)
  have e : Value.string ⟨#[67, 84]⟩ = str [67, 84] := rfl
  rw [e]
  have hpl := putT_len 2 n
  refine run_i (p_cat (by rw [hpl]; simp) _) ?_
  refine sum_Seal_c (by rw [List.length_append, hpl]; simp) (hg.qt q1) (fun w2 q2 => ?_)
  refine lv_i ?_
  exact k w2 (q1.trans q2)

theorem imgs_rd {lv : Value} {l : List (Int × Text)} {i : Nat} (hi : i < l.length) (h : Rd w T.twin_Image 2 lv l.length (wcells l)) {Kp : Value → World → Prop} (k : Kp (.agg [int (l[i]).1, str (l[i]).2].toArray) w) {j : Int} (hj : j = (i : Int)) :
    run Pg (Instr.indexAt T.s_twin_Image lv (int j)) (fun p w => run Pg (Instr.loadAt T.twin_Image p) Kp w) w :=
  h.loadA (us := [int (l[i]).1, str (l[i]).2]) (by decide) hi (wrd hi) SliceC.get AggC.get hj k

set_option maxHeartbeats 1000000 in
theorem round_c {av dv lv : Value} {a : Area} {d : Dev} {E : Cov} {l : List (Int × Text)} {size : Int} (h : TwinI w av dv a d E) (ho : DOk d (5 * l.length + 2)) (hg : Glob w) (hz : ¬ E 0) (ha : a.Ok size) (hs : size ≤ 4096)
    (hr : Rd w T.twin_Image 2 lv l.length (wcells l)) (hlv : ∀ g o n cap, lv = .slice (some ⟨g, o, none⟩) n cap → ¬ E g) (hll : (l.length : Int) ≤ a.slots) (hp : ∀ x ∈ l, 0 ≤ x.1 ∧ x.1 < a.pages ∧ x.2.length = 512)
    (k : Does av dv a d (roundCmds a l) w E K) : call Pg F.twin_Area_round [av, lv] K w := by
  obtain ⟨a1, a2, a3, a4, a5, a6, a7, a8, a9⟩ := ha
  obtain ⟨sa, sc, rfl⟩ := hr.shape
  refine twin_Area_round_call ?_
  unfold twin_Area_round
  refine run_i s_len_sl ?_
  refine Lp_inv (twin_Area_round_l4_mono K) (fun st w' => ∃ (i : Nat) (E' : Cov), i ≤ l.length ∧ st = ([], av, .slice sa l.length sc, .slice sa l.length sc, int l.length, int i) ∧
      TwinI w' av dv a (runs (slotsFrom a 0 (l.take i)) d).1 E' ∧ (runs (slotsFrom a 0 (l.take i)) d).2 = 0 ∧ Mv w E w' E')
    (fun st _ => match st.2.2.2.2.2 with | .int _ k => (l.length - k).toNat | _ => 0) ⟨0, E, by omega, rfl, h, rfl, .refl⟩ ?_
  rintro st w1 ⟨i, E1, hi, rfl, h1, hr1, m1⟩
  unfold twin_Area_round_l4
  have hrd1 := hr.mv m1 hlv
  have hg1 := hg.mv m1 hz
  have hlv1 : ∀ g o n cap, 0 < l.length → Value.slice sa l.length sc = .slice (some ⟨g, o, none⟩) n cap → ¬ E1 g := by
    intro g o n cap h0 hv
    obtain ⟨_, a, c, e1, _, hx⟩ := hr
    obtain ⟨g', o', l', fz, e2, hb, _⟩ := hx h0
    rw [hv] at e1
    cases e1; cases e2
    exact m1.out (lt_of hb) (hlv _ _ _ _ hv)
  have hal := h1.area
  obtain ⟨ab, eab, hab⟩ := hal
  subst eab
  have hdi : DOk (runs (slotsFrom a 0 (l.take i)) d).1 (2 * l.length + 2 + 3 * (l.length - i)) := runs_ok (n := 2 * l.length + 2 + 3 * (l.length - i)) (ho.mono (by rw [slotsFrom_len, List.length_take]; omega))
  obtain ⟨di, hdi0⟩ : ∃ di, di = (runs (slotsFrom a 0 (l.take i)) d).1 := ⟨_, rfl⟩
  rw [← hdi0] at h1 hdi
  refine run_i (p_lss _) ?_
  refine cnd_dec (fun hc => ?_) (fun hc => ?_)
  · have hil : i < l.length := by omega
    have hx := hp _ (List.getElem_mem hil)
    have esn : slotsFrom a 0 (l.take (i + 1)) = slotsFrom a 0 (l.take i) ++ slotCmds a i l[i] := by
      rw [take_snoc' hil, slotsFrom_snoc]
      have : (l.take i).length = i := by rw [List.length_take]; omega
      rw [this]; simp
    have efull : roundCmds a l = slotsFrom a 0 (l.take (i + 1)) ++ (slotsFrom a (i + 1) (l.drop (i + 1)) ++ ([.s] ++ (pageCmds a l ++ [.s]))) := by
      unfold roundCmds
      rw [← List.append_assoc (slotsFrom a 0 (l.take (i + 1)))]
      congr 1
      have key : ∀ (l1 l2 : List (Int × Text)) (j : Int), slotsFrom a j (l1 ++ l2) = slotsFrom a j l1 ++ slotsFrom a (j + l1.length) l2 := by
        intro l1
        induction l1 with
        | nil => intro l2 j; simp [slotsFrom]
        | cons x l1 ih =>
          intro l2 j
          simp only [List.cons_append, slotsFrom, ih, List.append_assoc, List.length_cons]
          rw [show j + 1 + (l1.length : Int) = j + ((l1.length + 1 : Nat) : Int) by omega]
      have := key (l.take (i + 1)) (l.drop (i + 1)) 0
      rw [List.take_append_drop] at this
      rw [this]
      have e : (l.take (i + 1)).length = i + 1 := by rw [List.length_take]; omega
      rw [e]; simp
    -- the work of this image
    have kx : Does (.pointer (some ⟨ab, 0, none⟩)) dv a di (slotCmds a i l[i]) w1 E1 (fun v w' => ∃ e, v = int e ∧ ∃ E', TwinI w' (.pointer (some ⟨ab, 0, none⟩)) dv a (runs (slotsFrom a 0 (l.take (i + 1))) d).1 E' ∧ Mv w E w' E' ∧ e = (runs (slotsFrom a 0 (l.take (i + 1))) d).2) := by
      intro w' E' hT m
      rw [hdi0] at hT ⊢
      have := runs_go (l2 := slotCmds a i l[i]) hr1
      rw [← esn] at this
      rw [← this] at hT ⊢
      exact ⟨_, rfl, E', hT, m1.trans m, rfl⟩
    refine imgs_rd hil hrd1 ?_ rfl
    refine run_i s_alloc ?_
    refine runU_i (s_storeW hp_alloc_new rfl (by simp [Value.oneCell', str]) rfl) ?_
    refine run_i (p_nil _) ?_
    refine run_i s_field ?_
    refine run_i (s_load (cellAt_l (put_other2 (old hab) (by intro hz; have hz2 := lt_of hab; first | omega | (simp only [sz_alloc, sz_put, sz_drew] at hz ⊢; omega) | (first | omega | (simp only [sz_alloc, sz_put, sz_drew] at *; omega)))) rfl)) ?_
    refine run_i (p_mulI (by omega) (by omega) _) ?_
    refine run_i (p_addI (by omega) (by omega) _) ?_
    refine ⟨fun w' => w'.heap[ab]? = some (.cells [dv, int a.at_, int a.slots, int a.from_, int a.pages].toArray T.twin_Area (0, 0)), by (exact (drew_at (put_other2 (old hab) (by intro hz; have hz2 := lt_of hab; first | omega | (simp only [sz_alloc, sz_put, sz_drew] at hz ⊢; omega) | (first | omega | (simp only [sz_alloc, sz_put, sz_drew] at *; omega)))))), ?_⟩
    refine rnT_i (fun _ => (p_nil _)) ?_
    refine rnT_i (fun _ => s_field) ?_
    refine rn_i (fun w' hS => s_load (cellAt_l hS rfl)) ?_
    refine rnT_i (fun _ => s_field) ?_
    refine rnR_i (s_load (cellAt_l (drew_at (hp_put_same (lt_of hp_alloc_new))) rfl)) ?_
    obtain ⟨xb, hxb⟩ : ∃ xb, xb = w1.heap.size := ⟨_, rfl⟩
    have qb : Qt w1 ((w1.alloc (.cells [int 0, str []].toArray T.twin_Image)).putObj w1.heap.size (.cells [int (l[i]).1, str (l[i]).2].toArray T.twin_Image (0, 0))).drew := by (refine ((((Frm.refl _).alloc _).put_new _ (by first | omega | (simp only [sz_alloc, sz_put, sz_drew]; omega) | (first | omega | (simp only [sz_alloc, sz_put, sz_drew] at *; omega)))).drew))
    have hxc : ((w1.alloc (.cells [int 0, str []].toArray T.twin_Image)).putObj w1.heap.size (.cells [int (l[i]).1, str (l[i]).2].toArray T.twin_Image (0, 0))).drew.heap[xb]? = some (.cells [int (l[i]).1, str (l[i]).2].toArray T.twin_Image (0, 0)) := by rw [hxb]; (exact (drew_at (hp_put_same (lt_of hp_alloc_new))))
    rw [← hxb] at qb hxc ⊢
    obtain ⟨w2, hw2⟩ : ∃ w2, w2 = ((w1.alloc (.cells [int 0, str []].toArray T.twin_Image)).putObj xb (.cells [int (l[i]).1, str (l[i]).2].toArray T.twin_Image (0, 0))).drew := ⟨_, rfl⟩
    rw [← hw2] at qb hxc
    have hw2' := hw2
    clear hw2
    refine name_c hx.1 (by omega) ?_ (fun w3 q3 => ?_)
    · rw [← hw2']; exact hg1.qt qb
    rw [← hw2'] at q3
    have q13 := qb.trans q3
    have hxc3 := q3.all hxc
    refine ⟨q13.all hab, ?_⟩
    have kx3 := kx.from (.of_qt q13)
    have kx4 : Does (.pointer (some ⟨ab, 0, none⟩)) dv a di ([.w (a.at_ + 3 * i) (nameT (l[i]).1)] ++ putCmds (a.at_ + 3 * i + 1) (l[i]).2) w3 E1 _ := kx3
    have hxE : ¬ E1 xb := fun hE => by have := h1.live hE; omega
    have hname : (nameT (l[i]).1).length = 8 := by unfold nameT; rw [List.length_append, List.length_append, putT_len]; rfl
    refine write1 (h1.qt q13) (hdi.mono (by omega)) (by omega) (fun w4 E4 h4 m4 => ?_)
    obtain ⟨k5, k6⟩ := kx4.split m4
    have hxc4 := m4.keep hxc3 hxE
    have ho4 : DOk (runs [.w (a.at_ + 3 * i) (nameT (l[i]).1)] di).1 2 := runs_ok (n := 2) (hdi.mono (by simp only [List.length_cons, List.length_nil]; omega))
    obtain ⟨r, hr⟩ : ∃ r, r = runs [.w (a.at_ + 3 * i) (nameT (l[i]).1)] di := ⟨_, rfl⟩
    rw [← hr] at h4 k5 k6 ho4 ⊢
    have fail : ∀ (e : Int) (w' : World), (∃ e', int e = int e' ∧ ∃ E', TwinI w' (.pointer (some ⟨ab, 0, none⟩)) dv a (runs (slotsFrom a 0 (l.take (i + 1))) d).1 E' ∧ Mv w E w' E' ∧ e' = (runs (slotsFrom a 0 (l.take (i + 1))) d).2) → e ≠ 0 → K (int e) w' := by
      rintro e w' ⟨e', e1, E', hT, m, he⟩ h0
      cases e1
      have := k w' E'
      rw [efull, runs_stop (by rw [← he]; exact h0), ← he] at this
      exact this hT m
    by_cases hr0 : r.2 = 0
    · rw [hr0]
      refine run_i (p_neqF (by omega) _) ?_
      refine cn_fi ?_
      refine run_i (p_addI (by omega) (by omega) _) ?_
      refine run_i s_field ?_
      refine run_i (s_load (cellAt_l hxc4 rfl)) ?_
      refine put_c h4 ho4 hx.2.2 (by omega) (by omega) (fun w5 E5 h5 m5 => ?_)
      have hk := k6 hr0 w5 E5 h5 m5
      obtain ⟨r5, hr5⟩ : ∃ r5, r5 = runs (putCmds (a.at_ + 3 * i + 1) (l[i]).2) r.1 := ⟨_, rfl⟩
      rw [← hr5] at hk h5 ⊢
      by_cases hr50 : r5.2 = 0
      · obtain ⟨e', e1, E', hT, m, he⟩ := hk
        rw [hr50] at e1
        cases e1
        rw [hr50]
        refine run_i (p_neqF (by omega) _) ?_
        refine cn_fi ?_
        refine run_i (p_addI (by omega) (by omega) _) ?_
        refine ⟨⟨i + 1, E', by omega, rfl, hT, he.symm, m⟩, ?_⟩
        first | omega | (simp only; omega)
      · refine run_i (p_neqT (by omega) _) ?_
        refine cn_ti ?_
        exact fail _ _ hk hr50
    · refine run_i (p_neqT (by omega) _) ?_
      refine cn_ti ?_
      exact fail _ _ (k5 hr0 h4) hr0
  · have hil : i = l.length := by omega
    subst hil
    rw [List.take_length] at hr1 hdi0
    have k1 : Does (.pointer (some ⟨ab, 0, none⟩)) dv a di ([.s] ++ (pageCmds a l ++ [.s])) w1 E1 K := by
      have k0 : Does (.pointer (some ⟨ab, 0, none⟩)) dv a d (slotsFrom a 0 l ++ ([.s] ++ (pageCmds a l ++ [.s]))) w E K := k
      have := (k0.split m1).2 hr1
      rw [← hdi0] at this
      exact this
    have hdi1 : DOk di (2 * l.length + 2) := hdi.mono (by omega)
    unfold twin_Area_round_j1
    refine run_i (p_nil _) ?_
    refine run_i s_field ?_
    refine run_i (s_load (cellAt_l hab rfl)) ?_
    refine sync1 h1 (hdi1.mono (by omega)) (fun w2 E2 h2 m2 => ?_)
    obtain ⟨k2, k3⟩ := k1.split m2
    have ho2 : DOk (runs [.s] di).1 (2 * l.length + 1) := runs_ok (n := 2 * l.length + 1) (hdi1.mono (by simp only [List.length_cons, List.length_nil]; omega))
    obtain ⟨r, hr⟩ : ∃ r, r = runs [.s] di := ⟨_, rfl⟩
    rw [← hr] at h2 k2 k3 ho2 ⊢
    by_cases hr0 : r.2 = 0
    · rw [hr0]
      refine run_i (p_neqF (by omega) _) ?_
      refine cn_fi ?_
      refine run_i s_len_sl ?_
      have k4 := k3 hr0
      have hrd2 : 0 < l.length → Rd w2 T.twin_Image 2 (.slice sa l.length sc) l.length (wcells l) := fun h0 => hrd1.mv m2 (fun g o n cap hv => hlv1 g o n cap h0 hv)
      have hrow : ∀ g o n cap, 0 < l.length → Value.slice sa l.length sc = .slice (some ⟨g, o, none⟩) n cap → ¬ E2 g := by
        intro g o n cap h0 hv
        obtain ⟨_, a, c, e1, _, hx⟩ := hrd1
        obtain ⟨g', o', l', fz, e2, hb, _⟩ := hx h0
        rw [hv] at e1
        cases e1; cases e2
        exact m2.out (lt_of hb) (hlv1 _ _ _ _ h0 hv)
      obtain ⟨d2, hd2⟩ : ∃ d2, d2 = r.1 := ⟨_, rfl⟩
      rw [← hd2] at h2 k4 ho2
      refine Lp_inv (twin_Area_round_l3_mono K) (fun st w' => ∃ (i : Nat) (E' : Cov), i ≤ l.length ∧ st = ([], .pointer (some ⟨ab, 0, none⟩), .slice sa l.length sc, int l.length, int i) ∧
          TwinI w' (.pointer (some ⟨ab, 0, none⟩)) dv a (runs (pageCmds a (l.take i)) d2).1 E' ∧ (runs (pageCmds a (l.take i)) d2).2 = 0 ∧ Mv w2 E2 w' E')
        (fun st _ => match st.2.2.2.2 with | .int _ k => (l.length - k).toNat | _ => 0) ⟨0, E2, by omega, rfl, h2, rfl, .refl⟩ ?_
      rintro st w3 ⟨i, E3, hi, rfl, h3, hr3, m3⟩
      unfold twin_Area_round_l3
      have hal3 := h3.area
      obtain ⟨ab3, eab3, hab3⟩ := hal3
      cases eab3
      have hd3 : DOk (runs (pageCmds a (l.take i)) d2).1 (1 + 2 * (l.length - i)) := runs_ok (n := 1 + 2 * (l.length - i)) (ho2.mono (by rw [pageCmds_len, List.length_take]; omega))
      obtain ⟨di3, hdi3⟩ : ∃ di, di = (runs (pageCmds a (l.take i)) d2).1 := ⟨_, rfl⟩
      rw [← hdi3] at h3 hd3
      refine run_i (p_lss _) ?_
      refine cnd_dec (fun hc => ?_) (fun hc => ?_)
      · have hil : i < l.length := by omega
        have hx := hp _ (List.getElem_mem hil)
        have esn : pageCmds a (l.take (i + 1)) = pageCmds a (l.take i) ++ putCmds (a.from_ + 2 * (l[i]).1) (l[i]).2 := by rw [take_snoc' hil, pageCmds_snoc]
        have efull : pageCmds a l ++ [.s] = pageCmds a (l.take (i + 1)) ++ (pageCmds a (l.drop (i + 1)) ++ [.s]) := by
          rw [← List.append_assoc]
          congr 1
          unfold pageCmds
          rw [← List.flatMap_append, List.take_append_drop]
        refine imgs_rd hil ((hrd2 (by omega)).mv m3 (fun g o n cap hv => hrow g o n cap (by omega) hv)) ?_ rfl
        refine run_i s_alloc ?_
        refine runU_i (s_storeW hp_alloc_new rfl (by simp [Value.oneCell', str]) rfl) ?_
        refine rnT_i (fun _ => (p_nil _)) ?_
        refine rnT_i (fun _ => s_field) ?_
        refine rnR_i (s_load (cellAt_l (drew_at (put_other2 (old hab3) (by intro hz; have hz2 := lt_of hab3; first | omega | (simp only [sz_alloc, sz_put, sz_drew] at hz ⊢; omega) | (first | omega | (simp only [sz_alloc, sz_put, sz_drew] at *; omega))))) rfl)) ?_
        refine rnT_i (fun _ => s_field) ?_
        refine rnR_i (s_load (cellAt_l (drew_at (hp_put_same (lt_of hp_alloc_new))) rfl)) ?_
        refine rnT_i (fun _ => (p_mulI (by omega) (by omega) _)) ?_
        refine rnT_i (fun _ => (p_addI (by omega) (by omega) _)) ?_
        refine rnT_i (fun _ => s_field) ?_
        refine rnR_i (s_load (cellAt_l (drew_at (hp_put_same (lt_of hp_alloc_new))) rfl)) ?_
        have qb : Qt w3 ((w3.alloc (.cells [int 0, str []].toArray T.twin_Image)).putObj w3.heap.size (.cells [int (l[i]).1, str (l[i]).2].toArray T.twin_Image (0, 0))).drew := by (refine ((((Frm.refl _).alloc _).put_new _ (by first | omega | (simp only [sz_alloc, sz_put, sz_drew]; omega) | (first | omega | (simp only [sz_alloc, sz_put, sz_drew] at *; omega)))).drew))
        refine put_c (h3.qt qb) (hd3.mono (by omega)) hx.2.2 (by omega) (by omega) (fun w5 E5 h5 m5 => ?_)
        refine ⟨trivial, ?_⟩
        have hgo := runs_go (l2 := putCmds (a.from_ + 2 * (l[i]).1) (l[i]).2) hr3
        rw [← esn, ← hdi3] at hgo
        rw [← hgo] at h5 ⊢
        have m35 : Mv w2 E2 w5 E5 := m3.trans ((Mv.of_qt qb).trans m5)
        by_cases hr50 : (runs (pageCmds a (l.take (i + 1))) d2).2 = 0
        · rw [hr50]
          refine run_i (p_neqF (by omega) _) ?_
          refine cn_fi ?_
          refine run_i (p_addI (by omega) (by omega) _) ?_
          refine ⟨⟨i + 1, E5, by omega, rfl, h5, hr50, m35⟩, ?_⟩
          first | omega | (simp only; omega)
        · refine run_i (p_neqT (by omega) _) ?_
          refine cn_ti ?_
          have := k4 w5 E5
          rw [efull, runs_stop hr50] at this
          exact this h5 m35
      · have hil : i = l.length := by omega
        subst hil
        rw [List.take_length] at hr3 hdi3
        unfold twin_Area_round_j2
        refine run_i (p_nil _) ?_
        refine run_i s_field ?_
        refine run_i (s_load (cellAt_l hab3 rfl)) ?_
        have k5 := (k4.split m3).2 hr3
        rw [← hdi3] at k5
        refine sync1 h3 (hd3.mono (by omega)) (fun w4 E4 h4 m4 => ?_)
        skip
        exact k5 w4 E4 h4 m4
    · refine run_i (p_neqT (by omega) _) ?_
      refine cn_ti ?_
      exact k2 hr0 h2
end Go.Sx
end

section
/- Areas of twins: Write, Read; an area below a pool. -/
set_option linter.unusedVariables false
set_option linter.unusedSimpArgs false
set_option maxRecDepth 100000
namespace Go.Sx
open Go Go.RowKit
variable {K : Value → World → Prop} {w : World}

theorem Glob.lt (h : Glob w) : 0 < w.heap.size := by
  obtain ⟨fz, h⟩ := h; exact lt_of h

theorem sliced_some {g o l u m s : Nat} : ∃ o' c, sliced (some ⟨g, o, none⟩) l u m s = .slice (some ⟨g, o', none⟩) (u - l) c := by
  by_cases h : m = l
  · subst h
    exact ⟨o, 0, sliced_end⟩
  · refine ⟨o + l * s, m - l, ?_⟩
    simp [sliced, h, add_mk]

theorem writeCmds_len (a : Area) (ha : 1 ≤ a.slots) : ∀ (f : Nat) (l : List (Int × Text)), (writeCmds a f l).length ≤ 7 * l.length := by
  intro f
  induction f with
  | zero => intro l; simp [writeCmds]
  | succ f ih =>
    intro l
    unfold writeCmds
    split
    · simp
    · rename_i h
      have h0 : 0 < l.length := List.length_pos_iff.2 h
      rw [List.length_append, roundCmds_len]
      have := ih (l.drop a.slots.toNat)
      rw [List.length_drop] at this
      rw [List.length_take]
      omega

theorem wcells_take (l : List (Int × Text)) (i : Nat) : wcells (l.take i) = (wcells l).take (i * 2) := by
  induction l generalizing i with
  | nil => simp [wcells]
  | cons x l ih =>
    cases i with
    | zero => simp [wcells]
    | succ i =>
      have := ih i
      simp only [wcells, List.take_succ_cons, List.flatMap_cons] at this ⊢
      rw [this, show (i + 1) * 2 = i * 2 + 2 by omega]
      simp
theorem wcells_drop (l : List (Int × Text)) (i : Nat) : wcells (l.drop i) = (wcells l).drop (i * 2) := by
  induction l generalizing i with
  | nil => simp [wcells]
  | cons x l ih =>
    cases i with
    | zero => simp [wcells]
    | succ i =>
      have := ih i
      simp only [wcells, List.drop_succ_cons, List.flatMap_cons] at this ⊢
      rw [this, show (i + 1) * 2 = i * 2 + 2 by omega]
      simp

set_option maxHeartbeats 1000000 in
theorem twin_Write_c {av dv lv : Value} {a : Area} {d : Dev} {E : Cov} {l : List (Int × Text)} {size : Int} (h : TwinI w av dv a d E) (ho : DOk d (7 * l.length)) (hg : Glob w) (hz : ¬ E 0) (ha : a.Ok size) (hs : size ≤ 4096)
    (hr : Rd w T.twin_Image 2 lv l.length (wcells l)) (hlv : ∀ g o n cap, lv = .slice (some ⟨g, o, none⟩) n cap → ¬ E g) (hp : ∀ x ∈ l, 0 ≤ x.1 ∧ x.1 < a.pages ∧ WholeT x.2)
    (k : Does av dv a d (writeCmds a l.length l) w E K) : call Pg F.twin_Area_Write [av, lv] K w := by
  have haa := ha
  obtain ⟨a1, a2, a3, a4, a5, a6, a7, a8, a9⟩ := ha
  obtain ⟨sa, sc, rfl⟩ := hr.shape
  have har := h.area
  obtain ⟨ab, rfl, hab⟩ := har
  have hlen : l.length ≤ 100000 := by have := ho.wait; omega
  refine twin_Area_Write_call ?_
  unfold twin_Area_Write
  refine run_i s_ptr_eql ?_
  refine cn_fi ?_
  refine run_i s_len_sl ?_
  refine Lp_inv (twin_Area_Write_l4_mono K) (fun st w' => Qt w w' ∧ ∃ i : Nat, i ≤ l.length ∧ st = ([], .pointer (some ⟨ab, 0, none⟩), .slice sa l.length sc, .slice sa l.length sc, int l.length, int i))
    (fun st _ => match st.2.2.2.2.2 with | .int _ k => (l.length - k).toNat | _ => 0) ⟨.refl w, 0, by omega, rfl⟩ ?_
  rintro st w1 ⟨q1, i, hi, rfl⟩
  unfold twin_Area_Write_l4
  refine run_i (p_lss _) ?_
  refine cnd_dec (fun hc => ?_) (fun hc => ?_)
  · have hil : i < l.length := by omega
    have hx := hp _ (List.getElem_mem hil)
    refine imgs_rd hil (hr.qt q1) ?_ rfl
    refine run_i s_alloc ?_
    refine runU_i (s_storeW hp_alloc_new rfl (by simp [Value.oneCell', str]) rfl) ?_
    refine run_i s_field ?_
    refine run_i (s_load (cellAt_l (hp_put_same (lt_of hp_alloc_new)) rfl)) ?_
    have qb : Qt w1 ((w1.alloc (.cells [int 0, str []].toArray T.twin_Image)).putObj w1.heap.size (.cells [int (l[i]).1, str (l[i]).2].toArray T.twin_Image (0, 0))) := by (refine (((Frm.refl _).alloc _).put_new _ (by first | omega | (simp only [sz_alloc, sz_put, sz_drew]; omega) | (have := q1.size; first | omega | (simp only [sz_alloc, sz_put, sz_drew] at *; omega)))))
    have hxc : ((w1.alloc (.cells [int 0, str []].toArray T.twin_Image)).putObj w1.heap.size (.cells [int (l[i]).1, str (l[i]).2].toArray T.twin_Image (0, 0))).heap[w1.heap.size]? = some (.cells [int (l[i]).1, str (l[i]).2].toArray T.twin_Image (0, 0)) := by (exact (hp_put_same (lt_of hp_alloc_new)))
    refine twin_there_c ((h.qt (q1.trans qb)).area) ?_
    have e1 : decide (0 ≤ (l[i]).1 ∧ (l[i]).1 < a.pages) = true := decide_eq_true ⟨hx.1, hx.2.1⟩
    rw [e1]
    refine run_i (p_not _) ?_
    refine gc_ffi ?_
    refine run_i s_field ?_
    refine run_i (s_load (cellAt_l (hp_put_same (lt_of hp_alloc_new)) rfl)) ?_
    refine page_Whole_c (by have := hx.2.2.1; omega) (hg.qt (q1.trans qb)) (fun w2 q2 => ?_)
    have e2 : decide (WholeT (l[i]).2) = true := decide_eq_true hx.2.2
    rw [e2]
    refine run_i (p_not _) ?_
    unfold twin_Area_Write_g5
    refine pk_fi ?_
    refine cn_fi ?_
    refine run_i (p_addI (by omega) (by omega) _) ?_
    refine ⟨⟨(q1.trans qb).trans q2, i + 1, by omega, rfl⟩, ?_⟩
    first | omega | (simp only; omega)
  · have k1 := k.from (.of_qt q1)
    have hr1 := hr.qt q1
    have h1 := h.qt q1
    have hg1 := hg.qt q1
    unfold twin_Area_Write_j1
    clear hr hg h k
    refine Lp_inv (twin_Area_Write_l3_mono K) (fun st w' => ∃ (j : List (Int × Text)) (f n c : Nat) (a' : Option Addr) (d' : Dev) (E' : Cov), st = ([], .pointer (some ⟨ab, 0, none⟩), .slice a' n c) ∧ n = j.length ∧ j.length ≤ f ∧ TwinI w' (.pointer (some ⟨ab, 0, none⟩)) dv a d' E' ∧ Glob w' ∧ ¬ E' 0 ∧ DOk d' (7 * j.length) ∧
        Rd w' T.twin_Image 2 (.slice a' n c) j.length (wcells j) ∧ (∀ g o, 0 < n → a' = some ⟨g, o, none⟩ → ¬ E' g) ∧ (∀ x ∈ j, 0 ≤ x.1 ∧ x.1 < a.pages ∧ x.2.length = 512) ∧ Does (.pointer (some ⟨ab, 0, none⟩)) dv a d' (writeCmds a f j) w' E' K)
      (fun st _ => match st.2.2 with | .slice _ n _ => n | _ => 0) ⟨l, l.length, l.length, sc, sa, d, E, rfl, rfl, Nat.le_refl _, h1, hg1, hz, ho, hr1, fun g o _ hv => hlv g o l.length sc (by rw [hv]), fun x hx => ⟨(hp x hx).1, (hp x hx).2.1, (hp x hx).2.2.1⟩, k1⟩ ?_
    rintro st w2 ⟨j, f, n, c, a', d', E', rfl, rfl, hjf, h2, hg2, hz2, ho2, hr2, hrow, hp2, k2⟩
    unfold twin_Area_Write_l3
    have hjl : j.length ≤ 100000 := by have := ho2.wait; omega
    by_cases hj0 : j = []
    · have hz0 : j.length = 0 := by rw [hj0]; rfl
      refine run_i s_len_sl ?_
      refine run_i (p_gtrF (by omega) _) ?_
      refine cn_fi ?_
      unfold twin_Area_Write_j2
      skip
      have e0 : writeCmds a f j = [] := by
        cases f with
        | zero => rfl
        | succ f => unfold writeCmds; rw [if_pos hj0]
      rw [e0] at k2
      exact k2 w2 E' h2 .refl
    · have hjp : 0 < j.length := List.length_pos_iff.2 hj0
      obtain ⟨f, rfl⟩ : ∃ k, f = k + 1 := ⟨f - 1, by omega⟩
      have e0 : writeCmds a (f + 1) j = roundCmds a (j.take a.slots.toNat) ++ writeCmds a f (j.drop a.slots.toNat) := by
        conv => lhs; unfold writeCmds
        rw [if_neg hj0]
      rw [e0] at k2
      have h2' := h2
      obtain ⟨ab2, Ed2, eab, hab2, _⟩ := h2'
      cases eab
      have hsh := hr2
      obtain ⟨_, a0, c0, ev, hcap, hx⟩ := hsh
      cases ev
      obtain ⟨g, o, l0, fz, rfl, hgb, hx⟩ := hx hjp
      have hgE := hrow g o hjp rfl
      obtain ⟨m, hm⟩ : ∃ m, m = min a.slots.toNat j.length := ⟨_, rfl⟩
      have hmi : min a.slots (j.length : Int) = (m : Int) := by omega
      refine run_i s_len_sl ?_
      refine run_i (p_gtrT (by omega) _) ?_
      refine cn_ti ?_
      refine run_i (p_nil _) ?_
      refine run_i s_field ?_
      refine run_i (s_load (cellAt_l hab2 rfl)) ?_
      refine run_i s_len_sl ?_
      refine run_i s_min ?_
      refine run_i (p_sl_h (SliceC.get) (by omega) (by omega) _) ?_
      rw [hmi, Int.toNat_natCast]
      have hpt := hr2.part (by decide) (l := 0) (u := m) (by omega) (by omega)
      obtain ⟨o1, c1, es1⟩ := sliced_some (g := g) (o := o) (l := 0) (u := m) (m := c) (s := 2)
      rw [es1] at hpt ⊢
      have htk : j.take a.slots.toNat = j.take m := by
        rw [hm]
        by_cases h : a.slots.toNat ≤ j.length
        · rw [Nat.min_eq_left h]
        · rw [Nat.min_eq_right (by omega), List.take_of_length_le (by omega), List.take_of_length_le (by omega)]
      have hdr : j.drop a.slots.toNat = j.drop m := by
        rw [hm]
        by_cases h : a.slots.toNat ≤ j.length
        · rw [Nat.min_eq_left h]
        · rw [Nat.min_eq_right (by omega), List.drop_of_length_le (by omega), List.drop_of_length_le (by omega)]
      have htl : (j.take m).length = m := by rw [List.length_take]; omega
      have hpt' : Rd w2 T.twin_Image 2 (.slice (some ⟨g, o1, none⟩) (m - 0) c1) (j.take m).length (wcells (j.take m)) := by
        rw [htl, wcells_take]
        simpa using hpt
      rw [htk, hdr] at k2
      refine round_c (size := size) h2 (ho2.mono (by rw [htl]; omega)) hg2 hz2 haa hs hpt' (fun g' o' n' c' hv => by cases hv; exact hgE) (by rw [htl]; omega) (fun x hx => hp2 x (List.mem_of_mem_take hx)) (fun w3 E3 h3 m3 => ?_)
      obtain ⟨k3, k4⟩ := k2.split m3
      have ho3 : DOk (runs (roundCmds a (j.take m)) d').1 (7 * (j.drop m).length) := runs_ok (n := 7 * (j.drop m).length) (ho2.mono (by rw [roundCmds_len, htl, List.length_drop]; omega))
      by_cases hr0 : (runs (roundCmds a (j.take m)) d').2 = 0
      · rw [hr0]
        refine run_i (p_neqF (by omega) _) ?_
        refine cn_fi ?_
        refine run_i (p_sl_l (SliceC.get) (by omega) (by omega) _) ?_
        try rw [Int.toNat_natCast]
        have hr3 := hr2.mv m3 (fun g' o' n' c' hv => by cases hv; exact hgE)
        have hpd := hr3.part (by decide) (l := m) (u := j.length) (by omega) (by omega)
        obtain ⟨o2, c2, es2⟩ := sliced_some (g := g) (o := o) (l := m) (u := j.length) (m := c) (s := 2)
        rw [es2] at hpd ⊢
        have hdl : (j.drop m).length = j.length - m := by rw [List.length_drop]
        refine ⟨⟨j.drop m, f, j.length - m, c2, some ⟨g, o2, none⟩, _, E3, rfl, hdl.symm, by omega, h3, hg2.mv m3 hz2, m3.out hg2.lt hz2, ho3, ?_, fun g' o' _ hv => by cases hv; exact m3.out (lt_of hgb) hgE, fun x hx => hp2 x (List.mem_of_mem_drop hx), k4 hr0⟩, ?_⟩
        · rw [hdl, wcells_drop]
          rw [List.take_of_length_le (by rw [List.length_drop, lens]; omega)] at hpd
          exact hpd
        · first | omega | (simp only; omega)
      · refine run_i (p_neqT (by omega) _) ?_
        refine cn_ti ?_
        exact k3 hr0 h3

def Dev.two' (d : Dev) (i : Int) : Text × Int := if d.off then ([], 7) else (d.two i, 0)

theorem read1 {v : Value} {d : Dev} {E : Cov} {i : Int} (h : DevI w v d E) (h0 : 0 ≤ i) (h1 : i < d.size) (k : ∀ w', Qt w w' → K (.tuple #[str (if d.off then [] else d.read i), int (if d.off then 7 else 0)]) w') : call Pg F.device_Device_Read [v, int i] K w := by
  obtain ⟨m, hd⟩ := h.dev
  cases hoff : d.off with
  | true =>
    rw [hoff] at k
    exact device_Read_off hd hoff k
  | false =>
    rw [hoff] at k
    exact device_Read_c hd hoff h0 h1 k

/-- all sectors are of so many bytes. -/
def Dev.Sec (d : Dev) : Prop := (∀ i t, d.last i = some t → t.length = 256) ∧ ∀ x ∈ d.wait, x.2.length = 256
theorem Dev.Sec.read {d : Dev} (h : d.Sec) (i : Int) : (d.read i).length = 256 := by
  unfold Dev.read
  cases hf : d.wait.reverse.find? (fun x => decide (x.1 = i)) with
  | some x => exact h.2 x (List.mem_reverse.1 (List.mem_of_find?_eq_some hf))
  | none =>
    cases hl : d.last i with
    | some t => exact h.1 i t hl
    | none => simp
theorem Dev.Sec.two {d : Dev} (h : d.Sec) (i : Int) : (d.two i).length = 512 := by
  unfold Dev.two
  rw [List.length_append, h.read, h.read]

theorem two_c {av dv : Value} {a : Area} {d : Dev} {E : Cov} {i : Int} (h : TwinI w av dv a d E) (hs : d.Sec) (h0 : 0 ≤ i) (h1 : i + 1 < d.size) (h2 : d.size ≤ 4096) (k : ∀ w', Qt w w' → K (.tuple #[str (d.two' i).1, int (d.two' i).2]) w') : call Pg F.twin_Area_two [av, int i] K w := by
  have h' := h
  obtain ⟨ab, Ed, rfl, hb, hd, hn, rfl⟩ := h'
  unfold Dev.two' at k
  refine twin_Area_two_call ?_
  unfold twin_Area_two
  refine run_i (p_nil _) ?_
  refine run_i s_field ?_
  refine run_i (s_load (cellAt_l hb rfl)) ?_
  refine read1 hd h0 (by omega) (fun w1 q1 => ?_)
  cases hoff : d.off with
  | true =>
    rw [hoff] at k
    simp only [if_true] at k ⊢
    refine run_i (s_extract rfl) ?_
    refine run_i (s_extract rfl) ?_
    refine run_i (p_neqT (by omega) _) ?_
    refine cn_ti ?_
    refine lv_i ?_
    exact k w1 q1
  | false =>
    rw [hoff] at k
    simp only [Bool.false_eq_true, if_false] at k ⊢
    refine run_i (s_extract rfl) ?_
    refine run_i (s_extract rfl) ?_
    refine run_i (p_neqF (by omega) _) ?_
    refine cn_fi ?_
    refine run_i (p_nil _) ?_
    refine run_i s_field ?_
    refine run_i (s_load (cellAt_l (q1.all hb) rfl)) ?_
    refine run_i (p_addI (by omega) (by omega) _) ?_
    refine read1 (hd.qt q1) (by omega) (by omega) (fun w2 q2 => ?_)
    rw [hoff]
    simp only [Bool.false_eq_true, if_false]
    have l1 := hs.read i
    have l2 := hs.read (i + 1)
    refine run_i (s_extract rfl) ?_
    refine run_i (s_extract rfl) ?_
    refine run_i (p_neqF (by omega) _) ?_
    refine cn_fi ?_
    refine run_i (p_cat (by first | omega | (simp only [List.length_append, List.length_take, List.length_drop, List.length_cons, List.length_nil, List.length_replicate, List.length_map, List.length_reverse] at *; omega)) _) ?_
    refine lv_i ?_
    exact k w2 (q1.trans q2)

theorem area_Read_c {av dv : Value} {a : Area} {d : Dev} {E : Cov} {n : Int} (h : TwinI w av dv a d E) (hs : d.Sec) (ha : a.Ok d.size) (h2 : d.size ≤ 4096) (h0 : 0 ≤ n) (h1 : n < a.pages)
    (k : ∀ w', Qt w w' → K (.tuple #[str (d.two' (a.from_ + 2 * n)).1, int (d.two' (a.from_ + 2 * n)).2]) w') : call Pg F.twin_Area_Read [av, int n] K w := by
  have har := h.area
  obtain ⟨ab, rfl, hab⟩ := har
  obtain ⟨a1, a2, a3, a4, a5, a6, a7, a8, a9⟩ := ha
  refine twin_Area_Read_call ?_
  unfold twin_Area_Read
  refine twin_there_c h.area ?_
  have e1 : decide (0 ≤ n ∧ n < a.pages) = true := decide_eq_true ⟨h0, h1⟩
  rw [e1]
  refine run_i (p_not _) ?_
  refine cn_fi ?_
  refine run_i (p_nil _) ?_
  refine run_i s_field ?_
  refine run_i (s_load (cellAt_l hab rfl)) ?_
  refine run_i (p_mulI (by omega) (by omega) _) ?_
  refine run_i (p_addI (by omega) (by omega) _) ?_
  refine two_c h hs (by omega) (by omega) h2 (fun w1 q1 => ?_)
  refine run_i (s_extract rfl) ?_
  refine run_i (s_extract rfl) ?_
  refine lv_i ?_
  exact k w1 q1
end Go.Sx
end

section
/- Pools: what they cover; their acts, those below them put aside. -/
set_option linter.unusedVariables false
set_option linter.unusedSimpArgs false
set_option maxRecDepth 100000
namespace Go.Sx
open Go Go.RowKit
variable {K : Value → World → Prop} {w : World}

/-- what a pool covers -/
def poolX (b : Nat) (hv uv : Value) (h : List (Int × Frame1)) : Cov := fun k => k = b ∨ hv.ownBlock = some k ∨ uv.ownBlock = some k ∨ ∃ x ∈ h, x.2.blk = k

theorem PoolRep.live {b : Nat} {av fl hv uv : Value} {p : PoolS} (h : PoolRep w b av fl hv uv p) {k : Nat} (hk : poolX b hv uv p.held k) : k < w.heap.size := by
  rcases hk with rfl | hk | hk | ⟨x, hx, rfl⟩
  · exact lt_of h.map.at_
  · obtain ⟨l, hl⟩ := h.map.own.block hk; exact lt_of hl
  · obtain ⟨l, hl⟩ := h.list.own.block hk; exact lt_of hl
  · exact lt_of (h.frs x hx)

theorem PoolRep.keep {w' : World} {b : Nat} {av fl hv uv : Value} {p : PoolS} (h : PoolRep w b av fl hv uv p) (hk : ∀ k o, w.heap[k]? = some o → poolX b hv uv p.held k → w'.heap[k]? = some o) : PoolRep w' b av fl hv uv p := by
  have hb := hk _ _ h.map.at_ (.inl rfl)
  refine ⟨⟨hb, h.map.cell, h.map.tag, h.map.own.keep (fun g l hg hl => hk _ _ hl (.inr (.inl hg))), h.map.sorted, h.map.one, h.map.few⟩, ⟨hb, h.list.cell, h.list.tag, h.list.own.keep (fun g l hg hl => hk _ _ hl (.inr (.inr (.inl hg)))), h.list.few⟩, fun x hx => hk _ _ (h.frs x hx) (.inr (.inr (.inr ⟨x, hx, rfl⟩))), h.uniq⟩

theorem PoolRep.mv {w' : World} {E E' : Cov} {b : Nat} {av fl hv uv : Value} {p : PoolS} (h : PoolRep w b av fl hv uv p) (m : Mv w E w' E') (hE : ∀ k, poolX b hv uv p.held k → ¬ E k) : PoolRep w' b av fl hv uv p :=
  h.keep fun k o hk hx => m.keep hk (hE k hx)

theorem setF_blk {h : List (Int × Frame1)} {n : Int} {f f' : Frame1} (hs : Sorted (ptrs h)) (hg : pget h n = some f) (hb : f'.blk = f.blk) (k : Nat) : (∃ x ∈ setF h n f', x.2.blk = k) ↔ ∃ x ∈ h, x.2.blk = k := by
  unfold setF
  constructor
  · rintro ⟨x, hx, rfl⟩
    obtain ⟨y, hy, rfl⟩ := List.mem_map.1 hx
    by_cases e : y.1 = n
    · rw [if_pos e]; exact ⟨_, pget_mem hg, hb.symm⟩
    · rw [if_neg e]; exact ⟨y, hy, rfl⟩
  · rintro ⟨x, hx, rfl⟩
    by_cases e : x.1 = n
    · have := sorted_inj hs hx (pget_mem hg) e
      subst this
      exact ⟨_, List.mem_map.2 ⟨_, hx, rfl⟩, by simp [hb]⟩
    · exact ⟨x, List.mem_map.2 ⟨x, hx, by rw [if_neg e]⟩, rfl⟩

/-- a frame is written. -/
theorem PoolRep.putMv {b : Nat} {av fl hv uv : Value} {p : PoolS} {n : Int} {f f' : Frame1} (h : PoolRep w b av fl hv uv p) (hg : pget p.held n = some f) (hb : f'.blk = f.blk) :
    Mv w (poolX b hv uv p.held) (w.putObj f.blk (.cells (fcells f').toArray T.pool_frame (0, 0))) (poolX b hv uv (setF p.held n f')) := by
  refine ⟨(Frm.refl w).put_may _ (fun _ _ => .inr (.inr (.inr ⟨_, pget_mem hg, rfl⟩))), fun k hk => .inl ?_⟩
  rcases hk with hk | hk | hk | hk
  · exact .inl hk
  · exact .inr (.inl hk)
  · exact .inr (.inr (.inl hk))
  · exact .inr (.inr (.inr ((setF_blk h.map.sorted hg hb k).1 hk)))

theorem Unpin_x {b : Nat} {av fl hv uv : Value} {p : PoolS} {n : Int} (h : PoolRep w b av fl hv uv p) (hr : ∀ x ∈ p.held, 0 ≤ x.2.pins ∧ x.2.pins ≤ 1000000)
    (k1 : ∀ w' f, pget p.held n = some f → f.pins ≠ 0 → PoolRep w' b av fl hv uv { p with held := setF p.held n { f with pins := f.pins - 1 } } → Mv w (poolX b hv uv p.held) w' (poolX b hv uv (setF p.held n { f with pins := f.pins - 1 })) → K (int 0) w')
    (k2 : ∀ w', Qt w w' → (∀ f, pget p.held n = some f → f.pins = 0) → K (int 17) w') :
    call Pg F.pool_Pool_Unpin [.pointer (some ⟨b, 0, none⟩), int n] K w := by
  refine pool_Pool_Unpin_call ?_
  unfold pool_Pool_Unpin
  refine pool_pinned_c h (fun w' f q hg hp0 => ?_) (fun w' q hno => ?_)
  · have h' := h.qt q
    have hf2 : w'.heap[f.blk]? = some (.cells [str f.bytes, int f.pins, .bool f.dirty].toArray T.pool_frame (0, 0)) := h'.frs _ (pget_mem hg)
    have hpr : 0 ≤ f.pins ∧ f.pins ≤ 1000000 := hr _ (pget_mem hg)
    refine run_i (s_extract rfl) ?_
    refine run_i (s_extract rfl) ?_
    refine run_i (p_eqlT (by omega) _) ?_
    refine cn_ti ?_
    refine run_i (p_nil _) ?_
    refine run_i s_field ?_
    refine run_i (s_load (cellAt_l hf2 rfl)) ?_
    refine run_i (p_subI (by omega) (by omega) _) ?_
    refine run_i (p_nil _) ?_
    refine run_i s_field ?_
    refine runU_i (s_store hf2 rfl (by simp <;> omega)) ?_
    unfold pool_Pool_Unpin_j1
    refine lv_i ?_
    exact k1 _ f hg hp0 (h'.put (f' := { f with pins := f.pins - 1 }) hg rfl) ((Mv.of_qt q).trans (h'.putMv (f' := { f with pins := f.pins - 1 }) hg rfl))
  · refine run_i (s_extract rfl) ?_
    refine run_i (s_extract rfl) ?_
    refine run_i (p_eqlF (by omega) _) ?_
    refine cn_fi ?_
    unfold pool_Pool_Unpin_j1
    refine lv_i ?_
    exact k2 w' q hno

theorem delF_blk {h : List (Int × Frame1)} {n : Int} {k : Nat} (hx : ∃ x ∈ delF h n, x.2.blk = k) : ∃ x ∈ h, x.2.blk = k := by
  obtain ⟨x, hx, rfl⟩ := hx
  exact ⟨x, (List.mem_filter.1 hx).1, rfl⟩

/-- a page leaves its frame. -/
theorem out_j1_x {b : Nat} {av fl hv uv : Value} {p : PoolS} {n : Int} {f : Frame1} (h : PoolRep w b av fl hv uv p) (hg : pget p.held n = some f)
    (k : ∀ w' hv' uv', PoolRep w' b av fl hv' uv' { p with held := delF p.held n, used := p.used.erase n } → Mv w (poolX b hv uv p.held) w' (poolX b hv' uv' (delF p.held n)) → K (int 0) w') :
    pool_Pool_out_j1 K [] (.pointer (some ⟨b, 0, none⟩)) (int n) w := by
  unfold pool_Pool_out_j1
  refine run_i (p_nil _) ?_
  refine run_i s_field ?_
  refine Delete_c h.map (by rw [mget_ptrs, hg]; rfl) (fun hv1 i w1 hi he m1 f1 hb1 => ?_)
  have hi' : i < p.held.length := by rw [ptrs_len] at hi; exact hi
  have he' : (p.held[i]).1 = n := by simpa [ptrs] using he
  have hdel : (ptrs p.held).eraseIdx i = ptrs (delF p.held n) := by
    rw [← erase_del h.map.sorted hi' he']
    unfold ptrs
    rw [List.eraseIdx_eq_take_drop_succ, List.eraseIdx_eq_take_drop_succ]
    simp
  rw [hdel] at m1
  have hsub : ∀ x ∈ delF p.held n, x ∈ p.held := fun x hx => (List.mem_filter.1 hx).1
  have h1 := h.afterMap m1 f1 (fun x hx => h.keepFr f1 x (hsub x hx)) (fun x hx y hy e => h.uniq x (hsub x hx) y (hsub y hy) e)
  have v1 : Mv w (poolX b hv uv p.held) w1 (poolX b hv1 uv (delF p.held n)) := by
    refine ⟨f1.mono (fun k o _ e => e.elim .inl fun e => .inr (.inl e)), fun k hk => .inl ?_⟩
    rcases hk with hk | hk | hk | hk
    · exact .inl hk
    · exact .inr (.inl (by rw [← hb1]; exact hk))
    · exact .inr (.inr (.inl hk))
    · exact .inr (.inr (.inr (delF_blk hk)))
  refine run_i (p_nil _) ?_
  refine run_i s_field ?_
  refine Drop_c h1.list (fun uv2 w2 r m2 f2 hb2 => ?_)
  have h2 := h1.afterList m2 f2
  have v2 : Mv w1 (poolX b hv1 uv (delF p.held n)) w2 (poolX b hv1 uv2 (delF p.held n)) := by
    refine ⟨f2.mono (fun k o _ e => e.elim .inl fun e => .inr (.inr (.inl e))), fun k hk => .inl ?_⟩
    rcases hk with hk | hk | hk | hk
    · exact .inl hk
    · exact .inr (.inl hk)
    · exact .inr (.inr (.inl (by rw [← hb2]; exact hk)))
    · exact .inr (.inr (.inr hk))
  refine lv_i ?_
  exact k w2 hv1 uv2 h2 (v1.trans v2)

theorem pin_j2_x {b : Nat} {av fl hv uv : Value} {p : PoolS} {n : Int} {f : Frame1} (h : PoolRep w b av fl hv uv p) (hg : pget p.held n = some f) (hp0 : 0 ≤ f.pins) (hp1 : f.pins < 1000000) (hu : p.used.length < 1000000)
    (k : ∀ w' uv', PoolRep w' b av fl hv uv' { p with held := setF p.held n { f with pins := f.pins + 1 }, used := p.used.erase n ++ [n] } → Mv w (poolX b hv uv p.held) w' (poolX b hv uv' (setF p.held n { f with pins := f.pins + 1 })) → K (.tuple #[str f.bytes, int 0]) w') :
    pool_Pool_Pin_j2 K [] (.pointer (some ⟨b, 0, none⟩)) (int n) (.pointer (some ⟨f.blk, 0, none⟩)) w := by
  have hf : w.heap[f.blk]? = some (.cells [str f.bytes, int f.pins, .bool f.dirty].toArray T.pool_frame (0, 0)) := h.frs _ (pget_mem hg)
  unfold pool_Pool_Pin_j2
  refine run_i (p_nil _) ?_
  refine run_i s_field ?_
  refine run_i (s_load (cellAt_l hf rfl)) ?_
  refine run_i (p_addI (by omega) (by omega) _) ?_
  refine run_i (p_nil _) ?_
  refine run_i s_field ?_
  refine runU_i (s_store hf rfl (by simp <;> omega)) ?_
  refine run_i (p_nil _) ?_
  refine run_i s_field ?_
  have h1 : PoolRep (w.putObj f.blk (.cells [str f.bytes, int (f.pins + 1), .bool f.dirty].toArray T.pool_frame (0, 0))) b av fl hv uv { p with held := setF p.held n { f with pins := f.pins + 1 } } := h.put (f' := { f with pins := f.pins + 1 }) hg rfl
  have v1 := h.putMv (f' := { f with pins := f.pins + 1 }) hg rfl
  refine Use_c h1.list hu (fun uv2 w2 m2 f2 hb2 => ?_)
  have h2 := h1.afterList m2 f2
  have hm : (n, { f with pins := f.pins + 1 }) ∈ setF p.held n { f with pins := f.pins + 1 } := by
    unfold setF
    exact List.mem_map.2 ⟨_, pget_mem hg, by simp⟩
  have hf2 : w2.heap[f.blk]? = some (.cells [str f.bytes, int (f.pins + 1), .bool f.dirty].toArray T.pool_frame (0, 0)) := h2.frs _ hm
  refine run_i (p_nil _) ?_
  refine run_i s_field ?_
  refine run_i (s_load (cellAt_l hf2 rfl)) ?_
  refine lv_i ?_
  refine k w2 uv2 h2 (v1.trans ⟨f2.mono (fun k o _ e => e.elim .inl fun e => .inr (.inr (.inl e))), fun k hk => ?_⟩)
  rcases hk with hk | hk | hk | hk
  · exact .inl (.inl hk)
  · exact .inl (.inr (.inl hk))
  · rcases hb2 with e | ⟨nb, e, hle⟩
    · exact .inl (.inr (.inr (.inl (by rw [← e]; exact hk))))
    · rw [e] at hk; cases hk; exact .inr hle
  · exact .inl (.inr (.inr (.inr hk)))

theorem pget_ins {h : List (Int × Frame1)} {i : Nat} {n : Int} {f : Frame1} (hi : i ≤ h.length) (hn : pget h n = none) : pget (ins h i (n, f)) n = some f := by
  unfold pget ins at *
  simp only [Option.map_eq_none_iff, List.find?_eq_none, decide_eq_true_eq] at hn
  rw [List.find?_append]
  have e : (h.take i).find? (fun x => decide (x.1 = n)) = none := by
    rw [List.find?_eq_none]
    intro x hx
    simpa using hn x (List.mem_of_mem_take hx)
  rw [e]
  simp

/-- the pool behind a Pin that fetched the page -/
def PoolS.fetched (p1 : PoolS) (i : Nat) (n : Int) (t : Text) (blk : Nat) : PoolS :=
  { p1 with held := setF (ins p1.held i (n, ⟨t, 0, false, blk⟩)) n ⟨t, 1, false, blk⟩, used := p1.used.erase n ++ [n] }

set_option maxHeartbeats 1000000 in
theorem pin_new_x {b : Nat} {av fl hv uv : Value} {p1 : PoolS} {n : Int} {t : Text} (hr4 : PoolRep w b av fl hv uv p1) (hpg : pget p1.held n = none) (hh : p1.held.length < 1000000) (hu : p1.used.length < 1000000)
    (k : ∀ w' hv' uv' i blk, Spot (ptrs p1.held) n i → PoolRep w' b av fl hv' uv' (p1.fetched i n t blk) → Mv w (poolX b hv uv p1.held) w' (poolX b hv' uv' (p1.fetched i n t blk).held) → K (.tuple #[str t, int 0]) w') :
    run Pg (Instr.box T.pool_frame (.agg [str t, int 0, .bool false].toArray)) (fun t60_31 w => run Pg (nilS (.pointer (some ⟨b, 0, none⟩))) (fun t62_32 w => run Pg (Instr.fieldAt T.pool_Pool t62_32 3) (fun t63_33 w =>
      call Pg F.order_Map_int_pool_frame_Set [t63_33, int n, t60_31] (fun t66_34 w => pool_Pool_Pin_j2 K [] (.pointer (some ⟨b, 0, none⟩)) (int n) t60_31 w) w) w) w) w := by
  refine run_i s_box ?_
  refine run_i (p_nil _) ?_
  refine run_i s_field ?_
  obtain ⟨bk, hbk⟩ : ∃ bk, bk = w.heap.size := ⟨_, rfl⟩
  have q5 : Qt w (w.alloc (.cells [str t, int 0, .bool false].toArray T.pool_frame)) := (Frm.refl w).alloc _
  have hr5 := hr4.qt q5
  have hnew : (w.alloc (.cells [str t, int 0, .bool false].toArray T.pool_frame)).heap[bk]? = some (.cells (fcells ⟨t, 0, false, bk⟩).toArray T.pool_frame (0, 0)) := by rw [hbk]; exact hp_alloc_new
  rw [← hbk]
  refine Set_c hr5.map (by rw [mget_ptrs, hpg]; rfl) rfl (by rw [ptrs_len]; omega) (fun hv6 i w6 hsp m6 f6 hb6 => ?_)
  have hins : ins (ptrs p1.held) i (n, .pointer (some ⟨bk, 0, none⟩)) = ptrs (ins p1.held i (n, ⟨t, 0, false, bk⟩)) := by simp [ins, ptrs]
  rw [hins] at m6
  have hil : i ≤ p1.held.length := by have := hsp.le; rw [ptrs_len] at this; exact this
  have hmem : ∀ x ∈ ins p1.held i (n, (⟨t, 0, false, bk⟩ : Frame1)), x ∈ p1.held ∨ x = (n, ⟨t, 0, false, bk⟩) := by
    intro x hx
    unfold ins at hx
    simp only [List.mem_append, List.mem_cons] at hx
    rcases hx with hx | hx | hx
    · exact .inl (List.mem_of_mem_take hx)
    · exact .inr hx
    · exact .inl (List.mem_of_mem_drop hx)
  have hbl : ∀ x ∈ p1.held, x.2.blk ≠ bk := fun x hx e => by
    have := lt_of (hr4.frs x hx)
    omega
  have h6 := hr5.afterMap m6 f6 (fun x hx => by
    rcases hmem x hx with hx | rfl
    · exact hr5.keepFr f6 x hx
    · refine f6.keep _ _ hnew ?_
      rintro (e | e)
      · have := hr5.map.at_
        rw [← e, hnew] at this
        have h2 : T.pool_frame = T.pool_Pool := by injection this with h1; injection h1
        exact absurd h2 (by decide)
      · exact own_ne2 hr5.map.own hnew (by decide) e) (fun x hx y hy e => by
    rcases hmem x hx with hx | rfl <;> rcases hmem y hy with hy | rfl
    · exact hr5.uniq x hx y hy e
    · exact absurd e (hbl x hx)
    · exact absurd e.symm (hbl y hy)
    · rfl)
  have v6 : Mv w (poolX b hv uv p1.held) w6 (poolX b hv6 uv (ins p1.held i (n, ⟨t, 0, false, bk⟩))) := by
    refine ⟨(Frm.of_qt q5).trans (f6.mono (fun k o _ e => e.elim .inl fun e => .inr (.inl e))), fun k hk => ?_⟩
    rcases hk with hk | hk | hk | ⟨x, hx, hk⟩
    · exact .inl (.inl hk)
    · rcases hb6 with e | ⟨nb, e, hle⟩
      · exact .inl (.inr (.inl (by rw [← e]; exact hk)))
      · rw [e] at hk; cases hk; have := q5.size; exact .inr (by omega)
    · exact .inl (.inr (.inr (.inl hk)))
    · rcases hmem x hx with hx | rfl
      · exact .inl (.inr (.inr (.inr ⟨x, hx, hk⟩)))
      · exact .inr (by simp only at hk; omega)
  refine pin_j2_x h6 (pget_ins hil hpg) (by simp) (by simp) (by simp only; omega) (fun w7 uv7 h7 v7 => ?_)
  exact k w7 hv6 uv7 i bk hsp h7 (v6.trans v7)
end Go.Sx
end

section
/- What covers a part of the heap; pools over whatever stands below them. -/
set_option linter.unusedVariables false
set_option linter.unusedSimpArgs false
set_option maxRecDepth 100000
namespace Go.Sx
open Go Go.RowKit

/-- What a pool is over: an area of pages, a log. -/
structure PEnv where
  σ : Type
  I : σ → Cov → World → Prop
  av : Value
  fl : Value
  pages : Int
  rd : σ → Int → Text × Int
  wr : σ → List (Int × Text) → σ × Int
  flu : σ → Int → σ × Int
  small : 0 ≤ pages ∧ pages ≤ 800
  isPtr : ∃ ab, av = .pointer (some ab)
  isFn : ∃ f a b, fl = .func f a b
  live : ∀ {s E w k}, I s E w → E k → k < w.heap.size
  no0 : ∀ {s E w}, I s E w → ¬ E 0
  keep : ∀ {s E w w'}, I s E w → (∀ k o, w.heap[k]? = some o → E k → w'.heap[k]? = some o) → w.heap.size ≤ w'.heap.size → I s E w'
  cPages : ∀ {s E w} {K : Value → World → Prop}, I s E w → K (int pages) w → call Pg F.twin_Area_Pages [av] K w
  cRead : ∀ {s E w n} {K : Value → World → Prop}, I s E w → 0 ≤ n → n < pages → (∀ w', Qt w w' → K (.tuple #[str (rd s n).1, int (rd s n).2]) w') → call Pg F.twin_Area_Read [av, int n] K w
  rdLen : ∀ {s E w n}, I s E w → (rd s n).1.length ≤ 1000
  cWrite : ∀ {s E w lv} {l : List (Int × Text)} {K : Value → World → Prop}, I s E w → Glob w → Rd w T.twin_Image 2 lv l.length (wcells l) → (∀ g o n cap, lv = .slice (some ⟨g, o, none⟩) n cap → ¬ E g) → l.length ≤ 1000 →
    (∀ x ∈ l, 0 ≤ x.1 ∧ x.1 < pages ∧ WholeT x.2) → (∀ w' E', I (wr s l).1 E' w' → Mv w E w' E' → K (int (wr s l).2) w') → call Pg F.twin_Area_Write [av, lv] K w
  cFlush : ∀ {s E w n} {K : Value → World → Prop}, I s E w → Glob w → 0 ≤ n → (∀ w' E', I (flu s n).1 E' w' → Mv w E w' E' → K (int (flu s n).2) w') → callV Pg fl [int n] K w

/-! ### Pools, plain -/
structure FrT where
  bytes : Text
  pins : Int
  dirty : Bool

structure PS where
  frames : Int
  held : List (Int × FrT)
  used : List Int

def Frame1.fr (f : Frame1) : FrT := ⟨f.bytes, f.pins, f.dirty⟩
def PoolS.ps (p : PoolS) : PS := ⟨p.frames, p.held.map fun x => (x.1, x.2.fr), p.used⟩

def fget (h : List (Int × FrT)) (n : Int) : Option FrT := (h.find? fun x => decide (x.1 = n)).map Prod.snd
def fset (h : List (Int × FrT)) (n : Int) (f : FrT) : List (Int × FrT) := h.map fun x => if x.1 = n then (x.1, f) else x
def fdel (h : List (Int × FrT)) (n : Int) : List (Int × FrT) := h.filter fun x => !decide (x.1 = n)
def fins (h : List (Int × FrT)) (n : Int) (f : FrT) : List (Int × FrT) := (h.filter fun x => decide (x.1 < n)) ++ (n, f) :: h.filter fun x => decide (n < x.1)

theorem fget_ps (h : List (Int × Frame1)) (n : Int) : fget (h.map fun x => (x.1, x.2.fr)) n = (pget h n).map Frame1.fr := by
  unfold fget pget
  rw [List.find?_map]
  cases hf : h.find? (fun x => decide (x.1 = n)) with
  | none =>
    have : h.find? ((fun x : Int × FrT => decide (x.1 = n)) ∘ fun x => (x.1, x.2.fr)) = none := hf
    rw [this]; rfl
  | some x =>
    have : h.find? ((fun x : Int × FrT => decide (x.1 = n)) ∘ fun x => (x.1, x.2.fr)) = some x := hf
    rw [this]; rfl
theorem fset_ps (h : List (Int × Frame1)) (n : Int) (f : Frame1) : (setF h n f).map (fun x => (x.1, x.2.fr)) = fset (h.map fun x => (x.1, x.2.fr)) n f.fr := by
  unfold setF fset
  rw [List.map_map, List.map_map]
  apply List.map_congr_left
  intro x _
  simp only [Function.comp]
  split <;> rfl
theorem fdel_ps (h : List (Int × Frame1)) (n : Int) : (delF h n).map (fun x => (x.1, x.2.fr)) = fdel (h.map fun x => (x.1, x.2.fr)) n := by
  unfold delF fdel
  rw [List.filter_map]
  rfl
theorem ins_filter {α : Type} (key : α → Int) : ∀ (l : List α) (i : Nat) (n : Int) (x : α), (∀ j, j < i → (hj : j < l.length) → key l[j] < n) → (∀ j, i ≤ j → (hj : j < l.length) → n < key l[j]) →
    ins l i x = (l.filter fun y => decide (key y < n)) ++ x :: l.filter fun y => decide (n < key y) := by
  intro l i n x h1 h2
  unfold ins
  have e : l = l.take i ++ l.drop i := (List.take_append_drop ..).symm
  have a1 : ∀ y ∈ l.take i, key y < n := by
    intro y hy
    obtain ⟨j, hj, rfl⟩ := List.mem_iff_getElem.1 hy
    rw [List.length_take] at hj
    rw [List.getElem_take]
    exact h1 j (by omega) (by omega)
  have a2 : ∀ y ∈ l.drop i, n < key y := by
    intro y hy
    obtain ⟨j, hj, rfl⟩ := List.mem_iff_getElem.1 hy
    rw [List.length_drop] at hj
    rw [List.getElem_drop]
    exact h2 _ (by omega) (by omega)
  have f1 : (l.filter fun y => decide (key y < n)) = l.take i := by
    conv => lhs; rw [e]
    rw [List.filter_append, List.filter_eq_self.2 (fun y hy => by simpa using a1 y hy), List.filter_eq_nil_iff.2 (fun y hy => by have := a2 y hy; simp; omega), List.append_nil]
  have f2 : (l.filter fun y => decide (n < key y)) = l.drop i := by
    conv => lhs; rw [e]
    rw [List.filter_append, List.filter_eq_nil_iff.2 (fun y hy => by have := a1 y hy; simp; omega), List.filter_eq_self.2 (fun y hy => by simpa using a2 y hy), List.nil_append]
  rw [f1, f2]

variable (e : PEnv)

def cleanP (h : List (Int × FrT)) (n : Int) : List (Int × FrT) := match fget h n with | some f => fset h n { f with dirty := false } | none => h
def imgsP (h : List (Int × FrT)) (l : List Int) : List (Int × Text) := l.map fun n => (n, ((fget h n).map FrT.bytes).getD [])
/-- the greatest number of pages' last changes -/
def topOf (l : List (Int × Text)) : Int := l.foldl (fun m x => max m (lsnOf x.2)) 0

/-- pages are written. -/
def pwrite (s : e.σ) (p : PS) (l : List Int) : e.σ × PS × Int :=
  if l = [] then (s, p, 0) else
  let r := e.flu s (topOf (imgsP p.held l))
  if r.2 ≠ 0 then (r.1, p, r.2) else
  let r2 := e.wr r.1 (imgsP p.held l)
  if r2.2 ≠ 0 then (r2.1, p, r2.2) else
  (r2.1, { p with held := l.foldl cleanP p.held }, 0)

def pout (s : e.σ) (p : PS) (n : Int) : e.σ × PS × Int :=
  let r := if ((fget p.held n).map FrT.dirty).getD false then pwrite e s p [n] else (s, p, 0)
  if r.2.2 ≠ 0 then r else (r.1, { r.2.1 with held := fdel r.2.1.held n, used := r.2.1.used.erase n }, 0)

def free1P (p : PS) (n : Int) : Bool := match fget p.held n with | some f => decide (f.pins = 0) | none => false
def pvictim (p : PS) : Option Int := p.used.find? (free1P p)

def pspace (s : e.σ) (p : PS) : e.σ × PS × Int :=
  if (p.held.length : Int) < p.frames then (s, p, 0) else
  match pvictim p with
  | some n => pout e s p n
  | none => (s, p, 10)

def puse (p : PS) (n : Int) (f : FrT) : PS := { p with held := fset p.held n { f with pins := f.pins + 1 }, used := p.used.erase n ++ [n] }

def ppin (s : e.σ) (p : PS) (n : Int) : e.σ × PS × Text × Int :=
  match fget p.held n with
  | some f => (s, puse p n f, f.bytes, 0)
  | none =>
    let r := pspace e s p
    if r.2.2 ≠ 0 then (r.1, r.2.1, [], r.2.2) else
    let t := e.rd r.1 n
    if t.2 ≠ 0 then (r.1, r.2.1, [], t.2) else
    if WholeT t.1 then (r.1, puse { r.2.1 with held := fins r.2.1.held n ⟨t.1, 0, false⟩ } n ⟨t.1, 0, false⟩, t.1, 0) else (r.1, r.2.1, [], 19)

/-- what holds of each pool. -/
structure PS.Ok (p : PS) (pages : Int) (most : Int) : Prop where
  used : ∀ n ∈ p.used, (fget p.held n).isSome = true
  pins : ∀ x ∈ p.held, 0 ≤ x.2.pins ∧ x.2.pins ≤ most
  page : ∀ x ∈ p.held, 0 ≤ x.1 ∧ x.1 < pages ∧ WholeT x.2.bytes
  sorted : p.held.Pairwise fun a b => a.1 < b.1
  nodup : p.used.Nodup

end Go.Sx
end

section
/- Pools: pages are written. -/
set_option linter.unusedVariables false
set_option linter.unusedSimpArgs false
set_option maxRecDepth 100000
namespace Go.Sx
open Go Go.RowKit
variable {K : Value → World → Prop} {w : World}

theorem PoolRep.no0 {b : Nat} {av fl hv uv : Value} {p : PoolS} (h : PoolRep w b av fl hv uv p) (hg : Glob w) : ¬ poolX b hv uv p.held 0 := by
  obtain ⟨fz, hg⟩ := hg
  rintro (e | e | e | ⟨x, hx, e⟩)
  · have := h.map.at_
    rw [← e, hg] at this
    exact absurd (by injection this with h1; injection h1) (show ¬ T.a16_u32 = T.pool_Pool by decide)
  · obtain ⟨l, hl⟩ := h.map.own.block e
    rw [hg] at hl
    exact absurd (by injection hl with h1; injection h1) (show ¬ T.a16_u32 = T.order_pair_int_pool_frame by decide)
  · obtain ⟨l, hl⟩ := h.list.own.block e
    rw [hg] at hl
    exact absurd (by injection hl with h1; injection h1) (show ¬ T.a16_u32 = T.i64_2 by decide)
  · have := h.frs x hx
    rw [e, hg] at this
    exact absurd (by injection this with h1; injection h1) (show ¬ T.a16_u32 = T.pool_frame by decide)

def cleanF (h : List (Int × Frame1)) (n : Int) : List (Int × Frame1) := match pget h n with | some f => setF h n { f with dirty := false } | none => h
def imgsOf (h : List (Int × Frame1)) (l : List Int) : List (Int × Text) := l.map fun n => (n, ((pget h n).map Frame1.bytes).getD [])
theorem topOf_snoc (l : List (Int × Text)) (x : Int × Text) : topOf (l ++ [x]) = max (topOf l) (lsnOf x.2) := by
  unfold topOf; rw [List.foldl_append]; rfl
theorem topOf_nonneg (l : List (Int × Text)) : 0 ≤ topOf l := by
  have : ∀ (l : List (Int × Text)) (m : Int), 0 ≤ m → 0 ≤ l.foldl (fun m x => max m (lsnOf x.2)) m := by
    intro l
    induction l with
    | nil => intro m h; exact h
    | cons x l ih => intro m h; exact ih _ (by show 0 ≤ max m (lsnOf x.2); omega)
  exact this l 0 (by decide)

def pwriteS (e : PEnv) (s : e.σ) (p : PoolS) (l : List Int) : e.σ × PoolS × Int :=
  if l = [] then (s, p, 0) else
  let r := e.flu s (topOf (imgsOf p.held l))
  if r.2 ≠ 0 then (r.1, p, r.2) else
  let r2 := e.wr r.1 (imgsOf p.held l)
  if r2.2 ≠ 0 then (r2.1, p, r2.2) else
  (r2.1, { p with held := l.foldl cleanF p.held }, 0)

theorem cleanF_blk {h : List (Int × Frame1)} {n : Int} (hs : Sorted (ptrs h)) (k : Nat) : (∃ x ∈ cleanF h n, x.2.blk = k) ↔ ∃ x ∈ h, x.2.blk = k := by
  unfold cleanF
  cases hg : pget h n with
  | none => exact Iff.rfl
  | some f =>
    show (∃ x ∈ setF h n { f with dirty := false }, x.2.blk = k) ↔ _
    exact setF_blk (f' := { f with dirty := false }) hs hg rfl k

theorem wcells_snoc (l : List (Int × Text)) (x : Int × Text) : wcells (l ++ [x]) = wcells l ++ [int x.1, str x.2] := by simp [wcells]

theorem lsn_lt {s : Text} : lsnOf s < 281474976710656 := by
  unfold lsnOf
  split
  · have := numOf_lt (s.take 6)
    have h2 : (s.take 6).length ≤ 6 := by rw [List.length_take]; omega
    have h3 := pow256_le h2
    have h4 : (256 : Int) ^ 6 = 281474976710656 := by decide
    omega
  · omega

theorem pget_setF_other {h : List (Int × Frame1)} {n m : Int} {f : Frame1} (hne : m ≠ n) : pget (setF h n f) m = pget h m := by
  unfold pget setF
  congr 1
  rw [List.find?_map]
  have : ∀ x ∈ h, ((fun x : Int × Frame1 => decide (x.1 = m)) ∘ fun x => if x.1 = n then (x.1, f) else x) x = decide (x.1 = m) := by
    intro x _
    simp only [Function.comp]
    split <;> rfl
  induction h with
  | nil => rfl
  | cons x h ih =>
    have h1 := this x (by simp)
    simp only [List.find?_cons, h1]
    by_cases e : x.1 = m
    · have : ¬ x.1 = n := by omega
      simp [e, show ¬ m = n from hne]
    · simp only [e, decide_false]
      exact ih (fun y hy => this y (by simp [hy]))
theorem pget_setF_same {h : List (Int × Frame1)} {n : Int} {f g : Frame1} (hg : pget h n = some g) : pget (setF h n f) n = some f := by
  unfold pget setF at *
  rw [List.find?_map]
  have : ∀ x : Int × Frame1, ((fun x : Int × Frame1 => decide (x.1 = n)) ∘ fun x => if x.1 = n then (x.1, f) else x) x = decide (x.1 = n) := by
    intro x
    simp only [Function.comp]
    split <;> rfl
  have e : h.find? ((fun x : Int × Frame1 => decide (x.1 = n)) ∘ fun x => if x.1 = n then (x.1, f) else x) = h.find? fun x => decide (x.1 = n) := by
    congr 1
    funext x; exact this x
  rw [e]
  cases hf : h.find? (fun x => decide (x.1 = n)) with
  | none => rw [hf] at hg; cases hg
  | some x =>
    have h2 := List.find?_some hf
    simp at h2
    simp [h2]
theorem cleanF_get {h : List (Int × Frame1)} {n m : Int} {f : Frame1} (hg : pget h m = some f) : ∃ f', pget (cleanF h n) m = some f' ∧ f'.blk = f.blk ∧ f'.bytes = f.bytes ∧ f'.pins = f.pins := by
  unfold cleanF
  cases hn : pget h n with
  | none => exact ⟨f, hg, rfl, rfl, rfl⟩
  | some f0 =>
    by_cases e : m = n
    · subst e
      rw [hn] at hg; cases hg
      exact ⟨_, pget_setF_same hn, rfl, rfl, rfl⟩
    · exact ⟨f, by rw [← hg]; exact pget_setF_other e, rfl, rfl, rfl⟩
theorem cleanFs_get (l : List Int) : ∀ {h : List (Int × Frame1)} {m : Int} {f : Frame1}, pget h m = some f → ∃ f', pget (l.foldl cleanF h) m = some f' ∧ f'.blk = f.blk ∧ f'.bytes = f.bytes ∧ f'.pins = f.pins := by
  induction l with
  | nil => intro h m f hg; exact ⟨f, hg, rfl, rfl, rfl⟩
  | cons n l ih =>
    intro h m f hg
    obtain ⟨f1, a1, a2, a3, a4⟩ := cleanF_get (n := n) hg
    obtain ⟨f2, b1, b2, b3, b4⟩ := ih a1
    exact ⟨f2, b1, b2.trans a2, b3.trans a3, b4.trans a4⟩

theorem PoolRep.clean {b : Nat} {av fl hv uv : Value} {p : PoolS} {n : Int} {f : Frame1} (h : PoolRep w b av fl hv uv p) (hg : pget p.held n = some f) :
    PoolRep (w.putObj f.blk (.cells [str f.bytes, int f.pins, .bool false].toArray T.pool_frame (0, 0))) b av fl hv uv { p with held := cleanF p.held n } := by
  have := h.put (f' := { f with dirty := false }) hg rfl
  unfold cleanF
  rw [hg]
  exact this

set_option maxHeartbeats 2000000 in
theorem write_x {e : PEnv} {b : Nat} {hv uv pv : Value} {p : PoolS} {s : e.σ} {Ee : Cov} {l : List Int} (h : PoolRep w b e.av e.fl hv uv p) (hI : e.I s Ee w) (hgl : Glob w) (hd : ∀ k, poolX b hv uv p.held k → ¬ Ee k)
    (hpv : Rd w T.i64_2 1 pv l.length (icells l)) (hpb : ∀ g o n cap, pv = .slice (some ⟨g, o, none⟩) n cap → ¬ poolX b hv uv p.held g ∧ ¬ Ee g) (hl : l.length ≤ 1000) (hin : ∀ n ∈ l, ∃ f, pget p.held n = some f)
    (hok : ∀ x ∈ p.held, 0 ≤ x.1 ∧ x.1 < e.pages ∧ WholeT x.2.bytes)
    (k : ∀ w' Ee', PoolRep w' b e.av e.fl hv uv (pwriteS e s p l).2.1 → e.I (pwriteS e s p l).1 Ee' w' → Mv w (fun k => poolX b hv uv p.held k ∨ Ee k) w' (fun k => poolX b hv uv p.held k ∨ Ee' k) → (∀ k, poolX b hv uv p.held k → ¬ Ee' k) →
      (∀ k, poolX b hv uv (pwriteS e s p l).2.1.held k ↔ poolX b hv uv p.held k) → Glob w' → K (int (pwriteS e s p l).2.2) w') :
    call Pg F.pool_Pool_write [.pointer (some ⟨b, 0, none⟩), pv] K w := by
  obtain ⟨sa, sc, rfl⟩ := hpv.shape
  have hx0 := h.no0 hgl
  refine pool_Pool_write_call ?_
  unfold pool_Pool_write
  refine run_i s_len_sl ?_
  refine Lp_inv (pool_Pool_write_l4_mono K) (fun st w' => Qt w w' ∧ ∃ i : Nat, ∃ lv, i ≤ l.length ∧ st = ([], .pointer (some ⟨b, 0, none⟩), .slice sa l.length sc, lv, int (topOf (imgsOf p.held (l.take i))), .slice sa l.length sc, int l.length, int i) ∧
      Own w' T.twin_Image 2 lv i (wcells (imgsOf p.held (l.take i))) ∧ ∀ g, lv.ownBlock = some g → w.heap.size ≤ g)
    (fun st _ => match st.2.2.2.2.2.2.2 with | .int _ k => (l.length - k).toNat | _ => 0) ⟨.refl w, 0, _, by omega, rfl, .nil, fun g hg => by cases hg⟩ ?_
  rintro st w1 ⟨q1, i, lv, hi, rfl, ho, hfr⟩
  unfold pool_Pool_write_l4
  have h1 := h.qt q1
  have htl : ∀ j, topOf (imgsOf p.held (l.take j)) < 281474976710656 := by
    intro j
    have : ∀ (l : List (Int × Text)) (m : Int), m < 281474976710656 → l.foldl (fun m x => max m (lsnOf x.2)) m < 281474976710656 := by
      intro l
      induction l with
      | nil => intro m h; exact h
      | cons x l ih => intro m h; exact ih _ (by have := @lsn_lt x.2; show max m (lsnOf x.2) < _; omega)
    exact this _ 0 (by decide)
  have ht0 := htl i
  have ht1 := topOf_nonneg (imgsOf p.held (l.take i))
  refine run_i (p_lss _) ?_
  refine cnd_dec (fun hc => ?_) (fun hc => ?_)
  · have hil : i < l.length := by omega
    obtain ⟨f, hf⟩ := hin _ (List.getElem_mem hil)
    refine (hpv.qt q1).load (u := int l[i]) hil (by simp [icells, hil]) SliceC.get PlainC.get rfl ?_
    refine run_i (p_nil _) ?_
    refine run_i s_field ?_
    refine h1.get (fun w2 q2 => ?_)
    rw [hf]
    have h2 := h1.qt q2
    have hfr2 : w2.heap[f.blk]? = some (.cells [str f.bytes, int f.pins, .bool f.dirty].toArray T.pool_frame (0, 0)) := h2.frs _ (pget_mem hf)
    have hwh := (hok _ (pget_mem hf)).2.2
    have hfl : f.bytes.length = 512 := hwh.1
    refine run_i (s_extract rfl) ?_
    refine run_i (s_extract rfl) ?_
    refine run_i (p_nil _) ?_
    refine run_i s_field ?_
    refine run_i (s_load (cellAt_l hfr2 rfl)) ?_
    refine run_i (build_of (cells := #[int l[i], str f.bytes]) (by kernel_rfl) _) ?_
    refine run_i (s_build1 (by decide) (by decide) (by kernel_rfl)) ?_
    have e1 : imgsOf p.held (l.take (i + 1)) = imgsOf p.held (l.take i) ++ [(l[i], f.bytes)] := by
      rw [take_snoc' hil]
      unfold imgsOf
      rw [List.map_append]
      simp [hf]
    refine s_append (size := 2) (by decide) (by decide) ((ho.qt q2).qt ((Frm.refl w2).alloc _)) (m := 1) (news := [int l[i], str f.bytes]) ⟨rfl, _, _, rfl, Nat.le_refl _, fun _ => ⟨_, 0, _, _, rfl, hp_alloc_new, rfl⟩⟩ (by simp [Value.oneCell', str]) (by omega) (fun lv' w3 ho3 f3 hb3 _ => ?_)
    have q3 : Qt w w3 := (q1.trans (q2.alloc _)).trans' f3 (fun k o hk _ e => by have := hfr k e; have := lt_of hk; omega)
    have hfr3 := q3.all (h.frs _ (pget_mem hf))
    have hfr3' : w3.heap[f.blk]? = some (.cells [str f.bytes, int f.pins, .bool f.dirty].toArray T.pool_frame (0, 0)) := hfr3
    refine run_i (p_nil _) ?_
    refine run_i s_field ?_
    refine run_i (s_load (cellAt_l hfr3' rfl)) ?_
    refine page_LSN_c (by omega) ?_
    refine run_i s_max ?_
    refine run_i (p_addI (by omega) (by omega) _) ?_
    refine ⟨⟨q3, i + 1, lv', by omega, ?_, ?_, ?_⟩, ?_⟩
    · rw [e1, topOf_snoc]; rfl
    · rw [e1, wcells_snoc]; exact ho3
    · intro g hg
      have := q1.size
      have := q2.size
      rcases hb3 with e | e
      · exact hfr g (by rw [← e]; exact hg)
      · rw [e] at hg; cases hg; rw [sz_alloc]; omega
    · first | omega | (simp only; omega)
  · have : i = l.length := by omega
    subst this
    rw [List.take_length] at ho ht0 ht1 ⊢
    obtain ⟨la, lc, rfl⟩ := (Rd.of_own ho).shape
    unfold pool_Pool_write_j1
    refine run_i s_len_sl ?_
    by_cases hl0 : l = []
    · have hk := k w1 Ee
      have e0 : pwriteS e s p l = (s, p, 0) := by unfold pwriteS; rw [if_pos hl0]
      rw [e0] at hk
      have hz : l.length = 0 := by rw [hl0]; rfl
      refine run_i (p_eqlT (by omega) _) ?_
      refine cn_ti ?_
      exact hk h1 (e.keep hI (fun k o hk _ => q1.all hk) q1.size) (Mv.of_qt q1) hd (fun _ => Iff.rfl) (hgl.qt q1)
    · have hz : l.length ≠ 0 := fun h => hl0 (List.eq_nil_of_length_eq_zero h)
      refine run_i (p_eqlF (by omega) _) ?_
      refine cn_fi ?_
      refine run_i (p_nil _) ?_
      refine run_i s_field ?_
      have hat1 : w1.heap[b]? = some (.cells [e.av, int p.frames, e.fl, hv, uv].toArray T.pool_Pool (0, 0)) := h1.map.at_
      refine run_i (s_load (cellAt_l hat1 rfl)) ?_
      have hI1 : e.I s Ee w1 := e.keep hI (fun k o hk _ => q1.all hk) q1.size
      refine e.cFlush hI1 (hgl.qt q1) ht1 (fun w2 E2 hI2 m2 => ?_)
      have hpx : ∀ k, poolX b hv uv p.held k → ¬ Ee k := hd
      have h2 := h1.mv m2 hpx
      have hd2 : ∀ k, poolX b hv uv p.held k → ¬ E2 k := fun k hk => m2.out (h1.live hk) (hpx k hk)
      have hg2 : Glob w2 := (hgl.qt q1).mv m2 (e.no0 hI)
      obtain ⟨r, hr⟩ : ∃ r, r = e.flu s (topOf (imgsOf p.held l)) := ⟨_, rfl⟩
      rw [← hr] at hI2 ⊢
      have hM2 : Mv w (fun k => poolX b hv uv p.held k ∨ Ee k) w2 (fun k => poolX b hv uv p.held k ∨ E2 k) := (Mv.of_qt q1).trans m2.right
      by_cases hr0 : r.2 = 0
      · have hlvE : ∀ g, (Value.slice la l.length lc).ownBlock = some g → g < w1.heap.size ∧ ¬ Ee g := fun g hg => by
          obtain ⟨x, hx⟩ := ho.block hg
          refine ⟨lt_of hx, fun hE => ?_⟩
          have := e.live hI hE
          have := hfr g hg
          omega
        have ho2 : Own w2 T.twin_Image 2 (.slice la l.length lc) l.length (wcells (imgsOf p.held l)) := ho.mv m2 (fun g hg => (hlvE g hg).2)
        rw [hr0]
        refine run_i (p_neqF (by omega) _) ?_
        refine cn_fi ?_
        refine run_i (p_nil _) ?_
        refine run_i s_field ?_
        have hat2 : w2.heap[b]? = some (.cells [e.av, int p.frames, e.fl, hv, uv].toArray T.pool_Pool (0, 0)) := h2.map.at_
        refine run_i (s_load (cellAt_l hat2 rfl)) ?_
        have himl : (imgsOf p.held l).length = l.length := by simp [imgsOf]
        have hlvS : ∀ g o n cap, (Value.slice la l.length lc) = .slice (some ⟨g, o, none⟩) n cap → (Value.slice la l.length lc).ownBlock = some g := by
          rintro g o n cap ⟨⟩; rfl
        refine e.cWrite (l := imgsOf p.held l) hI2 hg2 (by rw [himl]; exact .of_own ho2) (fun g o n cap hv => m2.out (hlvE g (hlvS _ _ _ _ hv)).1 (hlvE g (hlvS _ _ _ _ hv)).2) (by omega) ?_ (fun w3 E3 hI3 m3 => ?_)
        · intro x hx
          unfold imgsOf at hx
          obtain ⟨n, hn, rfl⟩ := List.mem_map.1 hx
          obtain ⟨f, hf⟩ := hin n hn
          rw [hf]
          exact hok _ (pget_mem hf)
        · have h3 := h2.mv m3 hd2
          have hd3 : ∀ k, poolX b hv uv p.held k → ¬ E3 k := fun k hk => m3.out (h2.live hk) (hd2 k hk)
          have hg3 : Glob w3 := hg2.mv m3 (e.no0 hI2)
          obtain ⟨r2, hr2⟩ : ∃ r2, r2 = e.wr r.1 (imgsOf p.held l) := ⟨_, rfl⟩
          rw [← hr2] at hI3 ⊢
          have hM3 : Mv w (fun k => poolX b hv uv p.held k ∨ Ee k) w3 (fun k => poolX b hv uv p.held k ∨ E3 k) := hM2.trans m3.right
          by_cases hr20 : r2.2 = 0
          · rw [hr20]
            refine run_i (p_neqF (by omega) _) ?_
            refine cn_fi ?_
            refine run_i s_len_sl ?_
            have hpw : pwriteS e s p l = (r2.1, { p with held := l.foldl cleanF p.held }, 0) := by
              unfold pwriteS
              rw [if_neg hl0]
              simp only [← hr, hr0, ne_eq, not_true, if_false, ← hr2, hr20]
            have hpb3 : ∀ g o n cap, Value.slice sa l.length sc = .slice (some ⟨g, o, none⟩) n cap → ¬ poolX b hv uv p.held g := fun g o n cap hv => (hpb g o n cap hv).1
            have hpv3 : Rd w3 T.i64_2 1 (.slice sa l.length sc) l.length (icells l) := by
              have hp1 := hpv.qt q1
              have hp2 := hp1.mv m2 (fun g o n cap hv => (hpb g o n cap hv).2)
              refine hp2.mv m3 (fun g o n cap hv => ?_)
              have h0 : 0 < l.length := by omega
              obtain ⟨_, a, c, e1, _, hr⟩ := hp1
              obtain ⟨g', o', l', fz, e2, hb, _⟩ := hr h0
              rw [hv] at e1
              cases e1
              cases e2
              exact m2.out (lt_of hb) (hpb _ _ _ _ hv).2
            -- the pages are clean
            refine Lp_inv (pool_Pool_write_l3_mono K) (fun st w' => ∃ i : Nat, i ≤ l.length ∧ st = ([], .pointer (some ⟨b, 0, none⟩), .slice sa l.length sc, int l.length, int i) ∧
                PoolRep w' b e.av e.fl hv uv { p with held := (l.take i).foldl cleanF p.held } ∧ Mv w3 (poolX b hv uv p.held) w' (poolX b hv uv p.held) ∧ (∀ k, poolX b hv uv ((l.take i).foldl cleanF p.held) k ↔ poolX b hv uv p.held k))
              (fun st _ => match st.2.2.2.2 with | .int _ k => (l.length - k).toNat | _ => 0) ⟨0, by omega, rfl, h3, .refl, fun _ => Iff.rfl⟩ ?_
            rintro st w4 ⟨i, hi, rfl, h4, m4, hx4⟩
            unfold pool_Pool_write_l3
            refine run_i (p_lss _) ?_
            refine cnd_dec (fun hc => ?_) (fun hc => ?_)
            · have hil : i < l.length := by omega
              obtain ⟨f, hf⟩ := hin _ (List.getElem_mem hil)
              obtain ⟨f', hf', hfb, _, _⟩ := cleanFs_get (l.take i) hf
              refine (hpv3.mv m4 hpb3).load (u := int l[i]) hil (by simp [icells, hil]) SliceC.get PlainC.get rfl ?_
              refine run_i (p_nil _) ?_
              refine run_i s_field ?_
              refine h4.get (fun w5 q5 => ?_)
              simp only [hf']
              have h5 := h4.qt q5
              have hfr5 : w5.heap[f'.blk]? = some (.cells [str f'.bytes, int f'.pins, .bool f'.dirty].toArray T.pool_frame (0, 0)) := h5.frs _ (pget_mem hf')
              refine run_i (s_extract rfl) ?_
              refine run_i (s_extract rfl) ?_
              refine run_i (p_nil _) ?_
              refine run_i s_field ?_
              refine runU_i (s_store hfr5 rfl (by simp <;> omega)) ?_
              refine run_i (p_addI (by omega) (by omega) _) ?_
              have h6 := h5.clean hf'
              have e6 : (l.take (i + 1)).foldl cleanF p.held = cleanF ((l.take i).foldl cleanF p.held) l[i] := by rw [take_snoc' hil, List.foldl_append]; rfl
              refine ⟨⟨i + 1, by omega, rfl, by rw [e6]; exact h6, m4.trans ((Mv.of_qt q5).trans ⟨(Frm.refl w5).put_may _ (fun _ _ => ?_), fun _ h => .inl h⟩), ?_⟩, ?_⟩
              · refine (hx4 _).1 (.inr (.inr (.inr ⟨_, pget_mem hf', rfl⟩)))
              · intro k
                rw [e6, ← hx4 k]
                unfold poolX
                rw [cleanF_blk h5.map.sorted]
              · first | omega | (simp only; omega)
            · have : i = l.length := by omega
              subst this
              rw [List.take_length] at h4 hx4
              unfold pool_Pool_write_j2
              skip
              have hk := k w4 E3
              rw [hpw] at hk
              refine hk h4 (e.keep hI3 (fun k o hk hE => m4.keep hk (fun hx => hd3 k hx hE)) m4.size) (hM3.trans (m4.left)) hd3 hx4 (hg3.mv m4 hx0)
          · refine run_i (p_neqT (by omega) _) ?_
            refine cn_ti ?_
            have hpw : pwriteS e s p l = (r2.1, p, r2.2) := by
              unfold pwriteS
              rw [if_neg hl0]
              simp only [← hr, hr0, ne_eq, not_true, if_false, ← hr2, hr20, not_false_eq_true, if_true]
            have hk := k w3 E3
            rw [hpw] at hk
            exact hk h3 hI3 hM3 hd3 (fun _ => Iff.rfl) hg3
      · refine run_i (p_neqT (by omega) _) ?_
        refine cn_ti ?_
        have hpw : pwriteS e s p l = (r.1, p, r.2) := by
          unfold pwriteS
          rw [if_neg hl0]
          simp only [← hr, hr0, ne_eq, not_false_eq_true, if_true]
        have hk := k w2 E2
        rw [hpw] at hk
        exact hk h2 hI2 hM2 hd2 (fun _ => Iff.rfl) hg2
end Go.Sx
end

section
/- Pools: a page goes, a page is pinned, put. -/
set_option linter.unusedVariables false
set_option linter.unusedSimpArgs false
set_option maxRecDepth 100000
namespace Go.Sx
open Go Go.RowKit
variable {K : Value → World → Prop} {w : World} {e : PEnv}

structure SysX (e : PEnv) (w : World) (b : Nat) (hv uv : Value) (Ee : Cov) (s : e.σ) (p : PoolS) : Prop where
  rep : PoolRep w b e.av e.fl hv uv p
  inv : e.I s Ee w
  glob : Glob w
  dis : ∀ k, poolX b hv uv p.held k → ¬ Ee k

/-- what a pool and its surroundings cover -/
def covX (b : Nat) (hv uv : Value) (h : List (Int × Frame1)) (Ee : Cov) : Cov := fun k => poolX b hv uv h k ∨ Ee k

theorem SysX.qt {w' : World} {b : Nat} {hv uv : Value} {Ee : Cov} {s : e.σ} {p : PoolS} (h : SysX e w b hv uv Ee s p) (q : Qt w w') : SysX e w' b hv uv Ee s p :=
  ⟨h.rep.qt q, e.keep h.inv (fun k o hk _ => q.all hk) q.size, h.glob.qt q, h.dis⟩

/-- the pool alone moved -/
theorem SysX.pool {w' : World} {b : Nat} {hv uv hv' uv' : Value} {Ee : Cov} {s : e.σ} {p p' : PoolS} (h : SysX e w b hv uv Ee s p) (r : PoolRep w' b e.av e.fl hv' uv' p') (m : Mv w (poolX b hv uv p.held) w' (poolX b hv' uv' p'.held)) :
    SysX e w' b hv' uv' Ee s p' ∧ Mv w (covX b hv uv p.held Ee) w' (covX b hv' uv' p'.held Ee) :=
  ⟨⟨r, e.keep h.inv (fun k o hk hE => m.keep hk (fun hx => h.dis k hx hE)) m.size, h.glob.mv m (h.rep.no0 h.glob), fun k hx hE => (m.grow k hx).elim (fun hx => h.dis k hx hE) (fun hs => by have := e.live h.inv hE; omega)⟩, m.left⟩

/-- all held pages are pages. -/
def Pages (e : PEnv) (h : List (Int × Frame1)) : Prop := ∀ x ∈ h, 0 ≤ x.1 ∧ x.1 < e.pages ∧ WholeT x.2.bytes

theorem write_c {b : Nat} {hv uv pv : Value} {p : PoolS} {s : e.σ} {Ee : Cov} {l : List Int} (h : SysX e w b hv uv Ee s p)
    (hpv : Rd w T.i64_2 1 pv l.length (icells l)) (hpb : ∀ g o n cap, pv = .slice (some ⟨g, o, none⟩) n cap → ¬ covX b hv uv p.held Ee g) (hl : l.length ≤ 1000) (hin : ∀ n ∈ l, ∃ f, pget p.held n = some f) (hok : Pages e p.held)
    (k : ∀ w' Ee', SysX e w' b hv uv Ee' (pwriteS e s p l).1 (pwriteS e s p l).2.1 → Mv w (covX b hv uv p.held Ee) w' (covX b hv uv (pwriteS e s p l).2.1.held Ee') → K (int (pwriteS e s p l).2.2) w') :
    call Pg F.pool_Pool_write [.pointer (some ⟨b, 0, none⟩), pv] K w :=
  write_x h.rep h.inv h.glob h.dis hpv (fun g o n cap hv => ⟨fun hx => hpb g o n cap hv (.inl hx), fun hx => hpb g o n cap hv (.inr hx)⟩) hl hin hok fun w' Ee' a1 a2 a3 a4 a5 a6 =>
    k w' Ee' ⟨a1, a2, a6, fun k hx => a4 k ((a5 k).1 hx)⟩ (a3.congr (fun _ => Iff.rfl) (fun k => by unfold covX; rw [a5 k]))

def poutS (e : PEnv) (s : e.σ) (p : PoolS) (n : Int) (f : Frame1) : e.σ × PoolS × Int :=
  let r := if f.dirty then pwriteS e s p [n] else (s, p, 0)
  if r.2.2 ≠ 0 then r else (r.1, { r.2.1 with held := delF r.2.1.held n, used := r.2.1.used.erase n }, 0)

theorem pwriteS_get {s : e.σ} {p : PoolS} {l : List Int} {n : Int} {f : Frame1} (hg : pget p.held n = some f) : ∃ f', pget (pwriteS e s p l).2.1.held n = some f' ∧ f'.blk = f.blk ∧ f'.bytes = f.bytes ∧ f'.pins = f.pins := by
  unfold pwriteS
  split
  · exact ⟨f, hg, rfl, rfl, rfl⟩
  · simp only
    split
    · exact ⟨f, hg, rfl, rfl, rfl⟩
    · split
      · exact ⟨f, hg, rfl, rfl, rfl⟩
      · exact cleanFs_get l hg

theorem out_c {b : Nat} {hv uv : Value} {p : PoolS} {s : e.σ} {Ee : Cov} {n : Int} {f : Frame1} (h : SysX e w b hv uv Ee s p) (hg : pget p.held n = some f) (hok : Pages e p.held)
    (k : ∀ w' hv' uv' Ee', SysX e w' b hv' uv' Ee' (poutS e s p n f).1 (poutS e s p n f).2.1 → Mv w (covX b hv uv p.held Ee) w' (covX b hv' uv' (poutS e s p n f).2.1.held Ee') → K (int (poutS e s p n f).2.2) w') :
    call Pg F.pool_Pool_out [.pointer (some ⟨b, 0, none⟩), int n, .pointer (some ⟨f.blk, 0, none⟩)] K w := by
  have hf : w.heap[f.blk]? = some (.cells [str f.bytes, int f.pins, .bool f.dirty].toArray T.pool_frame (0, 0)) := h.rep.frs _ (pget_mem hg)
  refine pool_Pool_out_call ?_
  unfold pool_Pool_out
  unfold poutS at k
  cases hdy : f.dirty with
  | false =>
    rw [hdy] at hf k
    simp only [Bool.false_eq_true, if_false, ne_eq, not_true] at k
    refine run_i (p_nil _) ?_
    refine run_i s_field ?_
    refine run_i (s_load (cellAt_l hf rfl)) ?_
    refine cn_fi ?_
    refine out_j1_x h.rep hg (fun w' hv' uv' r m => ?_)
    obtain ⟨a1, a2⟩ := h.pool r m
    exact k w' hv' uv' Ee a1 a2
  | true =>
    rw [hdy] at hf k
    simp only [if_true] at k
    refine run_i (p_nil _) ?_
    refine run_i s_field ?_
    refine run_i (s_load (cellAt_l hf rfl)) ?_
    refine cn_ti ?_
    refine run_i (s_build1 (by decide) (by decide) (by kernel_rfl)) ?_
    have q1 : Qt w (w.alloc (.cells [int n].toArray T.i64_2)) := (Frm.refl w).alloc _
    have h1 := h.qt q1
    refine write_c (l := [n]) h1 ⟨rfl, _, _, rfl, Nat.le_refl _, fun _ => ⟨_, 0, _, _, rfl, hp_alloc_new, rfl⟩⟩ ?_ (by simp) (fun m hm => ?_) hok (fun w2 E2 h2 m2 => ?_)
    · rintro g o n' cap ⟨⟩
      rintro (hx | hx)
      · have := h.rep.live hx; simp at this
      · have := e.live h.inv hx; simp at this
    · simp at hm; subst hm; exact ⟨f, hg⟩
    · obtain ⟨r, hr⟩ : ∃ r, r = pwriteS e s p [n] := ⟨_, rfl⟩
      have hget := pwriteS_get (e := e) (s := s) (l := [n]) hg
      rw [← hr] at h2 m2 k hget ⊢
      have m2' := (Mv.of_qt q1).trans m2
      by_cases hr0 : r.2.2 = 0
      · rw [hr0]
        simp only [hr0, ne_eq, not_true, if_false] at k
        obtain ⟨f', hf', hb', _, _⟩ := hget
        refine run_i (p_neqF (by omega) _) ?_
        refine cn_fi ?_
        refine out_j1_x h2.rep hf' (fun w' hv' uv' r m => ?_)
        obtain ⟨a1, a2⟩ := h2.pool r m
        exact k w' hv' uv' E2 a1 (m2'.trans a2)
      · simp only [ne_eq, hr0, not_false_eq_true, if_true] at k
        refine run_i (p_neqT (by omega) _) ?_
        refine cn_ti ?_
        refine lv_i ?_
        exact k w2 hv uv E2 h2 m2'

/-- who goes: the one used longest ago that isn't pinned. -/
def free1 (p : PoolS) (n : Int) : Bool := match pget p.held n with | some f => decide (f.pins = 0) | none => false
def victim (p : PoolS) : Option Int := p.used.find? (free1 p)
def pspaceS (e : PEnv) (s : e.σ) (p : PoolS) : e.σ × PoolS × Int :=
  if (p.held.length : Int) < p.frames then (s, p, 0) else
  match victim p with
  | some n => match pget p.held n with
    | some f => poutS e s p n f
    | none => (s, p, 0)
  | none => (s, p, 10)

theorem recents_tell {p : Nat} {lv : Value} {l : List Int} (hf : l.length ≤ 1000000) :
    Tells Pg F.order_Recent_int_Oldest_c1 [.pointer (some ⟨p, 0, none⟩)] l.length (fun i => [int (l.getD i 0)])
      (fun w => w.heap[p]? = some (.cells [lv].toArray T.s_i64 (0, 0)) ∧ Rd w T.i64_2 1 lv l.length (icells l)) := by
  intro J K y w h0 hrd hq step done
  refine order_Recent_int_Oldest_c1_callS ?_
  unfold order_Recent_int_Oldest_c1
  obtain ⟨hp, hr⟩ := hrd _ _ h0
  obtain ⟨sa, sc, rfl⟩ := hr.shape
  refine run_i (s_load (cellAt_l hp rfl)) ?_
  refine run_i s_len_sl ?_
  refine Lp_inv (order_Recent_int_Oldest_c1_l1_mono K) (fun st w' => ∃ i : Nat, i ≤ l.length ∧ st = ([], y, .slice sa l.length sc, int l.length, int i) ∧ J i w')
    (fun st _ => match st.2.2.2.2 with | .int _ k => (l.length - k).toNat | _ => 0) ⟨0, by omega, rfl, h0⟩ ?_
  rintro st w' ⟨i, hi, rfl, hJ⟩
  unfold order_Recent_int_Oldest_c1_l1
  refine run_i (p_lss _) ?_
  refine cnd_dec (fun hc => ?_) (fun hc => ?_)
  · have hil : i < l.length := by omega
    obtain ⟨hp, hr⟩ := hrd _ _ hJ
    refine hr.load (u := int l[i]) hil (by simp [icells, hil]) SliceC.get PlainC.get rfl ?_
    have e0 : l.getD i 0 = l[i] := by simp [List.getD, hil]
    have := step i _ hil hJ
    simp only [e0] at this
    refine this _ ?_ ?_
    · intro w2 h2
      refine run_i (p_not _) ?_
      refine cn_fi ?_
      refine run_i (p_addI (by omega) (by omega) _) ?_
      refine ⟨⟨i + 1, by omega, rfl, h2⟩, ?_⟩
      first | omega | (simp only; omega)
    · intro w2 h2
      refine run_i (p_not _) ?_
      refine cn_ti ?_
      exact h2
  · have : i = l.length := by omega
    subst this
    skip
    exact done w' hJ
end Go.Sx
end

section
/- Pools: room, Pin. -/
set_option linter.unusedVariables false
set_option linter.unusedSimpArgs false
set_option maxRecDepth 100000
namespace Go.Sx
open Go Go.RowKit
variable {K : Value → World → Prop} {w : World} {e : PEnv}

theorem SysX.away {w' : World} {b : Nat} {hv uv : Value} {Ee A : Cov} {s : e.σ} {p : PoolS} (h : SysX e w b hv uv Ee s p) (f : Frm (fun k _ => A k) w w') (hA : ∀ k, covX b hv uv p.held Ee k → ¬ A k) (h0 : ¬ A 0) : SysX e w' b hv uv Ee s p := by
  refine ⟨h.rep.keep (fun k o hk hx => f.keep _ _ hk (hA k (.inl hx))), e.keep h.inv (fun k o hk hE => f.keep _ _ hk (hA k (.inr hE))) f.size, ?_, h.dis⟩
  obtain ⟨fz, hg⟩ := h.glob
  exact ⟨fz, f.keep _ _ hg h0⟩
theorem Mv.after {w w2 w3 : World} {E E2 A : Cov} (m : Mv w E w2 E2) (f : Frm (fun k _ => A k) w2 w3) (hA : ∀ k, A k → w.heap.size ≤ k) : Mv w E w3 E2 :=
  ⟨m.frm.trans' f fun k o hk _ h => by have := hA k h; have := lt_of hk; omega, m.grow⟩
theorem SysX.live {b : Nat} {hv uv : Value} {Ee : Cov} {s : e.σ} {p : PoolS} (h : SysX e w b hv uv Ee s p) {k : Nat} (hk : covX b hv uv p.held Ee k) : k < w.heap.size := hk.elim h.rep.live (e.live h.inv)

structure SpaceX (e : PEnv) (w : World) (b c2 D : Nat) (E : Cov) (r : e.σ × PoolS × Int) (w2 : World) : Prop where
  ex : ∃ hv uv Ee, SysX e w2 b hv uv Ee r.1 r.2.1 ∧ Mv w E w2 (covX b hv uv r.2.1.held Ee) ∧ (∀ k, k = c2 ∨ k = D ∨ k = D + 1 → ¬ covX b hv uv r.2.1.held Ee k)
  cell : w2.heap[c2]? = some (.cells [int r.2.2].toArray T.api_Errno (0, 0))

theorem SpaceX.away {e : PEnv} {w w2 w3 : World} {b c2 D j : Nat} {E : Cov} {r : e.σ × PoolS × Int} (h : SpaceX e w b c2 D E r w2) (f : Frm (fun k _ => k = j) w2 w3) (hj : j = D ∨ j = D + 1) (h1 : c2 ≠ j) (h2 : w.heap.size ≤ D) (h3 : 0 < D) : SpaceX e w b c2 D E r w3 := by
  obtain ⟨⟨hv, uv, Ee, a1, a2, a3⟩, a4⟩ := h
  refine ⟨⟨hv, uv, Ee, a1.away (A := fun k => k = j) f (fun k hk e => a3 k (by omega) hk) (by omega), a2.after f (fun k e => by omega), a3⟩, f.keep _ _ a4 h1⟩

set_option maxHeartbeats 1000000 in
theorem space_c {b : Nat} {hv uv : Value} {p : PoolS} {s : e.σ} {Ee : Cov} (h : SysX e w b hv uv Ee s p) (hin : ∀ n ∈ p.used, (pget p.held n).isSome = true) (hok : Pages e p.held)
    (k : ∀ w' hv' uv' Ee', SysX e w' b hv' uv' Ee' (pspaceS e s p).1 (pspaceS e s p).2.1 → Mv w (covX b hv uv p.held Ee) w' (covX b hv' uv' (pspaceS e s p).2.1.held Ee') → K (int (pspaceS e s p).2.2) w') :
    call Pg F.pool_Pool_space [.pointer (some ⟨b, 0, none⟩)] K w := by
  have ha := h.rep.map.at_
  have lb := lt_of ha
  refine pool_Pool_space_call ?_
  unfold pool_Pool_space
  refine run_i s_box ?_
  refine run_i s_alloc ?_
  obtain ⟨W, hW⟩ : ∃ W, W = ((w.alloc (.cells [.pointer (some ⟨b, 0, none⟩)].toArray 31)).alloc (.cells [int 0].toArray 25)).drew := ⟨_, rfl⟩
  obtain ⟨c1, hc1⟩ : ∃ c, c = w.heap.size := ⟨_, rfl⟩
  obtain ⟨c2, hc2⟩ : ∃ c, c = (w.alloc (.cells [.pointer (some ⟨b, 0, none⟩)].toArray 31)).heap.size := ⟨_, rfl⟩
  have e21 : c2 = c1 + 1 := by rw [hc2, hc1, sz_alloc]
  rw [← hW, ← hc1, ← hc2]
  have q0 : Qt w W := by rw [hW]; (refine ((((Frm.refl _).alloc _).alloc _).drew))
  have g1 : W.heap[c1]? = some (.cells [.pointer (some ⟨b, 0, none⟩)].toArray T.p_pool_Pool (0, 0)) := by rw [hW, hc1]; (exact (drew_at (old hp_alloc_new)))
  have g2 : W.heap[c2]? = some (.cells [int 0].toArray T.api_Errno (0, 0)) := by rw [hW, hc2]; (exact (drew_at hp_alloc_new))
  have hs := q0.size
  have hr := h.qt q0
  have gb : W.heap[b]? = some (.cells [e.av, int p.frames, e.fl, hv, uv].toArray T.pool_Pool (0, 0)) := hr.rep.map.at_
  have m1 := lt_of g1
  have m2 := lt_of g2
  have mb := lt_of gb
  refine ⟨fun w' => w'.heap = W.heap, rfl, ?_⟩
  refine rnR_i (s_load (cellAt_l g1 rfl)) ?_
  refine rnT_i (fun _ => (p_nil _)) ?_
  refine rnT_i (fun _ => s_field) ?_
  refine Len_c hr.rep.map.map ?_
  refine ⟨rfl, ?_⟩
  refine rn_i (fun w' (hS : w'.heap = W.heap) => s_load (cellAt_l (by rw [hS]; exact g1) rfl)) ?_
  refine rnT_i (fun _ => (p_nil _)) ?_
  refine rnT_i (fun _ => s_field) ?_
  refine rn_i (fun w' (hS : w'.heap = W.heap) => s_load (cellAt_l (by rw [hS]; exact gb) rfl)) ?_
  have elen : (ptrs p.held).length = p.held.length := ptrs_len _
  rw [elen]
  by_cases hc : (p.held.length : Int) < p.frames
  · have hp : pspaceS e s p = (s, p, 0) := by unfold pspaceS; rw [if_pos hc]
    rw [hp] at k
    refine rnT_i (fun _ => (p_lssT (by omega) _)) ?_
    refine cn_ti ?_
    refine runU_i (s_store g2 rfl (by simp <;> omega)) ?_
    refine lv_i ?_
    refine rnR_i (s_loadS (cellAt_l (hp_put_same (lt_of g2)) rfl)) ?_
    have q : Qt w (W.putObj c2 (.cells [int 0].toArray T.api_Errno (0, 0))) := q0.put_new _ (by omega)
    exact k _ hv uv Ee (h.qt q) (.of_qt q)
  · refine rnT_i (fun _ => (p_lssF (by omega) _)) ?_
    refine cn_fi ?_
    refine run_i (s_load (cellAt_l g1 rfl)) ?_
    refine run_i (p_nil _) ?_
    refine run_i s_field ?_
    refine Oldest_c hr.rep.list (fun cp lv W1 hcp hcpl hown hlv q1 => ?_)
    have qq : Qt w W1 := q0.trans q1
    have a1 := q1.all g1
    have a2 := q1.all g2
    have hr1 := hr.qt q1
    have s1 := q1.size
    have hrd := Rd.of_own hown
    obtain ⟨D, hD0⟩ : ∃ D, D = W1.heap.size := ⟨_, rfl⟩
    have mcp := lt_of hcp
    have hlen := hr.rep.list.few
    -- how it ends
    have fin : ∀ w', SpaceX e w b c2 D (covX b hv uv p.held Ee) (pspaceS e s p) w' → w'.heap[D]? = some (.deferred (some [])) →
        leaveW Pg [{ target := .collected D, args := #[] }] (fun w => rn Pg (fun w' => w' = w) (loadS 25 (.pointer (some ⟨c2, 0, none⟩))) (fun t w => K t w) w) w' := by
      intro w' hx hD
      refine lv_coll hD ?_
      have hx' := hx.away (j := D) ((Frm.refl w').put_may (.deferred none) (fun _ _ => rfl)) (.inl rfl) (by omega) (by omega) (by omega)
      obtain ⟨⟨hv', uv', Ee', b1, b2, _⟩, b4⟩ := hx'
      refine lv_i ?_
      refine rnR_i (s_loadS (cellAt_l b4 rfl)) ?_
      exact k _ _ _ _ b1 b2
    refine Rng_of (recents_tell (l := p.used) (lv := lv) (p := cp) hlen) (fun i => rfl)
      (fun i w1 => Qt W1 w1 ∧ ∀ j, j < i → (hj : j < p.used.length) → free1 p p.used[j] = false)
      (fun j w2 => j = .ret ∧ SpaceX e w b c2 D (covX b hv uv p.held Ee) (pspaceS e s p) w2) ?_ ?_ ?_ ?_ ?_ ?_ ?_
    · exact fun w' q => ⟨q, fun j hj _ => by omega⟩
    · rintro i w' ⟨q, _⟩
      exact ⟨q.all hcp, hrd.qt q⟩
    · rintro i w1 w2 ob ⟨q, hno⟩ hob ht f
      exact ⟨q.trans' f (fun k o hk _ e => by have := lt_of hk; omega), hno⟩
    · rintro j w1 w2 ob ⟨h1, hx⟩ hob ht f
      rw [← hD0] at f
      exact ⟨h1, hx.away f (.inr rfl) (by omega) (by omega) (by omega)⟩
    · rintro i hi w1 ob B ⟨q, hno⟩ ht hL hD kn ks
      rw [← hD0] at hL hD kn ks
      have e0 : p.used.getD i 0 = p.used[i] := by simp [List.getD, hi]
      dsimp only [List.headD_cons]
      simp only [e0]
      have Q1 : Qt W w1 := q1.trans q
      have b1 := Q1.all g1
      have b2 := Q1.all g2
      have hr2 := hr.qt Q1
      refine run_i (s_load (cellAt_l b1 rfl)) ?_
      refine run_i (p_nil _) ?_
      refine run_i s_field ?_
      refine hr2.rep.get (fun w3 q3 => ?_)
      have hsome := hin _ (List.getElem_mem hi)
      obtain ⟨f, hf⟩ := Option.isSome_iff_exists.1 hsome
      rw [hf]
      have hr3 := hr2.qt q3
      have d1 := q3.all b1
      have d2 := q3.all b2
      have dL := q3.all hL
      have dD := q3.all hD
      have hfr : w3.heap[f.blk]? = some (.cells [str f.bytes, int f.pins, .bool f.dirty].toArray T.pool_frame (0, 0)) := hr3.rep.frs _ (pget_mem hf)
      have Q3 : Qt w w3 := (q0.trans Q1).trans q3
      by_cases hp0 : f.pins = 0
      · refine run_i (s_extract rfl) ?_
        refine run_i (s_extract rfl) ?_
        refine run_i (p_nil _) ?_
        refine run_i s_field ?_
        refine run_i (s_load (cellAt_l hfr rfl)) ?_
        refine run_i (p_eqlT (by omega) _) ?_
        refine cn_ti ?_
        refine run_i (s_load (cellAt_l d1 rfl)) ?_
        have hfi : free1 p p.used[i] = true := by
          unfold free1
          rw [hf]
          exact decide_eq_true hp0
        have hvic : victim p = some p.used[i] := by
          unfold victim
          have e : p.used = p.used.take i ++ p.used[i] :: p.used.drop (i + 1) := by simp
          have e3 : (p.used.take i).find? (free1 p) = none := by
            rw [List.find?_eq_none]
            intro x hx
            obtain ⟨j, hj, rfl⟩ := List.mem_iff_getElem.1 hx
            rw [List.length_take] at hj
            rw [List.getElem_take]
            have := hno j (by omega) (by omega)
            simp [this]
          conv => lhs; rw [e]
          rw [List.find?_append, e3, List.find?_cons, hfi]
          rfl
        have hps : pspaceS e s p = poutS e s p p.used[i] f := by
          unfold pspaceS
          rw [if_neg hc, hvic]
          simp only [hf]
        refine out_c hr3 hf hok (fun w4 hv4 uv4 E4 h4 m4 => ?_)
        have mL3 := lt_of dL
        have mD3 := lt_of dD
        have mc3 := lt_of d2
        have nc : ∀ k, k = c2 ∨ k = D ∨ k = D + 1 → ¬ covX b hv uv p.held Ee k := fun k hk hx => by have := h.live hx; omega
        have n4 : ∀ k, k = c2 ∨ k = D ∨ k = D + 1 → ¬ covX b hv4 uv4 (poutS e s p p.used[i] f).2.1.held E4 k := fun k hk => m4.out (by omega) (nc k hk)
        have e2 := m4.keep d2 (nc _ (.inl rfl))
        have eL := m4.keep dL (nc _ (.inr (.inr rfl)))
        have eD := m4.keep dD (nc _ (.inr (.inl rfl)))
        refine runU_i (s_store e2 rfl (by simp <;> omega)) ?_
        have fc : Frm (fun k _ => k = c2) w4 (w4.putObj c2 (.cells [int (poutS e s p p.used[i] f).2.2].toArray T.api_Errno (0, 0))) := (Frm.refl w4).put_may _ (fun _ _ => rfl)
        refine ks .ret _ ⟨rfl, ?_⟩ (put_other eL (by omega)) (put_other eD (by omega))
        rw [hps]
        refine ⟨⟨hv4, uv4, E4, h4.away (A := fun k => k = c2) fc (fun k hk e => n4 k (.inl e) hk) (by omega), ((Mv.of_qt Q3).trans m4).after fc (fun k e => by omega), n4⟩, hp_put_same (lt_of e2)⟩
      · refine run_i (s_extract rfl) ?_
        refine run_i (s_extract rfl) ?_
        refine run_i (p_nil _) ?_
        refine run_i s_field ?_
        refine run_i (s_load (cellAt_l hfr rfl)) ?_
        refine run_i (p_eqlF (by omega) _) ?_
        refine cn_fi ?_
        refine kn _ ⟨q.trans q3, ?_⟩ dL dD
        intro j hj hj'
        by_cases ej : j = i
        · subst ej
          unfold free1
          rw [hf]
          exact decide_eq_false hp0
        · exact hno j (by omega) hj'
    · rintro w2 ⟨q, hno⟩ hD
      rw [← hD0] at hD ⊢
      dsimp only [jumpN]
      have b2 := q.all a2
      have hvic : victim p = none := by
        unfold victim
        rw [List.find?_eq_none]
        intro x hx
        obtain ⟨j, hj, rfl⟩ := List.mem_iff_getElem.1 hx
        have := hno j (by omega) hj
        simp [this]
      have hps : pspaceS e s p = (s, p, 10) := by
        unfold pspaceS
        rw [if_neg hc, hvic]
      have lD := lt_of hD
      have sq := q.size
      refine runU_i (s_store b2 rfl (by simp <;> omega)) ?_
      have Q : Qt w (w2.putObj c2 (.cells [int 10].toArray T.api_Errno (0, 0))) := (qq.trans q).put_new _ (by omega)
      refine fin _ ?_ (put_other hD (by omega))
      rw [hps]
      exact ⟨⟨hv, uv, Ee, h.qt Q, .of_qt Q, fun k hk hx => by have := h.live hx; omega⟩, hp_put_same (lt_of b2)⟩
    · rintro j w2 ⟨rfl, hx⟩ hD
      rw [← hD0] at hD ⊢
      exact fin _ hx hD
end Go.Sx
end

section
/- Pools: Pin, Put, Evict, Flush; all by what a pool stands for. -/
set_option linter.unusedVariables false
set_option linter.unusedSimpArgs false
set_option maxRecDepth 100000
namespace Go.Sx
open Go Go.RowKit
variable {K : Value → World → Prop} {w : World} {e : PEnv}

/-! ### what is plain of them -/
theorem imgs_ps (h : List (Int × Frame1)) (l : List Int) : imgsP (h.map fun x => (x.1, x.2.fr)) l = imgsOf h l := by
  unfold imgsP imgsOf
  apply List.map_congr_left
  intro n _
  rw [fget_ps, Option.map_map]; rfl
theorem clean_ps (h : List (Int × Frame1)) (n : Int) : (cleanF h n).map (fun x => (x.1, x.2.fr)) = cleanP (h.map fun x => (x.1, x.2.fr)) n := by
  unfold cleanF cleanP
  rw [fget_ps]
  cases pget h n with
  | none => rfl
  | some f => exact fset_ps h n { f with dirty := false }
theorem cleans_ps (l : List Int) : ∀ h : List (Int × Frame1), (l.foldl cleanF h).map (fun x => (x.1, x.2.fr)) = l.foldl cleanP (h.map fun x => (x.1, x.2.fr)) := by
  induction l with
  | nil => intro h; rfl
  | cons n l ih => intro h; rw [List.foldl_cons, List.foldl_cons, ih, clean_ps]
theorem pwrite_ps (s : e.σ) (p : PoolS) (l : List Int) : pwrite e s p.ps l = ((pwriteS e s p l).1, (pwriteS e s p l).2.1.ps, (pwriteS e s p l).2.2) := by
  unfold pwrite pwriteS
  split
  · rfl
  · have h0 : imgsP p.ps.held l = imgsOf p.held l := imgs_ps _ _
    simp only [h0]
    split
    · rfl
    · split
      · rfl
      · refine Prod.ext rfl (Prod.ext ?_ rfl)
        unfold PoolS.ps
        rw [cleans_ps]
theorem pout_ps (s : e.σ) (p : PoolS) (n : Int) {f : Frame1} (hg : pget p.held n = some f) : pout e s p.ps n = ((poutS e s p n f).1, (poutS e s p n f).2.1.ps, (poutS e s p n f).2.2) := by
  unfold pout poutS
  have h0 : ((fget p.ps.held n).map FrT.dirty).getD false = f.dirty := by
    have : fget p.ps.held n = (pget p.held n).map Frame1.fr := fget_ps _ _
    rw [this, hg]; rfl
  rw [h0]
  have h1 : (if f.dirty then pwrite e s p.ps [n] else (s, p.ps, 0)) = ((if f.dirty then pwriteS e s p [n] else (s, p, 0)).1, (if f.dirty then pwriteS e s p [n] else (s, p, 0)).2.1.ps, (if f.dirty then pwriteS e s p [n] else (s, p, 0)).2.2) := by
    split
    · exact pwrite_ps s p [n]
    · rfl
  rw [h1]
  generalize (if f.dirty then pwriteS e s p [n] else (s, p, 0)) = r
  simp only
  split
  · rfl
  · refine Prod.ext rfl (Prod.ext ?_ rfl)
    simp only [PoolS.ps]
    rw [fdel_ps]
theorem free1_ps (p : PoolS) (n : Int) : free1P p.ps n = free1 p n := by
  unfold free1P free1
  have : fget p.ps.held n = (pget p.held n).map Frame1.fr := fget_ps _ _
  rw [this]
  cases pget p.held n <;> rfl
theorem victim_ps (p : PoolS) : pvictim p.ps = victim p := by
  unfold pvictim victim
  have : free1P p.ps = free1 p := funext (free1_ps p)
  rw [this]; rfl
theorem victim_held {p : PoolS} {n : Int} (h : victim p = some n) : ∃ f, pget p.held n = some f := by
  unfold victim at h
  have := List.find?_some h
  unfold free1 at this
  cases hg : pget p.held n with
  | none => rw [hg] at this; cases this
  | some f => exact ⟨f, rfl⟩
theorem pspace_ps (s : e.σ) (p : PoolS) : pspace e s p.ps = ((pspaceS e s p).1, (pspaceS e s p).2.1.ps, (pspaceS e s p).2.2) := by
  unfold pspace pspaceS
  have h0 : p.ps.held.length = p.held.length := by simp [PoolS.ps]
  rw [h0]
  have h1 : p.ps.frames = p.frames := rfl
  rw [h1]
  split
  · rfl
  · rw [victim_ps]
    cases hv : victim p with
    | none => rfl
    | some n =>
      obtain ⟨f, hf⟩ := victim_held hv
      simp only [hf]
      exact pout_ps s p n hf

theorem fetched_ps {p : PoolS} {i : Nat} {n : Int} {t : Text} {blk : Nat} (hsp : Spot (ptrs p.held) n i) (hpg : pget p.held n = none) :
    (p.fetched i n t blk).ps = puse { p.ps with held := fins p.ps.held n ⟨t, 0, false⟩ } n ⟨t, 0, false⟩ := by
  have hne : ∀ j (hj : j < p.held.length), (p.held[j]).1 ≠ n := by
    intro j hj e
    unfold pget at hpg
    simp only [Option.map_eq_none_iff, List.find?_eq_none, decide_eq_true_eq] at hpg
    exact hpg _ (List.getElem_mem hj) e
  have hk : ∀ j (hj : j < p.held.length), ((ptrs p.held)[j]'(by rw [ptrs_len]; exact hj)).1 = (p.held[j]).1 := by intro j hj; simp [ptrs]
  have h1 : ins p.held i (n, (⟨t, 0, false, blk⟩ : Frame1)) = (p.held.filter fun y => decide (y.1 < n)) ++ (n, ⟨t, 0, false, blk⟩) :: p.held.filter fun y => decide (n < y.1) := by
    refine ins_filter (fun y => y.1) p.held i n _ (fun j h1 h2 => ?_) (fun j h1 h2 => ?_)
    · have := hsp.lo j h1 (by rw [ptrs_len]; exact h2)
      rw [hk j h2] at this; exact this
    · have := hsp.hi j h1 (by rw [ptrs_len]; exact h2)
      rw [hk j h2] at this
      have := hne j h2
      show n < (p.held[j]).1
      omega
  unfold PoolS.fetched PoolS.ps puse
  simp only
  rw [fset_ps, h1]
  congr 2
  unfold fins
  simp only [List.map_append, List.map_cons, List.filter_map]
  rfl

theorem Frame1.fr_set (f : Frame1) (b : Text) (n : Int) (d : Bool) : ({ f with bytes := b, pins := n, dirty := d } : Frame1).fr = ⟨b, n, d⟩ := rfl

theorem pspace_used (s : e.σ) (p : PS) : (pspace e s p).2.1.held.length ≤ p.held.length ∧ (pspace e s p).2.1.used.length ≤ p.used.length := by
  have hw : ∀ l, (pwrite e s p l).2.1.held.length = p.held.length ∧ (pwrite e s p l).2.1.used = p.used := by
    intro l
    have hc : ∀ (l : List Int) (h : List (Int × FrT)), (l.foldl cleanP h).length = h.length := by
      intro l
      induction l with
      | nil => intro h; rfl
      | cons n l ih =>
        intro h
        rw [List.foldl_cons, ih]
        unfold cleanP
        split
        · simp [fset]
        · rfl
    unfold pwrite
    split
    · exact ⟨rfl, rfl⟩
    · simp only
      split
      · exact ⟨rfl, rfl⟩
      · split
        · exact ⟨rfl, rfl⟩
        · exact ⟨hc _ _, rfl⟩
  unfold pspace
  split
  · exact ⟨Nat.le_refl _, Nat.le_refl _⟩
  · split
    · rename_i n _
      unfold pout
      have h2 : ∀ r : e.σ × PS × Int, r.2.1.held.length = p.held.length → r.2.1.used = p.used → (if r.2.2 ≠ 0 then r else (r.1, { r.2.1 with held := fdel r.2.1.held n, used := r.2.1.used.erase n }, 0)).2.1.held.length ≤ p.held.length ∧
          (if r.2.2 ≠ 0 then r else (r.1, { r.2.1 with held := fdel r.2.1.held n, used := r.2.1.used.erase n }, 0)).2.1.used.length ≤ p.used.length := by
        intro r h1 h2
        split
        · exact ⟨by omega, by rw [h2]; exact Nat.le_refl _⟩
        · refine ⟨?_, ?_⟩
          · have := List.length_filter_le (fun x : Int × FrT => !decide (x.1 = n)) r.2.1.held
            simp only [fdel]; omega
          · rw [h2]; exact List.length_erase_le
      simp only
      split
      · exact h2 _ (hw [n]).1 (hw [n]).2
      · exact h2 _ rfl rfl
    · exact ⟨Nat.le_refl _, Nat.le_refl _⟩

theorem pspace_get {s : e.σ} {p : PS} {n : Int} (hn : fget p.held n = none) : fget (pspace e s p).2.1.held n = none := by
  have key : ∀ h : List (Int × FrT), fget h n = none ↔ ∀ x ∈ h, x.1 ≠ n := by
    intro h
    unfold fget
    simp [Option.map_eq_none_iff, List.find?_eq_none]
  rw [key] at hn ⊢
  have hset : ∀ (h : List (Int × FrT)) m f, (∀ x ∈ h, x.1 ≠ n) → ∀ x ∈ fset h m f, x.1 ≠ n := by
    intro h m f hh x hx
    unfold fset at hx
    obtain ⟨y, hy, rfl⟩ := List.mem_map.1 hx
    split <;> exact hh y hy
  have hw : ∀ l, ∀ x ∈ (pwrite e s p l).2.1.held, x.1 ≠ n := by
    intro l
    have hc : ∀ (l : List Int) (h : List (Int × FrT)), (∀ x ∈ h, x.1 ≠ n) → ∀ x ∈ l.foldl cleanP h, x.1 ≠ n := by
      intro l
      induction l with
      | nil => intro h hh; exact hh
      | cons m l ih =>
        intro h hh
        rw [List.foldl_cons]
        refine ih _ ?_
        unfold cleanP
        split
        · exact hset _ _ _ hh
        · exact hh
    unfold pwrite
    split
    · exact hn
    · simp only
      split
      · exact hn
      · split
        · exact hn
        · exact hc _ _ hn
  unfold pspace
  split
  · exact hn
  · split
    · rename_i m _
      unfold pout
      have h2 : ∀ r : e.σ × PS × Int, (∀ x ∈ r.2.1.held, x.1 ≠ n) → ∀ x ∈ (if r.2.2 ≠ 0 then r else (r.1, { r.2.1 with held := fdel r.2.1.held m, used := r.2.1.used.erase m }, 0)).2.1.held, x.1 ≠ n := by
        intro r h1
        split
        · exact h1
        · intro x hx
          exact h1 x (List.mem_filter.1 hx).1
      simp only
      split
      · exact h2 _ (hw [m])
      · exact h2 _ hn
    · exact hn

/-! ### a pool, by what it stands for -/
def Sys (e : PEnv) (w : World) (v : Value) (E : Cov) (s : e.σ) (p : PS) : Prop :=
  ∃ b hv uv Ee q, v = .pointer (some ⟨b, 0, none⟩) ∧ SysX e w b hv uv Ee s q ∧ q.ps = p ∧ E = covX b hv uv q.held Ee

theorem ps_pages {q : PoolS} {most : Int} (h : q.ps.Ok e.pages most) : Pages e q.held := by
  intro x hx
  have := h.page (x.1, x.2.fr) (List.mem_map.2 ⟨x, hx, rfl⟩)
  exact this
theorem ps_used {q : PoolS} {most : Int} (h : q.ps.Ok e.pages most) : ∀ n ∈ q.used, (pget q.held n).isSome = true := by
  intro n hn
  have := h.used n hn
  have e1 : fget q.ps.held n = (pget q.held n).map Frame1.fr := fget_ps _ _
  rw [e1, Option.isSome_map] at this
  exact this
theorem ps_pins {q : PoolS} {most : Int} (h : q.ps.Ok e.pages most) : ∀ x ∈ q.held, 0 ≤ x.2.pins ∧ x.2.pins ≤ most := by
  intro x hx
  exact h.pins (x.1, x.2.fr) (List.mem_map.2 ⟨x, hx, rfl⟩)

/-- short lists -/
structure PS.Few (p : PS) : Prop where
  held : p.held.length < 1000
  used : p.used.length < 1000

set_option maxHeartbeats 1000000 in
theorem Pin_c {v : Value} {E : Cov} {s : e.σ} {p : PS} {n most : Int} (h : Sys e w v E s p) (hok : p.Ok e.pages most) (hm : most < 1000000) (hf : p.Few) (h0 : 0 ≤ n) (h1 : n < e.pages)
    (k : ∀ w' E', Sys e w' v E' (ppin e s p n).1 (ppin e s p n).2.1 → Mv w E w' E' → K (.tuple #[str (ppin e s p n).2.2.1, int (ppin e s p n).2.2.2]) w') :
    call Pg F.pool_Pool_Pin [v, int n] K w := by
  obtain ⟨b, hv, uv, Ee, q, rfl, h, rfl, rfl⟩ := h
  have hpg := ps_pages hok
  have hpu := ps_used hok
  have hpp := ps_pins hok
  have hl1 : q.held.length < 1000 := by have := hf.held; simpa [PoolS.ps] using this
  have hl2 : q.used.length < 1000 := hf.used
  have hps := e.small
  have hat : w.heap[b]? = some (.cells [e.av, int q.frames, e.fl, hv, uv].toArray T.pool_Pool (0, 0)) := h.rep.map.at_
  refine pool_Pool_Pin_call ?_
  unfold pool_Pool_Pin
  refine run_i s_ptr_eql ?_
  refine gc_ffi ?_
  refine run_i (p_lssF (by omega) _) ?_
  unfold pool_Pool_Pin_g3
  refine pk_fi ?_
  refine gc_ffi ?_
  refine run_i (p_nil _) ?_
  refine run_i s_field ?_
  refine run_i (s_load (cellAt_l hat rfl)) ?_
  refine e.cPages h.inv ?_
  refine run_i (p_geqF (by omega) _) ?_
  unfold pool_Pool_Pin_g4
  refine pk_fi ?_
  refine cn_fi ?_
  unfold pool_Pool_Pin_j1
  refine run_i (p_nil _) ?_
  refine run_i s_field ?_
  refine h.rep.get (fun w1 q1 => ?_)
  have h1' := h.qt q1
  have eg : fget q.ps.held n = (pget q.held n).map Frame1.fr := fget_ps _ _
  unfold ppin at k
  rw [eg] at k
  cases hg : pget q.held n with
  | some f =>
    rw [hg] at k
    refine run_i (s_extract rfl) ?_
    refine run_i (s_extract rfl) ?_
    refine run_i (p_not _) ?_
    refine cn_fi ?_
    have hfp := hpp _ (pget_mem hg)
    refine pin_j2_x h1'.rep hg hfp.1 (by simp only at hfp; omega) (by omega) (fun w2 uv2 r2 m2 => ?_)
    obtain ⟨a1, a2⟩ := h1'.pool r2 m2
    refine k w2 _ ⟨b, hv, uv2, Ee, _, rfl, a1, ?_, rfl⟩ ((Mv.of_qt q1).trans a2)
    unfold PoolS.ps puse
    simp only
    rw [fset_ps]; rfl
  | none =>
    rw [hg] at k
    simp only [Option.map_none] at k eg
    rw [hg] at eg
    have hsl := pspace_used (e := e) s q.ps
    have hsn := pspace_get (e := e) (s := s) (p := q.ps) (n := n) eg
    rw [pspace_ps] at k hsl hsn
    refine run_i (s_extract rfl) ?_
    refine run_i (s_extract rfl) ?_
    refine run_i (p_not _) ?_
    refine cn_ti ?_
    refine space_c h1' hpu hpg (fun w2 hv2 uv2 E2 h2 m2 => ?_)
    obtain ⟨r, hr⟩ : ∃ r, r = pspaceS e s q := ⟨_, rfl⟩
    rw [← hr] at h2 m2 k hsl hsn ⊢
    have m2' := (Mv.of_qt q1).trans m2
    by_cases hr0 : r.2.2 = 0
    · rw [hr0]
      simp only [hr0, ne_eq, not_true, if_false] at k
      refine run_i (p_neqF (by omega) _) ?_
      refine cn_fi ?_
      refine run_i (p_nil _) ?_
      refine run_i s_field ?_
      have hat2 : w2.heap[b]? = some (.cells [e.av, int r.2.1.frames, e.fl, hv2, uv2].toArray T.pool_Pool (0, 0)) := h2.rep.map.at_
      refine run_i (s_load (cellAt_l hat2 rfl)) ?_
      refine e.cRead h2.inv h0 h1 (fun w3 q3 => ?_)
      have h3 := h2.qt q3
      have hrl := e.rdLen (n := n) h2.inv
      obtain ⟨t, ht⟩ : ∃ t, t = e.rd r.1 n := ⟨_, rfl⟩
      rw [← ht] at k hrl ⊢
      by_cases ht0 : t.2 = 0
      · rw [ht0]
        simp only [ht0, ne_eq, not_true, if_false] at k
        refine run_i (s_extract rfl) ?_
        refine run_i (s_extract rfl) ?_
        refine run_i (p_neqF (by omega) _) ?_
        refine cn_fi ?_
        refine page_Whole_c (by omega) h3.glob (fun w4 q4 => ?_)
        have h4 := h3.qt q4
        have m4 := m2'.trans (Mv.of_qt (q3.trans q4))
        have hgn : pget r.2.1.held n = none := by
          have e1 : fget r.2.1.ps.held n = (pget r.2.1.held n).map Frame1.fr := fget_ps _ _
          rw [hsn] at e1
          cases hh : pget r.2.1.held n with
          | none => rfl
          | some f => rw [hh] at e1; cases e1
        by_cases hW : WholeT t.1
        · simp only [hW, decide_true, if_true] at k ⊢
          refine run_i (p_not _) ?_
          refine cn_fi ?_
          refine run_i (build_of (cells := #[str t.1, int 0, .bool false]) (by kernel_rfl) _) ?_
          have hl3 : r.2.1.held.length ≤ q.held.length := by have := hsl.1; simpa [PoolS.ps] using this
          have hl4 : r.2.1.used.length ≤ q.used.length := hsl.2
          refine pin_new_x h4.rep hgn (by omega) (by omega) (fun w7 hv7 uv7 i bk hsp h7 m7 => ?_)
          obtain ⟨a1, a2⟩ := h4.pool h7 m7
          refine k w7 _ ⟨b, hv7, uv7, E2, _, rfl, a1, ?_, rfl⟩ (m4.trans a2)
          exact fetched_ps hsp hgn
        · simp only [hW, decide_false, if_false] at k ⊢
          refine run_i (p_not _) ?_
          refine cn_ti ?_
          refine lv_i ?_
          exact k w4 _ ⟨b, hv2, uv2, E2, _, rfl, h4, rfl, rfl⟩ m4
      · simp only [ne_eq, ht0, not_false_eq_true, if_true] at k
        refine run_i (s_extract rfl) ?_
        refine run_i (s_extract rfl) ?_
        refine run_i (p_neqT (by omega) _) ?_
        refine cn_ti ?_
        refine lv_i ?_
        exact k w3 _ ⟨b, hv2, uv2, E2, _, rfl, h3, rfl, rfl⟩ (m2'.trans (Mv.of_qt q3))
    · simp only [ne_eq, hr0, not_false_eq_true, if_true] at k
      refine run_i (p_neqT (by omega) _) ?_
      refine cn_ti ?_
      refine lv_i ?_
      exact k w2 _ ⟨b, hv2, uv2, E2, _, rfl, h2, rfl, rfl⟩ m2'
end Go.Sx
end

section
/- Pools: the other acts, by what a pool stands for. -/
set_option linter.unusedVariables false
set_option linter.unusedSimpArgs false
set_option maxRecDepth 100000
namespace Go.Sx
open Go Go.RowKit
variable {K : Value → World → Prop} {w : World} {e : PEnv}

theorem Sys.qt {v : Value} {E : Cov} {s : e.σ} {p : PS} {w' : World} (h : Sys e w v E s p) (q : Qt w w') : Sys e w' v E s p := by
  obtain ⟨b, hv, uv, Ee, q', rfl, h, rfl, rfl⟩ := h
  exact ⟨b, hv, uv, Ee, q', rfl, h.qt q, rfl, rfl⟩
theorem Sys.away {v : Value} {E A : Cov} {s : e.σ} {p : PS} {w' : World} (h : Sys e w v E s p) (f : Frm (fun k _ => A k) w w') (hA : ∀ k, E k → ¬ A k) (h0 : ¬ A 0) : Sys e w' v E s p := by
  obtain ⟨b, hv, uv, Ee, q', rfl, h, rfl, rfl⟩ := h
  exact ⟨b, hv, uv, Ee, q', rfl, h.away f hA h0, rfl, rfl⟩
theorem Sys.live {v : Value} {E : Cov} {s : e.σ} {p : PS} (h : Sys e w v E s p) {k : Nat} (hk : E k) : k < w.heap.size := by
  obtain ⟨b, hv, uv, Ee, q', rfl, h, rfl, rfl⟩ := h
  exact h.live hk
theorem Sys.glob {v : Value} {E : Cov} {s : e.σ} {p : PS} (h : Sys e w v E s p) : Glob w := by
  obtain ⟨b, hv, uv, Ee, q', rfl, h, rfl, rfl⟩ := h
  exact h.glob
theorem Sys.no0 {v : Value} {E : Cov} {s : e.σ} {p : PS} (h : Sys e w v E s p) : ¬ E 0 := by
  obtain ⟨b, hv, uv, Ee, q', rfl, h, rfl, rfl⟩ := h
  exact fun hx => hx.elim (h.rep.no0 h.glob) (e.no0 h.inv)
theorem Sys.isPtr {v : Value} {E : Cov} {s : e.σ} {p : PS} (h : Sys e w v E s p) : ∃ b, v = .pointer (some ⟨b, 0, none⟩) := by
  obtain ⟨b, hv, uv, Ee, q', rfl, _⟩ := h
  exact ⟨b, rfl⟩
/-- what lies below moves. -/
theorem Sys.env {v : Value} {E : Cov} {s s' : e.σ} {p : PS} {w' : World} (h : Sys e w v E s p) (op : ∀ Ee, e.I s Ee w → ∃ Ee', e.I s' Ee' w' ∧ Mv w Ee w' Ee') : ∃ E', Sys e w' v E' s' p ∧ Mv w E w' E' := by
  obtain ⟨b, hv, uv, Ee, q, rfl, h, rfl, rfl⟩ := h
  obtain ⟨Ee', i', m⟩ := op Ee h.inv
  refine ⟨covX b hv uv q.held Ee', ⟨b, hv, uv, Ee', q, rfl, ⟨h.rep.mv m h.dis, i', h.glob.mv m (e.no0 h.inv), fun k hk => m.out (h.rep.live hk) (h.dis k hk)⟩, rfl, rfl⟩, m.right⟩
theorem Sys.inv {v : Value} {E : Cov} {s : e.σ} {p : PS} (h : Sys e w v E s p) : ∃ Ee, e.I s Ee w ∧ ∀ k, Ee k → E k := by
  obtain ⟨b, hv, uv, Ee, q, rfl, h, rfl, rfl⟩ := h
  exact ⟨Ee, h.inv, fun k hk => .inr hk⟩

def punpin (p : PS) (n : Int) : PS × Int :=
  match fget p.held n with
  | some f => if f.pins = 0 then (p, 17) else ({ p with held := fset p.held n { f with pins := f.pins - 1 } }, 0)
  | none => (p, 17)
def pput (p : PS) (n : Int) (t : Text) : PS × Int :=
  match fget p.held n with
  | some f => if f.pins = 0 then (p, 17) else if WholeT t then ({ p with held := fset p.held n { f with bytes := t, dirty := f.dirty || !decide (f.bytes = t) } }, 0) else (p, 1)
  | none => (p, 17)
def pevict (e : PEnv) (s : e.σ) (p : PS) (n : Int) : e.σ × PS × Int :=
  match fget p.held n with
  | some f => if 0 < f.pins then (s, p, 10) else pout e s p n
  | none => (s, p, 11)
def dirtyP (h : List (Int × FrT)) : List Int := (h.filter fun x => x.2.dirty).map Prod.fst
def keysP (h : List (Int × FrT)) : List Int := h.map Prod.fst

theorem keys_ps (q : PoolS) : keysP q.ps.held = keysOf q.held := by
  unfold keysP keysOf PoolS.ps
  rw [List.map_map]; rfl
theorem dirty_ps (q : PoolS) : dirtyP q.ps.held = dirtyOf q.held := by
  unfold dirtyP dirtyOf PoolS.ps
  rw [List.filter_map, List.map_map]; rfl

theorem Has_c {v : Value} {E : Cov} {s : e.σ} {p : PS} {n : Int} (h : Sys e w v E s p) (k : ∀ w', Qt w w' → K (.bool (fget p.held n).isSome) w') : call Pg F.pool_Pool_Has [v, int n] K w := by
  obtain ⟨b, hv, uv, Ee, q, rfl, h, rfl, rfl⟩ := h
  refine pool_Has_c h.rep (fun w' q' => ?_)
  have eg : fget q.ps.held n = (pget q.held n).map Frame1.fr := fget_ps _ _
  have := k w' q'
  rw [eg, Option.isSome_map] at this
  exact this

theorem Held_c {v : Value} {E : Cov} {s : e.σ} {p : PS} (h : Sys e w v E s p)
    (k : ∀ w' va vd, Own w' T.i64_2 1 va (keysP p.held).length (icells (keysP p.held)) → Own w' T.i64_2 1 vd (dirtyP p.held).length (icells (dirtyP p.held)) →
      (∀ g, va.ownBlock = some g → w.heap.size ≤ g) → (∀ g, vd.ownBlock = some g → w.heap.size ≤ g) → Qt w w' → K (.tuple #[va, vd]) w') : call Pg F.pool_Pool_Held [v] K w := by
  obtain ⟨b, hv, uv, Ee, q, rfl, h, rfl, rfl⟩ := h
  refine pool_Held_c h.rep (fun w' va vd a1 a2 a3 a4 a5 => ?_)
  refine k w' va vd ?_ ?_ a3 a4 a5
  · rw [keys_ps]
    have : (keysOf q.held).length = q.held.length := by simp [keysOf]
    rw [this]; exact a1
  · rw [dirty_ps]; exact a2

theorem Unpin_c {v : Value} {E : Cov} {s : e.σ} {p : PS} {n most : Int} (h : Sys e w v E s p) (hok : p.Ok e.pages most) (hm : most ≤ 1000000)
    (k : ∀ w' E', Sys e w' v E' s (punpin p n).1 → Mv w E w' E' → K (int (punpin p n).2) w') : call Pg F.pool_Pool_Unpin [v, int n] K w := by
  obtain ⟨b, hv, uv, Ee, q, rfl, h, rfl, rfl⟩ := h
  have hpp := ps_pins hok
  have eg : fget q.ps.held n = (pget q.held n).map Frame1.fr := fget_ps _ _
  unfold punpin at k
  rw [eg] at k
  refine Unpin_x h.rep (fun x hx => by have := hpp x hx; omega) (fun w' f hg hp0 r m => ?_) (fun w' q' hno => ?_)
  · rw [hg] at k
    have hp0' : ¬ f.fr.pins = 0 := hp0
    simp only [Option.map_some, if_neg hp0'] at k
    obtain ⟨a1, a2⟩ := h.pool r m
    refine k w' _ ⟨b, hv, uv, Ee, _, rfl, a1, ?_, rfl⟩ a2
    unfold PoolS.ps
    simp only
    rw [fset_ps]; rfl
  · cases hg : pget q.held n with
    | none => rw [hg] at k; exact k w' _ ⟨b, hv, uv, Ee, _, rfl, h.qt q', rfl, rfl⟩ (.of_qt q')
    | some f =>
      rw [hg] at k
      have hp0 : f.fr.pins = 0 := hno f hg
      simp only [Option.map_some, if_pos hp0] at k
      exact k w' _ ⟨b, hv, uv, Ee, _, rfl, h.qt q', rfl, rfl⟩ (.of_qt q')

theorem Put_c {v : Value} {E : Cov} {s : e.σ} {p : PS} {n : Int} {t : Text} (h : Sys e w v E s p) (ht : t.length ≤ 1000000)
    (k : ∀ w' E', Sys e w' v E' s (pput p n t).1 → Mv w E w' E' → K (int (pput p n t).2) w') : call Pg F.pool_Pool_Put [v, int n, str t] K w := by
  obtain ⟨b, hv, uv, Ee, q, rfl, h, rfl, rfl⟩ := h
  have eg : fget q.ps.held n = (pget q.held n).map Frame1.fr := fget_ps _ _
  unfold pput at k
  rw [eg] at k
  refine pool_Pool_Put_call ?_
  unfold pool_Pool_Put
  refine pool_pinned_c h.rep (fun w1 f q1 hg hp0 => ?_) (fun w' q' hno => ?_)
  · have h1 := h.qt q1
    rw [hg] at k
    have hp0' : ¬ f.fr.pins = 0 := hp0
    simp only [Option.map_some, if_neg hp0'] at k
    refine run_i (s_extract rfl) ?_
    refine run_i (s_extract rfl) ?_
    refine run_i (p_neqF (by omega) _) ?_
    refine cn_fi ?_
    refine page_Whole_c ht h1.glob (fun w2 q2 => ?_)
    have h2 := h1.qt q2
    have q12 := q1.trans q2
    by_cases hW : WholeT t
    · simp only [hW, decide_true, if_true] at k ⊢
      have hf2 : w2.heap[f.blk]? = some (.cells [str f.bytes, int f.pins, .bool f.dirty].toArray T.pool_frame (0, 0)) := h2.rep.frs _ (pget_mem hg)
      refine run_i (p_not _) ?_
      refine cn_fi ?_
      refine run_i (p_nil _) ?_
      refine run_i s_field ?_
      refine run_i (s_load (cellAt_l hf2 rfl)) ?_
      have fin : ∀ d, d = (f.dirty || !decide (f.bytes = t)) → K (int 0) ((w2.putObj f.blk (.cells [str f.bytes, int f.pins, .bool d].toArray T.pool_frame (0, 0))).putObj f.blk (.cells [str t, int f.pins, .bool d].toArray T.pool_frame (0, 0))) := by
        intro d hd
        have hg3 := h2.rep.put (f' := { f with dirty := d }) hg rfl
        have hm3 := h2.rep.putMv (f' := { f with dirty := d }) hg rfl
        obtain ⟨a1, a2⟩ := h2.pool hg3 hm3
        have hgg := pget_setF_same (f := { f with dirty := d }) hg
        have hg4 := a1.rep.put (f' := { f with bytes := t, dirty := d }) hgg rfl
        have hm4 := a1.rep.putMv (f' := { f with bytes := t, dirty := d }) hgg rfl
        obtain ⟨b1, b2⟩ := a1.pool hg4 hm4
        refine k _ _ ⟨b, hv, uv, Ee, _, rfl, b1, ?_, rfl⟩ ((Mv.of_qt q12).trans (a2.trans b2))
        unfold PoolS.ps
        simp only
        rw [fset_ps, fset_ps, hd]
        have hss : ∀ (h : List (Int × FrT)) (f g : FrT), fset (fset h n f) n g = fset h n g := by
          intro h f g
          unfold fset
          rw [List.map_map]
          apply List.map_congr_left
          intro x _
          simp only [Function.comp]
          by_cases e : x.1 = n <;> simp [e]
        rw [hss]
        rfl
      cases hdy : f.dirty with
      | true =>
        rw [hdy] at fin hf2
        refine gc_tfi ?_
        unfold pool_Pool_Put_g1
        refine pk_ti ?_
        refine run_i (p_nil _) ?_
        refine run_i s_field ?_
        refine runU_i (s_store hf2 rfl (by simp <;> omega)) ?_
        refine run_i (p_nil _) ?_
        refine run_i s_field ?_
        refine runU_i (s_store (hp_put_same (lt_of hf2)) rfl (by simp <;> omega)) ?_
        refine lv_i ?_
        exact fin true rfl
      | false =>
        rw [hdy] at fin hf2
        refine gc_ffi ?_
        refine run_i (p_nil _) ?_
        refine run_i s_field ?_
        refine run_i (s_load (cellAt_l hf2 rfl)) ?_
        refine run_i (p_sne _) ?_
        unfold pool_Pool_Put_g1
        refine pk_fi ?_
        refine run_i (p_nil _) ?_
        refine run_i s_field ?_
        refine runU_i (s_store hf2 rfl (by simp <;> omega)) ?_
        refine run_i (p_nil _) ?_
        refine run_i s_field ?_
        refine runU_i (s_store (hp_put_same (lt_of hf2)) rfl (by simp <;> omega)) ?_
        refine lv_i ?_
        exact fin _ (by simp)
    · simp only [hW, decide_false, if_false] at k ⊢
      refine run_i (p_not _) ?_
      refine cn_ti ?_
      refine lv_i ?_
      exact k w2 _ ⟨b, hv, uv, Ee, _, rfl, h2, rfl, rfl⟩ (.of_qt q12)
  · refine run_i (s_extract rfl) ?_
    refine run_i (s_extract rfl) ?_
    refine run_i (p_neqT (by omega) _) ?_
    refine cn_ti ?_
    refine lv_i ?_
    cases hg : pget q.held n with
    | none => rw [hg] at k; exact k w' _ ⟨b, hv, uv, Ee, _, rfl, h.qt q', rfl, rfl⟩ (.of_qt q')
    | some f =>
      rw [hg] at k
      have hp0 : f.fr.pins = 0 := hno f hg
      simp only [Option.map_some, if_pos hp0] at k
      exact k w' _ ⟨b, hv, uv, Ee, _, rfl, h.qt q', rfl, rfl⟩ (.of_qt q')

theorem Evict_c {v : Value} {E : Cov} {s : e.σ} {p : PS} {n most : Int} (h : Sys e w v E s p) (hok : p.Ok e.pages most)
    (k : ∀ w' E', Sys e w' v E' (pevict e s p n).1 (pevict e s p n).2.1 → Mv w E w' E' → K (int (pevict e s p n).2.2) w') : call Pg F.pool_Pool_Evict [v, int n] K w := by
  obtain ⟨b, hv, uv, Ee, q, rfl, h, rfl, rfl⟩ := h
  have hpg := ps_pages hok
  have eg : fget q.ps.held n = (pget q.held n).map Frame1.fr := fget_ps _ _
  unfold pevict at k
  rw [eg] at k
  refine pool_Pool_Evict_call ?_
  unfold pool_Pool_Evict
  refine run_i s_ptr_eql ?_
  refine cn_fi ?_
  refine run_i (p_nil _) ?_
  refine run_i s_field ?_
  refine h.rep.get (fun w1 q1 => ?_)
  have h1 := h.qt q1
  cases hg : pget q.held n with
  | none =>
    rw [hg] at k
    refine run_i (s_extract rfl) ?_
    refine run_i (s_extract rfl) ?_
    refine run_i (p_not _) ?_
    refine cn_ti ?_
    refine lv_i ?_
    exact k w1 _ ⟨b, hv, uv, Ee, _, rfl, h1, rfl, rfl⟩ (.of_qt q1)
  | some f =>
    rw [hg] at k
    have hf1 : w1.heap[f.blk]? = some (.cells [str f.bytes, int f.pins, .bool f.dirty].toArray T.pool_frame (0, 0)) := h1.rep.frs _ (pget_mem hg)
    simp only [Option.map_some] at k
    by_cases hp0 : 0 < f.pins
    · rw [if_pos (show 0 < f.fr.pins from hp0)] at k
      refine run_i (s_extract rfl) ?_
      refine run_i (s_extract rfl) ?_
      refine run_i (p_not _) ?_
      refine cn_fi ?_
      refine run_i (p_nil _) ?_
      refine run_i s_field ?_
      refine run_i (s_load (cellAt_l hf1 rfl)) ?_
      refine run_i (p_gtrT (by omega) _) ?_
      refine cn_ti ?_
      refine lv_i ?_
      exact k w1 _ ⟨b, hv, uv, Ee, _, rfl, h1, rfl, rfl⟩ (.of_qt q1)
    · rw [if_neg (show ¬ 0 < f.fr.pins from hp0), pout_ps s q n hg] at k
      refine run_i (s_extract rfl) ?_
      refine run_i (s_extract rfl) ?_
      refine run_i (p_not _) ?_
      refine cn_fi ?_
      refine run_i (p_nil _) ?_
      refine run_i s_field ?_
      refine run_i (s_load (cellAt_l hf1 rfl)) ?_
      refine run_i (p_gtrF (by omega) _) ?_
      refine cn_fi ?_
      refine out_c h1 hg hpg (fun w' hv' uv' Ee' h' m' => ?_)
      refine lv_i ?_
      exact k w' _ ⟨b, hv', uv', Ee', _, rfl, h', rfl, rfl⟩ ((Mv.of_qt q1).trans m')

theorem Flush_c {v : Value} {E : Cov} {s : e.σ} {p : PS} {most : Int} (h : Sys e w v E s p) (hok : p.Ok e.pages most) (hf : p.Few)
    (k : ∀ w' E', Sys e w' v E' (pwrite e s p (dirtyP p.held)).1 (pwrite e s p (dirtyP p.held)).2.1 → Mv w E w' E' → K (int (pwrite e s p (dirtyP p.held)).2.2) w') : call Pg F.pool_Pool_Flush [v] K w := by
  have h0 := h
  obtain ⟨b, hv, uv, Ee, q, rfl, h, rfl, rfl⟩ := h
  have hpg := ps_pages hok
  refine pool_Pool_Flush_call ?_
  unfold pool_Pool_Flush
  refine run_i s_ptr_eql ?_
  refine cn_fi ?_
  refine Held_c h0 (fun w1 va vd o1 o2 f1 f2 q1 => ?_)
  have h1 := h.qt q1
  rw [dirty_ps] at o2 k
  rw [pwrite_ps] at k
  refine run_i (s_extract rfl) ?_
  refine run_i (s_extract rfl) ?_
  have hl1 : q.held.length < 1000 := by have := hf.held; simpa [PoolS.ps] using this
  have hsort := h1.rep.map.sorted
  refine write_c (l := dirtyOf q.held) h1 (.of_own o2) ?_ ?_ ?_ hpg (fun w2 E2 h2 m2 => ?_)
  · rintro g o n cap rfl hx
    have := f2 g rfl
    have := h.live hx
    omega
  · unfold dirtyOf
    rw [List.length_map]
    have := List.length_filter_le (fun x : Int × Frame1 => x.2.dirty) q.held
    omega
  · intro n hn
    unfold dirtyOf at hn
    obtain ⟨x, hx, rfl⟩ := List.mem_map.1 hn
    have hx' := (List.mem_filter.1 hx).1
    cases hg : pget q.held x.1 with
    | some f => exact ⟨f, rfl⟩
    | none =>
      unfold pget at hg
      simp only [Option.map_eq_none_iff, List.find?_eq_none, decide_eq_true_eq] at hg
      exact absurd rfl (hg x hx')
  · refine lv_i ?_
    exact k w2 _ ⟨b, hv, uv, E2, _, rfl, h2, rfl, rfl⟩ ((Mv.of_qt q1).trans m2)

theorem New_c {s : e.σ} {Ee : Cov} {n : Int} (hI : e.I s Ee w) (hg : Glob w) (h0 : 1 ≤ n) (h1 : n ≤ 64)
    (k : ∀ v w' E', Sys e w' v E' s ⟨n, [], []⟩ → Qt w w' → (∀ k, E' k → Ee k ∨ w.heap.size ≤ k) → K (.tuple #[v, int 0]) w') : call Pg F.pool_New [e.av, int n, e.fl] K w := by
  obtain ⟨ab, ha⟩ := e.isPtr
  obtain ⟨f, a, b, hf⟩ := e.isFn
  refine pool_New_c ha hf h0 h1 (fun b w' r q hb => ?_)
  have hx : ∀ k, poolX b (.slice none 0 0) (.slice none 0 0) [] k → k = b := by
    rintro k (h | h | h | ⟨x, hx, _⟩)
    · exact h
    · cases h
    · cases h
    · cases hx
  refine k _ w' _ ⟨b, .slice none 0 0, .slice none 0 0, Ee, ⟨n, [], []⟩, rfl, ⟨r, e.keep hI (fun k o hk _ => q.all hk) q.size, hg.qt q, fun k hk hE => ?_⟩, rfl, rfl⟩ q ?_
  · have := hx k hk
    have := e.live hI hE
    omega
  · rintro k (hk | hk)
    · right; have := hx k hk; omega
    · exact .inl hk
end Go.Sx
end

section
/- An area and a log below a pool. -/
set_option linter.unusedVariables false
set_option linter.unusedSimpArgs false
set_option maxRecDepth 100000
namespace Go.Sx
open Go Go.RowKit

/-! ### commands that may be -/
def DCmd.Ok (size : Int) : DCmd → Prop
  | .w i t => 0 ≤ i ∧ i < size ∧ t.length ≤ 256
  | .s => True

theorem padT_len {t : Text} (h : t.length ≤ 256) : (padT t).length = 256 := by
  unfold padT; rw [List.length_append, List.length_replicate]; omega

theorem setT_sec {f : Int → Option Text} {x : Int × Text} (hf : ∀ i t, f i = some t → t.length = 256) (hx : x.2.length = 256) : ∀ i t, setT f x i = some t → t.length = 256 := by
  intro i t h
  unfold setT at h
  split at h
  · cases h; exact hx
  · exact hf i t h
theorem failMap_sec (keep : List Int) : ∀ (l : List (Int × Text)) (i : Nat) (f : Int → Option Text), (∀ i t, f i = some t → t.length = 256) → (∀ x ∈ l, x.2.length = 256) → ∀ i' t, failMap keep i l f i' = some t → t.length = 256
  | [], i, f, hf, _ => hf
  | x :: l, i, f, hf, hx => by
    simp only [failMap]
    refine failMap_sec keep l _ _ ?_ (fun y hy => hx y (by simp [hy]))
    split
    · exact setT_sec hf (hx x (by simp))
    · exact hf
theorem syncMap_sec : ∀ (l : List (Int × Text)) (f : Int → Option Text), (∀ i t, f i = some t → t.length = 256) → (∀ x ∈ l, x.2.length = 256) → ∀ i' t, syncMap l f i' = some t → t.length = 256
  | [], f, hf, _ => hf
  | x :: l, f, hf, hx => by
    simp only [syncMap, List.foldl_cons]
    exact syncMap_sec l _ (setT_sec hf (hx x (by simp))) (fun y hy => hx y (by simp [hy]))

theorem Dev.cmd_spec (d : Dev) : (d.cmd.1 = true ∧ d.cmd.2.wait = d.wait ∧ d.cmd.2.last = d.last ∧ d.cmd.2.off = d.off ∧ d.cmd.2.size = d.size ∧ d.cmd.2.keep = d.keep) ∨ (d.cmd.1 = false ∧ d.cmd.2 = d.fail d.keep) := by
  unfold Dev.cmd
  split
  · exact .inr ⟨rfl, rfl⟩
  · exact .inl ⟨rfl, rfl, rfl, rfl, rfl, rfl⟩

theorem Dev.Sec.fail {d : Dev} (h : d.Sec) (keep : List Int) : (d.fail keep).Sec := ⟨failMap_sec keep d.wait 0 d.last h.1 h.2, fun x hx => by cases hx⟩

/-- what a command comes to -/
inductive Came (d : Dev) : DCmd → Dev × Int → Prop
  | off (c) : d.off = true → Came d c (d, 7)
  | fail (c) : d.off = false → d.cmd.1 = false → Came d c (d.fail d.keep, 7)
  | w (i t) : d.off = false → d.cmd.1 = true → Came d (.w i t) ({ d.cmd.2 with wait := d.wait ++ [(i, padT t)] }, 0)
  | s : d.off = false → d.cmd.1 = true → Came d .s ({ d.cmd.2 with last := syncMap d.wait d.last, wait := [] }, 0)

theorem came {c : DCmd} {d : Dev} (hc : c.Ok d.size) : Came d c (c.run d) := by
  cases hoff : d.off with
  | true =>
    have : c.run d = (d, 7) := by
      cases c <;> simp [DCmd.run, Dev.write, Dev.sync, hoff]
    rw [this]; exact .off c hoff
  | false =>
    rcases d.cmd_spec with ⟨h1, h2, h3, _⟩ | ⟨h1, h2⟩
    · cases c with
      | w i t =>
        obtain ⟨c1, c2, c3⟩ := hc
        have : (DCmd.w i t).run d = ({ d.cmd.2 with wait := d.wait ++ [(i, padT t)] }, 0) := by
          simp only [DCmd.run, Dev.write, hoff, h1, if_true, h2]
          rw [if_neg (by simp), if_neg (by omega), if_neg (by omega)]
        rw [this]; exact .w i t hoff h1
      | s =>
        have : DCmd.s.run d = ({ d.cmd.2 with last := syncMap d.wait d.last, wait := [] }, 0) := by
          simp only [DCmd.run, Dev.sync, hoff, h1, if_true, h2, h3]
          rw [if_neg (by simp)]
        rw [this]; exact .s hoff h1
    · have : c.run d = (d.fail d.keep, 7) := by
        cases c with
        | w i t =>
          obtain ⟨c1, c2, c3⟩ := hc
          simp only [DCmd.run, Dev.write, hoff, h1]
          rw [if_neg (by simp), if_neg (by omega), if_neg (by omega), if_neg (by simp), h2]
        | s =>
          simp only [DCmd.run, Dev.sync, hoff, h1]
          rw [if_neg (by simp), if_neg (by simp), h2]
      rw [this]; exact .fail c hoff h1

/-- how a device is between works -/
structure Rest (d : Dev) (size : Int) : Prop where
  wait : d.wait.length ≤ 1
  dry : d.off = true → d.wait = []
  sec : d.Sec
  keep : d.keep.length ≤ 1000
  size : d.size = size

/-- how it is within one -/
structure Busy (d : Dev) (size : Int) : Prop where
  sec : d.Sec
  keep : d.keep.length ≤ 1000
  size : d.size = size
  off : d.off = true → d.wait = []

theorem Rest.busy {d : Dev} {size : Int} (h : Rest d size) : Busy d size := ⟨h.sec, h.keep, h.size, h.dry⟩

theorem run_busy {c : DCmd} {d : Dev} {size : Int} (hc : c.Ok size) (h : Busy d size) : Busy (c.run d).1 size ∧ ((c.run d).2 = 0 ∨ ((c.run d).2 = 7 ∧ (c.run d).1.off = true)) := by
  have hc' : c.Ok d.size := by rw [h.size]; exact hc
  have hb := d.cmd_bd
  have hcm := came hc'
  generalize c.run d = r at hcm
  rcases hcm with ⟨_, ho⟩ | ⟨_, h1, h2⟩ | ⟨i, t, h1, h2⟩ | ⟨h1, h2⟩
  · exact ⟨h, .inr ⟨rfl, ho⟩⟩
  · exact ⟨⟨h.sec.fail _, by simp [Dev.fail], h.size, fun _ => rfl⟩, .inr ⟨rfl, rfl⟩⟩
  · rcases d.cmd_spec with ⟨_, a2, a3, a4, a5, a6⟩ | ⟨a1, _⟩
    · refine ⟨⟨⟨?_, ?_⟩, by simp only [a6]; exact h.keep, by simp only [a5]; exact h.size, fun ho => ?_⟩, .inl rfl⟩
      · simp only [a3]; exact h.sec.1
      · intro x hx
        simp only [List.mem_append, List.mem_cons, List.not_mem_nil, or_false] at hx
        rcases hx with hx | rfl
        · exact h.sec.2 x hx
        · exact padT_len hc.2.2
      · simp only [a4, h1] at ho; cases ho
    · rw [h2] at a1; cases a1
  · rcases d.cmd_spec with ⟨_, a2, a3, a4, a5, a6⟩ | ⟨a1, _⟩
    · exact ⟨⟨⟨syncMap_sec d.wait d.last h.sec.1 h.sec.2, fun x hx => by cases hx⟩, by simp only [a6]; exact h.keep, by simp only [a5]; exact h.size, fun _ => rfl⟩, .inl rfl⟩
    · rw [h2] at a1; cases a1

theorem runs_busy {size : Int} : ∀ {cs : List DCmd} {d : Dev}, (∀ c ∈ cs, c.Ok size) → Busy d size → Busy (runs cs d).1 size ∧ ((runs cs d).2 = 0 ∨ ((runs cs d).2 = 7 ∧ (runs cs d).1.off = true)) := by
  intro cs
  induction cs with
  | nil => intro d _ h; exact ⟨h, .inl rfl⟩
  | cons c l ih =>
    intro d hc h
    obtain ⟨h1, h2⟩ := run_busy (hc c (by simp)) h
    simp only [runs]
    split
    · rename_i hne
      exact ⟨h1, .inr (h2.resolve_left hne)⟩
    · exact ih (fun c hc' => hc c (by simp [hc'])) h1

theorem runs_sync_wait {cs : List DCmd} {d : Dev} (h : (runs (cs ++ [.s]) d).2 = 0) : (runs (cs ++ [.s]) d).1.wait = [] := by
  by_cases h0 : (runs cs d).2 = 0
  · rw [runs_go h0, runs_one] at h ⊢
    simp only [DCmd.run, Dev.sync] at h ⊢
    split
    · rename_i ho; rw [if_pos ho] at h; cases h
    · rename_i ho
      rw [if_neg ho] at h
      split
      · rfl
      · rename_i hc; rw [if_neg hc] at h; cases h
  · rw [runs_stop h0] at h; exact absurd h h0

theorem putCmds_ok {size i : Int} {t : Text} (h0 : 0 ≤ i) (h1 : i + 1 < size) (ht : t.length = 512) : ∀ c ∈ putCmds i t, c.Ok size := by
  intro c hc
  simp only [putCmds, List.mem_cons, List.not_mem_nil, or_false] at hc
  rcases hc with rfl | rfl
  · exact ⟨h0, by omega, by rw [List.length_take]; omega⟩
  · exact ⟨by omega, h1, by rw [List.length_drop]; omega⟩
theorem nameT_len (n : Int) : (nameT n).length = 8 := by
  unfold nameT; rw [List.length_append, List.length_append, putT_len]; rfl
theorem slotsFrom_ok {a : Area} {size : Int} (ha : a.Ok size) : ∀ (l : List (Int × Text)) (i : Int), 0 ≤ i → i + l.length ≤ a.slots → (∀ x ∈ l, x.2.length = 512) → ∀ c ∈ slotsFrom a i l, c.Ok size := by
  intro l
  obtain ⟨a1, a2, a3, a4, a5, a6, a7, a8, a9⟩ := ha
  induction l with
  | nil => intro i _ _ _ c hc; cases hc
  | cons x l ih =>
    intro i h0 h1 hx c hc
    simp only [List.length_cons] at h1
    simp only [slotsFrom, slotCmds, List.cons_append, List.mem_cons, List.mem_append] at hc
    rcases hc with rfl | hc | hc
    · exact ⟨by omega, by omega, by rw [nameT_len]; omega⟩
    · exact putCmds_ok (by omega) (by omega) (hx x (by simp)) c hc
    · exact ih (i + 1) (by omega) (by omega) (fun y hy => hx y (by simp [hy])) c hc
theorem pageCmds_ok {a : Area} {size : Int} (ha : a.Ok size) (l : List (Int × Text)) (hx : ∀ x ∈ l, 0 ≤ x.1 ∧ x.1 < a.pages ∧ x.2.length = 512) : ∀ c ∈ pageCmds a l, c.Ok size := by
  obtain ⟨a1, a2, a3, a4, a5, a6, a7, a8, a9⟩ := ha
  intro c hc
  unfold pageCmds at hc
  obtain ⟨x, hxl, hc⟩ := List.mem_flatMap.1 hc
  have := hx x hxl
  exact putCmds_ok (by omega) (by omega) this.2.2 c hc
theorem writeCmds_ok {a : Area} {size : Int} (ha : a.Ok size) : ∀ (f : Nat) (l : List (Int × Text)), (∀ x ∈ l, 0 ≤ x.1 ∧ x.1 < a.pages ∧ x.2.length = 512) → ∀ c ∈ writeCmds a f l, c.Ok size := by
  intro f
  induction f with
  | zero => intro l _ c hc; cases hc
  | succ f ih =>
    intro l hx c hc
    unfold writeCmds at hc
    split at hc
    · cases hc
    · have h3 := ha.h3
      simp only [roundCmds, List.mem_append, List.mem_cons, List.not_mem_nil, or_false] at hc
      rcases hc with (hc | rfl | hc | rfl) | hc
      · exact slotsFrom_ok ha _ 0 (by omega) (by rw [List.length_take]; omega) (fun x h => (hx x (List.mem_of_mem_take h)).2.2) c hc
      · trivial
      · exact pageCmds_ok ha _ (fun x h => hx x (List.mem_of_mem_take h)) c hc
      · trivial
      · exact ih _ (fun x h => hx x (List.mem_of_mem_drop h)) c hc
/-- behind a write all rests. -/
theorem write_rest {a : Area} {size : Int} (ha : a.Ok size) : ∀ (f : Nat) (l : List (Int × Text)) (d : Dev), l.length ≤ f → (∀ x ∈ l, 0 ≤ x.1 ∧ x.1 < a.pages ∧ x.2.length = 512) → Rest d size →
    Rest (runs (writeCmds a f l) d).1 size ∧ ((runs (writeCmds a f l) d).2 = 0 ∨ ((runs (writeCmds a f l) d).2 = 7 ∧ (runs (writeCmds a f l) d).1.off = true)) := by
  intro f
  induction f with
  | zero => intro l d _ _ h; exact ⟨h, .inl rfl⟩
  | succ f ih =>
    intro l d hlf hx h
    by_cases hl : l = []
    · have : writeCmds a (f + 1) l = [] := by unfold writeCmds; rw [if_pos hl]
      rw [this]; exact ⟨h, .inl rfl⟩
    · have hok := writeCmds_ok ha (f + 1) l hx
      have e0 : writeCmds a (f + 1) l = roundCmds a (l.take a.slots.toNat) ++ writeCmds a f (l.drop a.slots.toNat) := by
        conv => lhs; unfold writeCmds
        rw [if_neg hl]
      obtain ⟨b1, b2⟩ := runs_busy hok h.busy
      rw [e0] at hok b1 b2 ⊢
      have h3 := ha.h3
      have hlp : 0 < l.length := List.length_pos_iff.2 hl
      by_cases hr : (runs (roundCmds a (l.take a.slots.toNat)) d).2 = 0
      · have hw : (runs (roundCmds a (l.take a.slots.toNat)) d).1.wait = [] := by
          have e1 : roundCmds a (l.take a.slots.toNat) = (slotsFrom a 0 (l.take a.slots.toNat) ++ ([.s] ++ pageCmds a (l.take a.slots.toNat))) ++ [.s] := by
            unfold roundCmds; simp
          rw [e1] at hr ⊢
          exact runs_sync_wait hr
        obtain ⟨c1, c2⟩ := runs_busy (fun c hc => hok c (List.mem_append_left _ hc)) h.busy
        rw [runs_go hr]
        exact ih _ _ (by rw [List.length_drop]; omega) (fun x h => hx x (List.mem_of_mem_drop h)) ⟨by rw [hw]; simp, fun _ => hw, c1.sec, c1.keep, c1.size⟩
      · rcases b2 with b2 | ⟨b2, b3⟩
        · rw [runs_stop hr] at b2; exact absurd b2 hr
        · exact ⟨⟨by rw [b1.off b3]; simp, b1.off, b1.sec, b1.keep, b1.size⟩, .inr ⟨b2, b3⟩⟩

/-- A log below a pool. -/
structure LogE where
  τ : Type
  J : τ → Cov → World → Prop
  fl : Value
  f : τ → Int → τ × Int
  isFn : ∃ g a b, fl = .func g a b
  live : ∀ {t E w k}, J t E w → E k → k < w.heap.size
  no0 : ∀ {t E w}, J t E w → ¬ E 0
  keep : ∀ {t E w w'}, J t E w → (∀ k o, w.heap[k]? = some o → E k → w'.heap[k]? = some o) → w.heap.size ≤ w'.heap.size → J t E w'
  call : ∀ {t E w n} {K : Value → World → Prop}, J t E w → (∀ w' E', J (f t n).1 E' w' → Mv w E w' E' → K (int (f t n).2) w') → callV Pg fl [int n] K w

/-- an area and a log -/
def envI (L : LogE) (av dv : Value) (a : Area) (size : Int) (s : Dev × L.τ) (E : Cov) (w : World) : Prop :=
  ∃ E1 E2, TwinI w av dv a s.1 E1 ∧ Rest s.1 size ∧ L.J s.2 E2 w ∧ (∀ k, E1 k → ¬ E2 k) ∧ ¬ E1 0 ∧ E = fun k => E1 k ∨ E2 k

def areaEnv (L : LogE) (av dv : Value) (a : Area) (size : Int) (ha : a.Ok size) (hs : size ≤ 4096) (hp : ∃ ab, av = .pointer (some ab)) : PEnv := {
  σ := Dev × L.τ
  I := envI L av dv a size
  av := av
  fl := L.fl
  pages := a.pages
  rd s n := s.1.two' (a.from_ + 2 * n)
  wr s l := (((runs (writeCmds a l.length l) s.1).1, s.2), (runs (writeCmds a l.length l) s.1).2)
  flu s n := ((s.1, (L.f s.2 n).1), (L.f s.2 n).2)
  small := ⟨by have := ha.h5; omega, ha.h6⟩
  isPtr := hp
  isFn := L.isFn
  live := by
    rintro s E w k ⟨E1, E2, h1, h2, h3, h4, h5, rfl⟩ hk
    exact hk.elim h1.live (L.live h3)
  no0 := by
    rintro s E w ⟨E1, E2, h1, h2, h3, h4, h5, rfl⟩ hk
    exact hk.elim h5 (L.no0 h3)
  keep := by
    rintro s E w w' ⟨E1, E2, h1, h2, h3, h4, h5, rfl⟩ hk hsz
    exact ⟨E1, E2, h1.keep (fun k o a b => hk k o a (.inl b)), h2, L.keep h3 (fun k o a b => hk k o a (.inr b)) hsz, h4, h5, rfl⟩
  cPages := by
    rintro s E w K ⟨E1, E2, h1, _⟩ k
    exact twin_Pages_c h1.area k
  cRead := by
    rintro s E w n K ⟨E1, E2, h1, h2, _⟩ h0 hn k
    exact area_Read_c h1 h2.sec (by rw [h2.size]; exact ha) (by rw [h2.size]; exact hs) h0 hn k
  rdLen := by
    rintro s E w n ⟨E1, E2, h1, h2, _⟩
    unfold Dev.two'
    split
    · simp
    · rw [h2.sec.two]; omega
  cWrite := by
    rintro s E w lv l K ⟨E1, E2, h1, h2, h3, h4, h5, rfl⟩ hg hr hlv hl hx k
    have hx' : ∀ x ∈ l, 0 ≤ x.1 ∧ x.1 < a.pages ∧ x.2.length = 512 := fun x h => ⟨(hx x h).1, (hx x h).2.1, (hx x h).2.2.1⟩
    refine twin_Write_c h1 ⟨by have := h2.keep; omega, by have := h2.wait; omega⟩ hg h5 ha hs hr (fun g o n cap hv hE => hlv g o n cap hv (.inl hE)) hx (fun w' E' h' m => ?_)
    refine k w' _ ⟨E', E2, h', (write_rest ha l.length l s.1 (Nat.le_refl _) hx' h2).1, L.keep h3 (fun k o hk hE => m.keep hk (fun h => h4 k h hE)) m.size, fun k hk hE => ?_, m.out hg.lt h5, rfl⟩ m.left
    rcases m.grow k hk with h | h
    · exact h4 k h hE
    · have := L.live h3 hE; omega
  cFlush := by
    rintro s E w n K ⟨E1, E2, h1, h2, h3, h4, h5, rfl⟩ hg hn k
    refine L.call h3 (fun w' E' h' m => ?_)
    refine k w' _ ⟨E1, E', h1.keep (fun k o hk hE => m.keep hk (h4 k hE)), h2, h', fun k hk hE => ?_, h5, rfl⟩ m.right
    rcases m.grow k hE with h | h
    · exact h4 k hk h
    · have := h1.live hk; omega }
end Go.Sx
end

section
/- Lists of frames by rising numbers: what is found in them. -/
set_option linter.unusedVariables false
set_option linter.unusedSimpArgs false
namespace Go.Sx
open Go

theorem fget_none {h : List (Int × FrT)} {n : Int} : fget h n = none ↔ ∀ x ∈ h, x.1 ≠ n := by
  unfold fget
  simp [Option.map_eq_none_iff, List.find?_eq_none]
theorem fget_mem {h : List (Int × FrT)} {n : Int} {f : FrT} (hg : fget h n = some f) : (n, f) ∈ h := by
  unfold fget at hg
  cases hf : h.find? (fun x => decide (x.1 = n)) with
  | none => rw [hf] at hg; cases hg
  | some x =>
    rw [hf] at hg
    have h1 := List.mem_of_find?_eq_some hf
    have h2 := List.find?_some hf
    simp at h2 hg
    obtain ⟨a, b⟩ := x
    simp at h2 hg
    subst h2 hg
    exact h1
theorem fget_isSome {h : List (Int × FrT)} {n : Int} : (fget h n).isSome = true ↔ ∃ x ∈ h, x.1 = n := by
  constructor
  · intro hs
    obtain ⟨f, hf⟩ := Option.isSome_iff_exists.1 hs
    exact ⟨_, fget_mem hf, rfl⟩
  · rintro ⟨x, hx, e⟩
    cases hf : fget h n with
    | some f => rfl
    | none => exact absurd e (fget_none.1 hf x hx)

abbrev SortedF (h : List (Int × FrT)) : Prop := h.Pairwise fun a b => a.1 < b.1
theorem sortedF_inj {h : List (Int × FrT)} (hs : SortedF h) {x y : Int × FrT} (hx : x ∈ h) (hy : y ∈ h) (e : x.1 = y.1) : x = y := by
  induction h with
  | nil => cases hx
  | cons z h ih =>
    have hp := List.pairwise_cons.1 hs
    rcases List.mem_cons.1 hx with ex | hx2 <;> rcases List.mem_cons.1 hy with ey | hy2
    · rw [ex, ey]
    · have := hp.1 y hy2; rw [ex] at e; omega
    · have := hp.1 x hx2; rw [ey] at e; omega
    · exact ih hp.2 hx2 hy2
theorem fget_of_mem {h : List (Int × FrT)} (hs : SortedF h) {x : Int × FrT} (hx : x ∈ h) : fget h x.1 = some x.2 := by
  cases hf : fget h x.1 with
  | none => exact absurd rfl (fget_none.1 hf x hx)
  | some f =>
    have := sortedF_inj hs (fget_mem hf) hx rfl
    rw [← this]

theorem fset_mem {h : List (Int × FrT)} {n : Int} {f : FrT} {x : Int × FrT} (hx : x ∈ fset h n f) : (x ∈ h ∧ x.1 ≠ n) ∨ (x = (n, f) ∧ ∃ y ∈ h, y.1 = n) := by
  unfold fset at hx
  obtain ⟨y, hy, rfl⟩ := List.mem_map.1 hx
  by_cases e : y.1 = n
  · rw [if_pos e]; exact .inr ⟨by rw [e], y, hy, e⟩
  · rw [if_neg e]; exact .inl ⟨hy, e⟩
theorem fset_len (h : List (Int × FrT)) (n : Int) (f : FrT) : (fset h n f).length = h.length := by simp [fset]
theorem fset_keys (h : List (Int × FrT)) (n : Int) (f : FrT) : (fset h n f).map Prod.fst = h.map Prod.fst := by
  unfold fset
  rw [List.map_map]
  apply List.map_congr_left
  intro x _
  simp only [Function.comp]
  split <;> rfl
theorem fset_sorted {h : List (Int × FrT)} {n : Int} {f : FrT} (hs : SortedF h) : SortedF (fset h n f) := by
  unfold fset
  rw [SortedF, List.pairwise_map]
  refine hs.imp ?_
  intro a b hab
  by_cases e1 : a.1 = n <;> by_cases e2 : b.1 = n <;> simp [e1, e2] <;> omega
theorem fget_fset (h : List (Int × FrT)) (n m : Int) (f : FrT) : fget (fset h n f) m = if m = n then (if (fget h n).isSome then some f else none) else fget h m := by
  induction h with
  | nil => simp [fget, fset]
  | cons x h ih =>
    have e0 : fset (x :: h) n f = (if x.1 = n then (x.1, f) else x) :: fset h n f := rfl
    have e1 : ∀ (y : Int × FrT) (l : List (Int × FrT)) k, fget (y :: l) k = if y.1 = k then some y.2 else fget l k := by
      intro y l k
      unfold fget
      rw [List.find?_cons]
      by_cases e : y.1 = k <;> simp [e]
    rw [e0, e1, ih, e1, e1]
    by_cases h1 : x.1 = n <;> by_cases h2 : m = n <;> simp_all
    have h3 : ¬ n = m := fun e => h2 e.symm
    simp [h3]
theorem fdel_mem {h : List (Int × FrT)} {n : Int} {x : Int × FrT} : x ∈ fdel h n ↔ x ∈ h ∧ x.1 ≠ n := by
  unfold fdel
  rw [List.mem_filter]
  simp
theorem fdel_sorted {h : List (Int × FrT)} {n : Int} (hs : SortedF h) : SortedF (fdel h n) := hs.sublist List.filter_sublist
theorem fget_fdel (h : List (Int × FrT)) (n m : Int) : fget (fdel h n) m = if m = n then none else fget h m := by
  by_cases e : m = n
  · rw [if_pos e, fget_none]
    intro x hx
    rw [e]; exact (fdel_mem.1 hx).2
  · rw [if_neg e]
    unfold fget fdel
    rw [List.find?_filter]
    congr 2
    funext x
    by_cases e2 : x.1 = m
    · simp [e2, e]
    · simp [e2]
theorem fdel_len {h : List (Int × FrT)} {n : Int} (hs : SortedF h) (hn : (fget h n).isSome = true) : (fdel h n).length + 1 = h.length := by
  obtain ⟨x, hx, e⟩ := fget_isSome.1 hn
  subst e
  have hnd : (h.map Prod.fst).Nodup := by
    rw [List.nodup_iff_pairwise_ne, List.pairwise_map]
    exact hs.imp (fun h => by omega)
  have : ∀ (h : List (Int × FrT)), (h.map Prod.fst).Nodup → x ∈ h → (fdel h x.1).length + 1 = h.length := by
    intro h
    induction h with
    | nil => intro _ hx; cases hx
    | cons y h ih =>
      intro hnd hx
      have hn2 := List.nodup_cons.1 (by simpa using hnd : (y.1 :: h.map Prod.fst).Nodup)
      unfold fdel
      rw [List.filter_cons]
      by_cases e : y.1 = x.1
      · have : h.filter (fun z => !decide (z.1 = x.1)) = h := by
          rw [List.filter_eq_self]
          intro z hz
          have : z.1 ≠ x.1 := fun e2 => hn2.1 (by rw [e, ← e2]; exact List.mem_map.2 ⟨z, hz, rfl⟩)
          simpa using this
        simp [e, this]
      · have hx' : x ∈ h := by
          rcases List.mem_cons.1 hx with rfl | hx
          · exact absurd rfl e
          · exact hx
        have := ih hn2.2 hx'
        unfold fdel at this
        simp [e]; omega
  exact this h hnd hx

theorem fins_mem {h : List (Int × FrT)} {n : Int} {f : FrT} (hn : fget h n = none) {x : Int × FrT} : x ∈ fins h n f ↔ x ∈ h ∨ x = (n, f) := by
  have hne := fget_none.1 hn
  unfold fins
  simp only [List.mem_append, List.mem_cons, List.mem_filter, decide_eq_true_eq]
  constructor
  · rintro (h1 | h1 | h1)
    · exact .inl h1.1
    · exact .inr h1
    · exact .inl h1.1
  · rintro (h1 | h1)
    · have := hne x h1
      by_cases h2 : x.1 < n
      · exact .inl ⟨h1, h2⟩
      · exact .inr (.inr ⟨h1, by omega⟩)
    · exact .inr (.inl h1)
theorem fins_sorted {h : List (Int × FrT)} {n : Int} {f : FrT} (hs : SortedF h) : SortedF (fins h n f) := by
  unfold fins SortedF
  rw [List.pairwise_append]
  refine ⟨hs.sublist List.filter_sublist, ?_, ?_⟩
  · rw [List.pairwise_cons]
    refine ⟨fun x hx => ?_, hs.sublist List.filter_sublist⟩
    have := (List.mem_filter.1 hx).2
    simpa using this
  · intro a ha b hb
    have h1 : a.1 < n := by simpa using (List.mem_filter.1 ha).2
    rcases List.mem_cons.1 hb with rfl | hb
    · exact h1
    · have h2 : n < b.1 := by simpa using (List.mem_filter.1 hb).2
      omega
theorem fins_len {h : List (Int × FrT)} {n : Int} {f : FrT} (hn : fget h n = none) : (fins h n f).length = h.length + 1 := by
  have hne := fget_none.1 hn
  unfold fins
  rw [List.length_append, List.length_cons]
  have : ∀ h : List (Int × FrT), (∀ x ∈ h, x.1 ≠ n) → (h.filter fun x => decide (x.1 < n)).length + (h.filter fun x => decide (n < x.1)).length = h.length := by
    intro h
    induction h with
    | nil => intro _; rfl
    | cons y h ih =>
      intro hh
      have h1 := ih (fun x hx => hh x (by simp [hx]))
      have h2 := hh y (by simp)
      rw [List.filter_cons, List.filter_cons]
      by_cases e : y.1 < n
      · have : ¬ n < y.1 := by omega
        simp [e, this]; omega
      · have : n < y.1 := by omega
        simp [e, this]; omega
  have := this h hne
  omega
theorem fget_fins {h : List (Int × FrT)} {n : Int} {f : FrT} (hs : SortedF h) (hn : fget h n = none) (m : Int) : fget (fins h n f) m = if m = n then some f else fget h m := by
  have hs2 := fins_sorted (n := n) (f := f) hs
  by_cases e : m = n
  · subst e
    rw [if_pos rfl]
    exact fget_of_mem hs2 ((fins_mem hn).2 (.inr rfl))
  · rw [if_neg e]
    cases hm : fget h m with
    | none =>
      rw [fget_none] at hm ⊢
      intro x hx
      rcases (fins_mem hn).1 hx with hx | rfl
      · exact hm x hx
      · exact fun h => e h.symm
    | some g => exact fget_of_mem hs2 ((fins_mem hn).2 (.inl (fget_mem hm)))

/-- what holds of each pool -/
structure PS.Wf (p : PS) : Prop where
  sorted : SortedF p.held
  same : ∀ n, n ∈ p.used ↔ (fget p.held n).isSome = true
  nodup : p.used.Nodup

theorem PS.Wf.use {p : PS} (h : p.Wf) {n : Int} {f : FrT} (hn : (fget p.held n).isSome = true) : (puse p n f).Wf := by
  refine ⟨fset_sorted h.sorted, fun m => ?_, ?_⟩
  · unfold puse
    simp only [List.mem_append, List.mem_cons, List.not_mem_nil, or_false]
    rw [fget_fset, List.Nodup.mem_erase_iff h.nodup, h.same]
    by_cases e : m = n
    · subst e; simp [hn]
    · simp [e]
  · unfold puse
    simp only
    rw [List.nodup_append]
    refine ⟨h.nodup.erase n, by simp, fun a ha b hb => ?_⟩
    simp at hb
    subst hb
    exact fun e => by subst e; exact absurd ha (by rw [List.Nodup.mem_erase_iff h.nodup]; simp)
theorem PS.Wf.del {p : PS} (h : p.Wf) (n : Int) : ({ p with held := fdel p.held n, used := p.used.erase n } : PS).Wf := by
  refine ⟨fdel_sorted h.sorted, fun m => ?_, h.nodup.erase n⟩
  simp only
  rw [fget_fdel, List.Nodup.mem_erase_iff h.nodup, h.same]
  by_cases e : m = n
  · subst e; simp
  · simp [e]
theorem PS.Wf.ins {p : PS} (h : p.Wf) {n : Int} {f f' : FrT} (hn : fget p.held n = none) : (puse { p with held := fins p.held n f } n f').Wf := by
  have hs := fins_sorted (n := n) (f := f) h.sorted
  refine ⟨fset_sorted hs, fun m => ?_, ?_⟩
  · unfold puse
    simp only [List.mem_append, List.mem_cons, List.not_mem_nil, or_false]
    rw [fget_fset, fget_fins h.sorted hn, fget_fins h.sorted hn, List.Nodup.mem_erase_iff h.nodup, h.same]
    by_cases e : m = n
    · subst e; simp
    · simp [e]
  · unfold puse
    simp only
    rw [List.nodup_append]
    refine ⟨h.nodup.erase n, by simp, fun a ha b hb => ?_⟩
    simp at hb
    subst hb
    exact fun e => by subst e; exact absurd ha (by rw [List.Nodup.mem_erase_iff h.nodup]; simp)
theorem PS.Wf.set {p : PS} (h : p.Wf) {n : Int} {f : FrT} (hn : (fget p.held n).isSome = true) : ({ p with held := fset p.held n f } : PS).Wf := by
  refine ⟨fset_sorted h.sorted, fun m => ?_, h.nodup⟩
  simp only
  rw [fget_fset, h.same]
  by_cases e : m = n
  · subst e; simp [hn]
  · simp [e]
/-- as many are in the list of what was used as are held. -/
theorem PS.Wf.len {p : PS} (h : p.Wf) : p.used.length = p.held.length := by
  have key : ∀ (u : List Int) (l : List (Int × FrT)), SortedF l → u.Nodup → (∀ n, n ∈ u ↔ (fget l n).isSome = true) → u.length = l.length := by
    intro u
    induction u with
    | nil =>
      intro l _ _ hs
      cases l with
      | nil => rfl
      | cons x l =>
        have := (hs x.1).2 (fget_isSome.2 ⟨x, by simp, rfl⟩)
        cases this
    | cons n u ih =>
      intro l hl hu hs
      have hn := (hs n).1 (by simp)
      have hlen := fdel_len hl hn
      have hu2 := List.nodup_cons.1 hu
      have := ih (fdel l n) (fdel_sorted hl) hu2.2 (fun m => by
        rw [fget_fdel]
        by_cases e : m = n
        · subst e; simp [hu2.1]
        · rw [if_neg e, ← hs m]; simp [e])
      simp only [List.length_cons]; omega
  exact key _ _ h.sorted h.nodup h.same
end Go.Sx
end
