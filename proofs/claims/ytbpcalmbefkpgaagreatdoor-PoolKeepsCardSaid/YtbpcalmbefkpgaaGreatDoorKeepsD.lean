/- Part 4 of the proof: ZB, SxOrder, SxOrd2, SxOrd3, SxOrd4, ZC, SxRec, SxRow, SxRec2, SxPool, SxPool2, SxRng, SxEach, SxHeld, SxPool3, SxMv. -/
import Derived.Lib.Overlaps
import Derived.Laws.Externs
import Derived.Test.YtbpcalmbefkpgaaGreatDoorRows
import Derived.ProofKit
import Derived.Lay
import Derived.LaidMore
import Derived.OpenShut
import Derived.Stop.Joined
import Derived.Handed
import Derived.ChangeSlices
import Derived.MakeChecks
import Derived.Lib.LaidTab
import Derived.Lib.LaidU8
import Derived.Test.YtbpcalmbefkpgaaGreatDoorKeepsA
import Derived.Test.YtbpcalmbefkpgaaGreatDoorKeepsB
import Derived.Test.YtbpcalmbefkpgaaGreatDoorKeepsC
set_option linter.unusedVariables false
set_option linter.unusedSimpArgs false

section
set_option maxRecDepth 100000
set_option linter.unusedVariables false
namespace Go.Sx
open Go
/-- concordance/pool.New -/
noncomputable def pool_New_body : Code := (Go.Proofs.Tryz.f10.body).getD .skip

def pool_New_g3 (K : Value → World → Prop) (ds : List Deferred) (x0 : Value) (x1 : Value) (x2 : Value) (x18 : Value) (x20 : Value) (w : World) : Prop :=
  pickV x18 (.bool true) x20 (fun t21_1 w =>
  cnd t21_1 (
  leaveW Pg ds (fun w => K (.tuple #[(.pointer none), (.int .i64 1)]) w) w) (
  run Pg (Instr.build 84 #[(0, x0), (1, x1), (2, x2)]) (fun t25_2 w =>
  run Pg (Instr.box 84 t25_2) (fun t26_3 w =>
  leaveW Pg ds (fun w => K (.tuple #[t26_3, (.int .i64 0)]) w) w) w) w)) w

theorem pool_New_g3_eq (K : Value → World → Prop) : opsG (op1W Pg) (rOps (cL (cL (cR pool_New_body)))).toList ((groups (rOps (cL (cL (cR pool_New_body)))).toList).drop 6) 13 (W Pg (cR (cL (cR pool_New_body))) false (thenP (W Pg (cR (cR pool_New_body)) false (retQ Pg [.tmp 6, .tmp 7] K)) (retQ Pg [.tmp 6, .tmp 7] K))) = (fun s w => pool_New_g3 K s.ds (s.f 0) (s.f 1) (s.f 2) (s.f 18) (s.f 20) w) :=
  by kernel_rfl

def pool_New_g2 (K : Value → World → Prop) (ds : List Deferred) (x0 : Value) (x1 : Value) (x2 : Value) (x14 : Value) (x16 : Value) (w : World) : Prop :=
  pickV x14 (.bool true) x16 (fun t17_4 w =>
  gcond t17_4 false (
  run Pg (binS .gtr 3 true x1 (.int .i64 64)) (fun t20_5 w =>
  pool_New_g3 K ds x0 x1 x2 t17_4 t20_5 w) w) (
  pool_New_g3 K ds x0 x1 x2 t17_4 undef w)) w

theorem pool_New_g2_eq (K : Value → World → Prop) : opsG (op1W Pg) (rOps (cL (cL (cR pool_New_body)))).toList ((groups (rOps (cL (cL (cR pool_New_body)))).toList).drop 4) 9 (W Pg (cR (cL (cR pool_New_body))) false (thenP (W Pg (cR (cR pool_New_body)) false (retQ Pg [.tmp 6, .tmp 7] K)) (retQ Pg [.tmp 6, .tmp 7] K))) = (fun s w => pool_New_g2 K s.ds (s.f 0) (s.f 1) (s.f 2) (s.f 14) (s.f 16) w) :=
  Eq.trans (eqPlain (eqGrd (pool_New_g3_eq K))) (by kernel_rfl)

def pool_New_g1 (K : Value → World → Prop) (ds : List Deferred) (x0 : Value) (x1 : Value) (x2 : Value) (x10 : Value) (x12 : Value) (w : World) : Prop :=
  pickV x10 (.bool true) x12 (fun t13_6 w =>
  gcond t13_6 false (
  run Pg (binS .lss 3 true x1 (.int .i64 1)) (fun t16_7 w =>
  pool_New_g2 K ds x0 x1 x2 t13_6 t16_7 w) w) (
  pool_New_g2 K ds x0 x1 x2 t13_6 undef w)) w

theorem pool_New_g1_eq (K : Value → World → Prop) : opsG (op1W Pg) (rOps (cL (cL (cR pool_New_body)))).toList ((groups (rOps (cL (cL (cR pool_New_body)))).toList).drop 2) 5 (W Pg (cR (cL (cR pool_New_body))) false (thenP (W Pg (cR (cR pool_New_body)) false (retQ Pg [.tmp 6, .tmp 7] K)) (retQ Pg [.tmp 6, .tmp 7] K))) = (fun s w => pool_New_g1 K s.ds (s.f 0) (s.f 1) (s.f 2) (s.f 10) (s.f 12) w) :=
  Eq.trans (eqPlain (eqGrd (pool_New_g2_eq K))) (by kernel_rfl)

def pool_New (K : Value → World → Prop) (ds : List Deferred) (x0 : Value) (x1 : Value) (x2 : Value) (w : World) : Prop :=
  run Pg (binS .eql 28 true x0 (.pointer none)) (fun t9_8 w =>
  gcond t9_8 false (
  run Pg (binS .eql 34 true x2 .nilFunc) (fun t12_9 w =>
  pool_New_g1 K ds x0 x1 x2 t9_8 t12_9 w) w) (
  pool_New_g1 K ds x0 x1 x2 t9_8 undef w)) w

theorem pool_New_eq (K : Value → World → Prop) : W Pg pool_New_body false (retQ Pg [.tmp 6, .tmp 7] K) = (fun s w => pool_New K s.ds (s.f 0) (s.f 1) (s.f 2) w) :=
  Eq.trans (eqSeq (eqSeqL (eqSeqL (eqReg (rd := false) (id := 1) (ops := rOps (cL (cL (cR pool_New_body)))) (by kernel_rfl) (eqPlain (eqGrd (pool_New_g1_eq K))))))) (by kernel_rfl)

theorem pool_New_ok : FnOk Pg F.pool_New Go.Proofs.Tryz.f10 pool_New_body 3 := ⟨Go.Proofs.Tryz.func10, by kernel_rfl, by kernel_rfl, by kernel_rfl, by kernel_rfl, by kernel_rfl⟩

theorem pool_New_callS {K : Value → World → Prop} {x0 : Value} {x1 : Value} {x2 : Value} {w : World} (h : pool_New K [] x0 x1 x2 w) : callS Pg F.pool_New [x0, x1, x2] K w :=
  call_of_W pool_New_ok (Eq.mpr (congrFun (congrFun (pool_New_eq K) ⟨argFr [x0, x1, x2], []⟩) w) h)

theorem pool_New_call {K : Value → World → Prop} {x0 : Value} {x1 : Value} {x2 : Value} {w : World} (h : pool_New K [] x0 x1 x2 w) : call Pg F.pool_New [x0, x1, x2] K w := .inl (pool_New_callS h)

/-- (*concordance/pool.Pool).Pin -/
noncomputable def pool_Pool_Pin_body : Code := (Go.Proofs.Tryz.f12.body).getD .skip

def pool_Pool_Pin_j2 (K : Value → World → Prop) (ds : List Deferred) (x0 : Value) (x1 : Value) (x6 : Value) (w : World) : Prop :=
  run Pg (nilS x6) (fun t68_1 w =>
  run Pg (Instr.fieldAt 90 t68_1 1) (fun t69_2 w =>
  run Pg (Instr.loadAt 3 t69_2) (fun t70_3 w =>
  run Pg (binS .add 3 true t70_3 (.int .i64 1)) (fun t71_4 w =>
  run Pg (nilS x6) (fun t72_5 w =>
  run Pg (Instr.fieldAt 90 t72_5 1) (fun t73_6 w =>
  runU Pg (Instr.storeAt 3 t73_6 t71_4) (fun w =>
  run Pg (nilS x0) (fun t75_7 w =>
  run Pg (Instr.fieldAt 84 t75_7 4) (fun t76_8 w =>
  call Pg F.order_Recent_int_Use [t76_8, x1] (fun t78_9 w =>
  run Pg (nilS x6) (fun t80_10 w =>
  run Pg (Instr.fieldAt 90 t80_10 0) (fun t81_11 w =>
  run Pg (Instr.loadAt 9 t81_11) (fun t82_12 w =>
  leaveW Pg ds (fun w => K (.tuple #[t82_12, (.int .i64 0)]) w) w) w) w) w) w) w) w) w) w) w) w) w) w) w

theorem pool_Pool_Pin_j2_eq (K : Value → World → Prop) : W Pg (cR (cR (cR (cR pool_Pool_Pin_body)))) false (retQ Pg [.tmp 4, .tmp 5] K) = (fun s w => pool_Pool_Pin_j2 K s.ds (s.f 0) (s.f 1) (s.f 6) w) :=
  by kernel_rfl

def pool_Pool_Pin_j1 (K : Value → World → Prop) (ds : List Deferred) (x0 : Value) (x1 : Value) (w : World) : Prop :=
  run Pg (nilS x0) (fun t28_13 w =>
  run Pg (Instr.fieldAt 84 t28_13 3) (fun t29_14 w =>
  call Pg F.order_Map_int_pool_frame_Get [t29_14, x1] (fun t31_15 w =>
  run Pg (Instr.extract t31_15 0) (fun t32_16 w =>
  run Pg (Instr.extract t31_15 1) (fun t33_17 w =>
  run Pg (Op.unary .not t33_17) (fun t35_18 w =>
  cnd t35_18 (
  call Pg F.pool_Pool_space [x0] (fun t37_19 w =>
  run Pg (binS .neq 25 true t37_19 (.int .i64 0)) (fun t39_20 w =>
  cnd t39_20 (
  leaveW Pg ds (fun w => K (.tuple #[(.string ⟨#[]⟩), t37_19]) w) w) (
  run Pg (nilS x0) (fun t43_21 w =>
  run Pg (Instr.fieldAt 84 t43_21 0) (fun t44_22 w =>
  run Pg (Instr.loadAt 28 t44_22) (fun t45_23 w =>
  call Pg F.twin_Area_Read [t45_23, x1] (fun t47_24 w =>
  run Pg (Instr.extract t47_24 0) (fun t48_25 w =>
  run Pg (Instr.extract t47_24 1) (fun t49_26 w =>
  run Pg (binS .neq 25 true t49_26 (.int .i64 0)) (fun t52_27 w =>
  cnd t52_27 (
  leaveW Pg ds (fun w => K (.tuple #[(.string ⟨#[]⟩), t49_26]) w) w) (
  call Pg F.page_Whole [t48_25] (fun t56_28 w =>
  run Pg (Op.unary .not t56_28) (fun t57_29 w =>
  cnd t57_29 (
  leaveW Pg ds (fun w => K (.tuple #[(.string ⟨#[]⟩), (.int .i64 19)]) w) w) (
  run Pg (Instr.build 90 #[(0, t48_25)]) (fun t59_30 w =>
  run Pg (Instr.box 90 t59_30) (fun t60_31 w =>
  run Pg (nilS x0) (fun t62_32 w =>
  run Pg (Instr.fieldAt 84 t62_32 3) (fun t63_33 w =>
  call Pg F.order_Map_int_pool_frame_Set [t63_33, x1, t60_31] (fun t66_34 w =>
  pool_Pool_Pin_j2 K ds x0 x1 t60_31 w) w) w) w) w) w)) w) w)) w) w) w) w) w) w) w)) w) w) (
  pool_Pool_Pin_j2 K ds x0 x1 t32_16 w)) w) w) w) w) w) w

theorem pool_Pool_Pin_j1_eq (K : Value → World → Prop) : W Pg (cR (cR pool_Pool_Pin_body)) false (retQ Pg [.tmp 4, .tmp 5] K) = (fun s w => pool_Pool_Pin_j1 K s.ds (s.f 0) (s.f 1) w) :=
  Eq.trans (eqSeq (eqSeq (pool_Pool_Pin_j2_eq K))) (by kernel_rfl)

def pool_Pool_Pin_g4 (K : Value → World → Prop) (ds : List Deferred) (x0 : Value) (x1 : Value) (x17 : Value) (x24 : Value) (w : World) : Prop :=
  pickV x17 (.bool true) x24 (fun t25_35 w =>
  cnd t25_35 (
  leaveW Pg ds (fun w => K (.tuple #[(.string ⟨#[]⟩), (.int .i64 1)]) w) w) (
  pool_Pool_Pin_j1 K ds x0 x1 w)) w

theorem pool_Pool_Pin_g4_eq (K : Value → World → Prop) : opsG (op1W Pg) (rOps (cL (cL (cR pool_Pool_Pin_body)))).toList ((groups (rOps (cL (cL (cR pool_Pool_Pin_body)))).toList).drop 4) 14 (W Pg (cR (cL (cR pool_Pool_Pin_body))) false (thenP (fun s w => pool_Pool_Pin_j1 K s.ds (s.f 0) (s.f 1) w) (retQ Pg [.tmp 4, .tmp 5] K))) = (fun s w => pool_Pool_Pin_g4 K s.ds (s.f 0) (s.f 1) (s.f 17) (s.f 24) w) :=
  by kernel_rfl

def pool_Pool_Pin_g3 (K : Value → World → Prop) (ds : List Deferred) (x0 : Value) (x1 : Value) (x13 : Value) (x15 : Value) (w : World) : Prop :=
  pickV x13 (.bool true) x15 (fun t16_36 w =>
  gcond t16_36 false (
  run Pg (nilS x0) (fun t20_37 w =>
  run Pg (Instr.fieldAt 84 t20_37 0) (fun t21_38 w =>
  run Pg (Instr.loadAt 28 t21_38) (fun t22_39 w =>
  call Pg F.twin_Area_Pages [t22_39] (fun t23_40 w =>
  run Pg (binS .geq 3 false x1 t23_40) (fun t24_41 w =>
  pool_Pool_Pin_g4 K ds x0 x1 t16_36 t24_41 w) w) w) w) w) w) (
  pool_Pool_Pin_g4 K ds x0 x1 t16_36 undef w)) w

theorem pool_Pool_Pin_g3_eq (K : Value → World → Prop) : opsG (op1W Pg) (rOps (cL (cL (cR pool_Pool_Pin_body)))).toList ((groups (rOps (cL (cL (cR pool_Pool_Pin_body)))).toList).drop 2) 5 (W Pg (cR (cL (cR pool_Pool_Pin_body))) false (thenP (fun s w => pool_Pool_Pin_j1 K s.ds (s.f 0) (s.f 1) w) (retQ Pg [.tmp 4, .tmp 5] K))) = (fun s w => pool_Pool_Pin_g3 K s.ds (s.f 0) (s.f 1) (s.f 13) (s.f 15) w) :=
  Eq.trans (eqPlain (eqGrd (pool_Pool_Pin_g4_eq K))) (by kernel_rfl)

def pool_Pool_Pin (K : Value → World → Prop) (ds : List Deferred) (x0 : Value) (x1 : Value) (w : World) : Prop :=
  run Pg (binS .eql 31 true x0 (.pointer none)) (fun t12_42 w =>
  gcond t12_42 false (
  run Pg (binS .lss 3 true x1 (.int .i64 0)) (fun t15_43 w =>
  pool_Pool_Pin_g3 K ds x0 x1 t12_42 t15_43 w) w) (
  pool_Pool_Pin_g3 K ds x0 x1 t12_42 undef w)) w

theorem pool_Pool_Pin_eq (K : Value → World → Prop) : W Pg pool_Pool_Pin_body false (retQ Pg [.tmp 4, .tmp 5] K) = (fun s w => pool_Pool_Pin K s.ds (s.f 0) (s.f 1) w) :=
  Eq.trans (eqSeq ((eqSeq (pool_Pool_Pin_j1_eq K)).trans (eqSeqL (eqReg (rd := false) (id := 1) (ops := rOps (cL (cL (cR pool_Pool_Pin_body)))) (by kernel_rfl) (eqPlain (eqGrd (pool_Pool_Pin_g3_eq K))))))) (by kernel_rfl)

theorem pool_Pool_Pin_ok : FnOk Pg F.pool_Pool_Pin Go.Proofs.Tryz.f12 pool_Pool_Pin_body 2 := ⟨Go.Proofs.Tryz.func12, by kernel_rfl, by kernel_rfl, by kernel_rfl, by kernel_rfl, by kernel_rfl⟩

theorem pool_Pool_Pin_callS {K : Value → World → Prop} {x0 : Value} {x1 : Value} {w : World} (h : pool_Pool_Pin K [] x0 x1 w) : callS Pg F.pool_Pool_Pin [x0, x1] K w :=
  call_of_W pool_Pool_Pin_ok (Eq.mpr (congrFun (congrFun (pool_Pool_Pin_eq K) ⟨argFr [x0, x1], []⟩) w) h)

theorem pool_Pool_Pin_call {K : Value → World → Prop} {x0 : Value} {x1 : Value} {w : World} (h : pool_Pool_Pin K [] x0 x1 w) : call Pg F.pool_Pool_Pin [x0, x1] K w := .inl (pool_Pool_Pin_callS h)

/-- (*concordance/pool.Pool).space -/
noncomputable def pool_Pool_space_body : Code := (Go.Proofs.Tryz.f36.body).getD .skip

def pool_Pool_space (K : Value → World → Prop) (ds : List Deferred) (x0 : Value) (w : World) : Prop :=
  run Pg (Instr.box 31 x0) (fun p_1 w =>
  run Pg (Instr.alloc 25 true (.tuple #[])) (fun t2_2 w =>
  ∃ S : World → Prop, S w.drew ∧ (rn Pg (fun w' => w' = w.drew) (Instr.loadAt 31 p_1) (fun t6_3 w =>
  rn Pg (fun _ => True) (nilS t6_3) (fun t7_4 w =>
  rn Pg (fun _ => True) (Instr.fieldAt 84 t7_4 3) (fun t8_5 w =>
  call Pg F.order_Map_int_pool_frame_Len [t8_5] (fun t9_6 w =>
  S w ∧ rn Pg S (Instr.loadAt 31 p_1) (fun t10_7 w =>
  rn Pg (fun _ => True) (nilS t10_7) (fun t11_8 w =>
  rn Pg (fun _ => True) (Instr.fieldAt 84 t11_8 1) (fun t12_9 w =>
  rn Pg S (Instr.loadAt 3 t12_9) (fun t13_10 w =>
  rn Pg (fun _ => True) (binS .lss 3 false t9_6 t13_10) (fun t14_11 w =>
  cnd t14_11 (
  runU Pg (Instr.storeAt 25 t2_2 (.int .i64 0)) (fun w =>
  leaveW Pg ds (fun w => rn Pg (fun w' => w' = w) (loadS 25 t2_2) (fun t2_12 w =>
  K t2_12 w) w) w) w) (
  run Pg (Instr.loadAt 31 p_1) (fun t15_13 w =>
  run Pg (nilS t15_13) (fun t16_14 w =>
  run Pg (Instr.fieldAt 84 t16_14 4) (fun t17_15 w =>
  call Pg F.order_Recent_int_Oldest [t17_15] (fun t18_16 w =>
  Rng Pg t18_16 1 (fun args beg B w =>
  beg (fun w =>
  run Pg (Instr.loadAt 31 p_1) (fun t21_18 w =>
  run Pg (nilS t21_18) (fun t22_19 w =>
  run Pg (Instr.fieldAt 84 t22_19 3) (fun t23_20 w =>
  call Pg F.order_Map_int_pool_frame_Get [t23_20, (args.headD undef)] (fun t25_21 w =>
  run Pg (Instr.extract t25_21 0) (fun t26_22 w =>
  run Pg (Instr.extract t25_21 1) (fun t27_23 w =>
  run Pg (nilS t26_22) (fun t29_24 w =>
  run Pg (Instr.fieldAt 90 t29_24 1) (fun t30_25 w =>
  run Pg (Instr.loadAt 3 t30_25) (fun t31_26 w =>
  run Pg (binS .eql 3 true t31_26 (.int .i64 0)) (fun t32_27 w =>
  cnd t32_27 (
  run Pg (Instr.loadAt 31 p_1) (fun t33_28 w =>
  call Pg F.pool_Pool_out [t33_28, (args.headD undef), t26_22] (fun t36_29 w =>
  runU Pg (Instr.storeAt 25 t2_2 t36_29) (fun w =>
  B (some .ret) w) w) w) w) (
  B none w)) w) w) w) w) w) w) w) w) w) w) w) (jumpN (fun ds w =>
  runU Pg (Instr.storeAt 25 t2_2 (.int .i64 10)) (fun w =>
  leaveW Pg ds (fun w => rn Pg (fun w' => w' = w) (loadS 25 t2_2) (fun t2_30 w =>
  K t2_30 w) w) w) w) (fun ds w =>
  leaveW Pg ds (fun w => rn Pg (fun w' => w' = w) (loadS 25 t2_2) (fun t2_31 w =>
  K t2_31 w) w) w) (fun id ds w =>
  bif Nat.beq id 0 then runU Pg (Instr.storeAt 25 t2_2 (.int .i64 10)) (fun w =>
  leaveW Pg ds (fun w => rn Pg (fun w' => w' = w) (loadS 25 t2_2) (fun t2_17 w =>
  K t2_17 w) w) w) w else False)) ds w) w) w) w) w)) w) w) w) w) w) w) w) w) w.drew)) w) w

theorem pool_Pool_space_eq (K : Value → World → Prop) : W Pg pool_Pool_space_body false (retQ Pg [.cell 2 25] K) = (fun s w => pool_Pool_space K s.ds (s.f 0) w) :=
  Eq.trans (eqSeq (eqSeq (eqSeqL (eqSeq (eqBlock (eqRng (asg := rA (cB (cR (cL (cR (cR pool_Pool_space_body)))))) (body := rB (cB (cR (cL (cR (cR pool_Pool_space_body)))))) (fun beg B => rfl))))))) (by kernel_rfl)

theorem pool_Pool_space_ok : FnOk Pg F.pool_Pool_space Go.Proofs.Tryz.f36 pool_Pool_space_body 1 := ⟨Go.Proofs.Tryz.func36, by kernel_rfl, by kernel_rfl, by kernel_rfl, by kernel_rfl, by kernel_rfl⟩

theorem pool_Pool_space_callS {K : Value → World → Prop} {x0 : Value} {w : World} (h : pool_Pool_space K [] x0 w) : callS Pg F.pool_Pool_space [x0] K w :=
  call_of_W pool_Pool_space_ok (Eq.mpr (congrFun (congrFun (pool_Pool_space_eq K) ⟨argFr [x0], []⟩) w) h)

theorem pool_Pool_space_call {K : Value → World → Prop} {x0 : Value} {w : World} (h : pool_Pool_space K [] x0 w) : call Pg F.pool_Pool_space [x0] K w := .inl (pool_Pool_space_callS h)

/-- (*concordance/pool.Pool).pinned -/
noncomputable def pool_Pool_pinned_body : Code := (Go.Proofs.Tryz.f40.body).getD .skip

def pool_Pool_pinned_g1 (K : Value → World → Prop) (ds : List Deferred) (x6 : Value) (x20 : Value) (x25 : Value) (w : World) : Prop :=
  pickV x20 (.bool true) x25 (fun t26_1 w =>
  cnd t26_1 (
  leaveW Pg ds (fun w => K (.tuple #[(.pointer none), (.int .i64 17)]) w) w) (
  leaveW Pg ds (fun w => K (.tuple #[x6, (.int .i64 0)]) w) w)) w

theorem pool_Pool_pinned_g1_eq (K : Value → World → Prop) : opsG (op1W Pg) (rOps (cL (cL (cR (cR (cR pool_Pool_pinned_body)))))).toList ((groups (rOps (cL (cL (cR (cR (cR pool_Pool_pinned_body)))))).toList).drop 2) 8 (W Pg (cR (cL (cR (cR (cR pool_Pool_pinned_body))))) false (thenP (W Pg (cR (cR (cR (cR pool_Pool_pinned_body)))) false (retQ Pg [.tmp 4, .tmp 5] K)) (retQ Pg [.tmp 4, .tmp 5] K))) = (fun s w => pool_Pool_pinned_g1 K s.ds (s.f 6) (s.f 20) (s.f 25) w) :=
  by kernel_rfl

def pool_Pool_pinned (K : Value → World → Prop) (ds : List Deferred) (x0 : Value) (x1 : Value) (w : World) : Prop :=
  run Pg (binS .eql 31 true x0 (.pointer none)) (fun t9_2 w =>
  cnd t9_2 (
  leaveW Pg ds (fun w => K (.tuple #[(.pointer none), (.int .i64 1)]) w) w) (
  run Pg (nilS x0) (fun t12_3 w =>
  run Pg (Instr.fieldAt 84 t12_3 3) (fun t13_4 w =>
  call Pg F.order_Map_int_pool_frame_Get [t13_4, x1] (fun t15_5 w =>
  run Pg (Instr.extract t15_5 0) (fun t16_6 w =>
  run Pg (Instr.extract t15_5 1) (fun t17_7 w =>
  run Pg (Op.unary .not t17_7) (fun t19_8 w =>
  gcond t19_8 false (
  run Pg (nilS t16_6) (fun t22_9 w =>
  run Pg (Instr.fieldAt 90 t22_9 1) (fun t23_10 w =>
  run Pg (Instr.loadAt 3 t23_10) (fun t24_11 w =>
  run Pg (binS .eql 3 true t24_11 (.int .i64 0)) (fun t25_12 w =>
  pool_Pool_pinned_g1 K ds t16_6 t19_8 t25_12 w) w) w) w) w) (
  pool_Pool_pinned_g1 K ds t16_6 t19_8 undef w)) w) w) w) w) w) w)) w

theorem pool_Pool_pinned_eq (K : Value → World → Prop) : W Pg pool_Pool_pinned_body false (retQ Pg [.tmp 4, .tmp 5] K) = (fun s w => pool_Pool_pinned K s.ds (s.f 0) (s.f 1) w) :=
  Eq.trans (eqSeq (eqSeq (eqSeq (eqSeqL (eqSeqL (eqReg (rd := false) (id := 4) (ops := rOps (cL (cL (cR (cR (cR pool_Pool_pinned_body)))))) (by kernel_rfl) (eqPlain (eqGrd (pool_Pool_pinned_g1_eq K))))))))) (by kernel_rfl)

theorem pool_Pool_pinned_ok : FnOk Pg F.pool_Pool_pinned Go.Proofs.Tryz.f40 pool_Pool_pinned_body 2 := ⟨Go.Proofs.Tryz.func40, by kernel_rfl, by kernel_rfl, by kernel_rfl, by kernel_rfl, by kernel_rfl⟩

theorem pool_Pool_pinned_callS {K : Value → World → Prop} {x0 : Value} {x1 : Value} {w : World} (h : pool_Pool_pinned K [] x0 x1 w) : callS Pg F.pool_Pool_pinned [x0, x1] K w :=
  call_of_W pool_Pool_pinned_ok (Eq.mpr (congrFun (congrFun (pool_Pool_pinned_eq K) ⟨argFr [x0, x1], []⟩) w) h)

theorem pool_Pool_pinned_call {K : Value → World → Prop} {x0 : Value} {x1 : Value} {w : World} (h : pool_Pool_pinned K [] x0 x1 w) : call Pg F.pool_Pool_pinned [x0, x1] K w := .inl (pool_Pool_pinned_callS h)

/-- (*concordance/pool.Pool).Unpin -/
noncomputable def pool_Pool_Unpin_body : Code := (Go.Proofs.Tryz.f13.body).getD .skip

def pool_Pool_Unpin_j1 (K : Value → World → Prop) (ds : List Deferred) (x6 : Value) (w : World) : Prop :=
  leaveW Pg ds (fun w => K x6 w) w

theorem pool_Pool_Unpin_j1_eq (K : Value → World → Prop) : W Pg (cR (cR (cR pool_Pool_Unpin_body))) false (retQ Pg [.tmp 4] K) = (fun s w => pool_Pool_Unpin_j1 K s.ds (s.f 6) w) :=
  by kernel_rfl

def pool_Pool_Unpin (K : Value → World → Prop) (ds : List Deferred) (x0 : Value) (x1 : Value) (w : World) : Prop :=
  call Pg F.pool_Pool_pinned [x0, x1] (fun t10_1 w =>
  run Pg (Instr.extract t10_1 0) (fun t11_2 w =>
  run Pg (Instr.extract t10_1 1) (fun t12_3 w =>
  run Pg (binS .eql 25 true t12_3 (.int .i64 0)) (fun t14_4 w =>
  cnd t14_4 (
  run Pg (nilS t11_2) (fun t16_5 w =>
  run Pg (Instr.fieldAt 90 t16_5 1) (fun t17_6 w =>
  run Pg (Instr.loadAt 3 t17_6) (fun t18_7 w =>
  run Pg (binS .sub 3 true t18_7 (.int .i64 1)) (fun t19_8 w =>
  run Pg (nilS t11_2) (fun t20_9 w =>
  run Pg (Instr.fieldAt 90 t20_9 1) (fun t21_10 w =>
  runU Pg (Instr.storeAt 3 t21_10 t19_8) (fun w =>
  pool_Pool_Unpin_j1 K ds t12_3 w) w) w) w) w) w) w) w) (
  pool_Pool_Unpin_j1 K ds t12_3 w)) w) w) w) w

theorem pool_Pool_Unpin_eq (K : Value → World → Prop) : W Pg pool_Pool_Unpin_body false (retQ Pg [.tmp 4] K) = (fun s w => pool_Pool_Unpin K s.ds (s.f 0) (s.f 1) w) :=
  Eq.trans (eqSeq (eqSeq (eqSeq (pool_Pool_Unpin_j1_eq K)))) (by kernel_rfl)

theorem pool_Pool_Unpin_ok : FnOk Pg F.pool_Pool_Unpin Go.Proofs.Tryz.f13 pool_Pool_Unpin_body 2 := ⟨Go.Proofs.Tryz.func13, by kernel_rfl, by kernel_rfl, by kernel_rfl, by kernel_rfl, by kernel_rfl⟩

theorem pool_Pool_Unpin_callS {K : Value → World → Prop} {x0 : Value} {x1 : Value} {w : World} (h : pool_Pool_Unpin K [] x0 x1 w) : callS Pg F.pool_Pool_Unpin [x0, x1] K w :=
  call_of_W pool_Pool_Unpin_ok (Eq.mpr (congrFun (congrFun (pool_Pool_Unpin_eq K) ⟨argFr [x0, x1], []⟩) w) h)

theorem pool_Pool_Unpin_call {K : Value → World → Prop} {x0 : Value} {x1 : Value} {w : World} (h : pool_Pool_Unpin K [] x0 x1 w) : call Pg F.pool_Pool_Unpin [x0, x1] K w := .inl (pool_Pool_Unpin_callS h)

/-- (*concordance/pool.Pool).out -/
noncomputable def pool_Pool_out_body : Code := (Go.Proofs.Tryz.f42.body).getD .skip

def pool_Pool_out_j1 (K : Value → World → Prop) (ds : List Deferred) (x0 : Value) (x1 : Value) (w : World) : Prop :=
  run Pg (nilS x0) (fun t20_1 w =>
  run Pg (Instr.fieldAt 84 t20_1 3) (fun t21_2 w =>
  call Pg F.order_Map_int_pool_frame_Delete [t21_2, x1] (fun t23_3 w =>
  run Pg (nilS x0) (fun t25_4 w =>
  run Pg (Instr.fieldAt 84 t25_4 4) (fun t26_5 w =>
  call Pg F.order_Recent_int_Drop [t26_5, x1] (fun t28_6 w =>
  leaveW Pg ds (fun w => K (.int .i64 0) w) w) w) w) w) w) w) w

theorem pool_Pool_out_j1_eq (K : Value → World → Prop) : W Pg (cR (cR pool_Pool_out_body)) false (retQ Pg [.tmp 6] K) = (fun s w => pool_Pool_out_j1 K s.ds (s.f 0) (s.f 1) w) :=
  by kernel_rfl

def pool_Pool_out (K : Value → World → Prop) (ds : List Deferred) (x0 : Value) (x1 : Value) (x2 : Value) (w : World) : Prop :=
  run Pg (nilS x2) (fun t9_7 w =>
  run Pg (Instr.fieldAt 90 t9_7 2) (fun t10_8 w =>
  run Pg (Instr.loadAt 4 t10_8) (fun t11_9 w =>
  cnd t11_9 (
  run Pg (Instr.buildSlice 22 1 #[(0, x1)]) (fun t14_10 w =>
  call Pg F.pool_Pool_write [x0, t14_10] (fun t15_11 w =>
  run Pg (binS .neq 25 true t15_11 (.int .i64 0)) (fun t17_12 w =>
  cnd t17_12 (
  leaveW Pg ds (fun w => K t15_11 w) w) (
  pool_Pool_out_j1 K ds x0 x1 w)) w) w) w) (
  pool_Pool_out_j1 K ds x0 x1 w)) w) w) w

theorem pool_Pool_out_eq (K : Value → World → Prop) : W Pg pool_Pool_out_body false (retQ Pg [.tmp 6] K) = (fun s w => pool_Pool_out K s.ds (s.f 0) (s.f 1) (s.f 2) w) :=
  Eq.trans (eqSeq (eqSeq (pool_Pool_out_j1_eq K))) (by kernel_rfl)

theorem pool_Pool_out_ok : FnOk Pg F.pool_Pool_out Go.Proofs.Tryz.f42 pool_Pool_out_body 3 := ⟨Go.Proofs.Tryz.func42, by kernel_rfl, by kernel_rfl, by kernel_rfl, by kernel_rfl, by kernel_rfl⟩

theorem pool_Pool_out_callS {K : Value → World → Prop} {x0 : Value} {x1 : Value} {x2 : Value} {w : World} (h : pool_Pool_out K [] x0 x1 x2 w) : callS Pg F.pool_Pool_out [x0, x1, x2] K w :=
  call_of_W pool_Pool_out_ok (Eq.mpr (congrFun (congrFun (pool_Pool_out_eq K) ⟨argFr [x0, x1, x2], []⟩) w) h)

theorem pool_Pool_out_call {K : Value → World → Prop} {x0 : Value} {x1 : Value} {x2 : Value} {w : World} (h : pool_Pool_out K [] x0 x1 x2 w) : call Pg F.pool_Pool_out [x0, x1, x2] K w := .inl (pool_Pool_out_callS h)

/-- (*concordance/pool.Pool).write -/
noncomputable def pool_Pool_write_body : Code := (Go.Proofs.Tryz.f45.body).getD .skip

def pool_Pool_write_j2 (K : Value → World → Prop) (ds : List Deferred) (w : World) : Prop :=
  leaveW Pg ds (fun w => K (.int .i64 0) w) w

theorem pool_Pool_write_j2_eq (K : Value → World → Prop) : W Pg (cR (cR (cR (cR (cR (cR (cR (cR pool_Pool_write_body)))))))) false (retQ Pg [.tmp 4] K) = (fun s w => pool_Pool_write_j2 K s.ds  w) :=
  by kernel_rfl

def pool_Pool_write_l3 (K : Value → World → Prop) (X1 : List Deferred × Value × Value × Value × Value → World → Prop) (st : List Deferred × Value × Value × Value × Value) (w : World) : Prop :=
  run Pg (binS .lss 3 false st.2.2.2.2 st.2.2.2.1) (fun t72_1 w =>
  cnd t72_1 (
  run Pg (Instr.indexAt 22 st.2.2.1 st.2.2.2.2) (fun t73_2 w =>
  run Pg (Instr.loadAt 3 t73_2) (fun t74_3 w =>
  run Pg (nilS st.2.1) (fun t77_4 w =>
  run Pg (Instr.fieldAt 84 t77_4 3) (fun t78_5 w =>
  call Pg F.order_Map_int_pool_frame_Get [t78_5, t74_3] (fun t80_6 w =>
  run Pg (Instr.extract t80_6 0) (fun t81_7 w =>
  run Pg (Instr.extract t80_6 1) (fun t82_8 w =>
  run Pg (nilS t81_7) (fun t84_9 w =>
  run Pg (Instr.fieldAt 90 t84_9 2) (fun t85_10 w =>
  runU Pg (Instr.storeAt 4 t85_10 (.bool false)) (fun w =>
  run Pg (binS .add 3 true st.2.2.2.2 (.int .i64 1)) (fun t86_11 w =>
  X1 (st.1, st.2.1, st.2.2.1, st.2.2.2.1, t86_11) w) w) w) w) w) w) w) w) w) w) w) w) (
  pool_Pool_write_j2 K st.1  w)) w

theorem pool_Pool_write_l3_eq (K : Value → World → Prop) (X1 : List Deferred × Value × Value × Value × Value → World → Prop) : W Pg (cB (cB (cR (cL (cR (cR (cR (cR (cR (cR (cR pool_Pool_write_body))))))))))) false (thenP (fun s w => X1 (s.ds, s.f 0, s.f 69, s.f 70, s.f 71) w) (blockP 2 (thenP (fun s w => pool_Pool_write_j2 K s.ds  w) (retQ Pg [.tmp 4] K)))) = (fun s w => pool_Pool_write_l3 K X1 (s.ds, s.f 0, s.f 69, s.f 70, s.f 71) w) :=
  by kernel_rfl

theorem pool_Pool_write_l3_mono (K : Value → World → Prop) : ∀ X Y : List Deferred × Value × Value × Value × Value → World → Prop, (∀ t w, X t w → Y t w) → ∀ t w, pool_Pool_write_l3 K X t w → pool_Pool_write_l3 K Y t w :=
  loop_mono (fun s : St => ((s.ds, s.f 0, s.f 69, s.f 70, s.f 71) : List Deferred × Value × Value × Value × Value)) (fun X1 => pool_Pool_write_l3_eq K X1) (fun t => ⟨fun i => (bif Nat.beq i 0 then t.2.1 else (bif Nat.beq i 69 then t.2.2.1 else (bif Nat.beq i 70 then t.2.2.2.1 else (bif Nat.beq i 71 then t.2.2.2.2 else undef)))), t.1⟩) (fun _ => rfl)

def pool_Pool_write_j1 (K : Value → World → Prop) (ds : List Deferred) (x0 : Value) (x1 : Value) (x5 : Value) (x6 : Value) (w : World) : Prop :=
  run Pg (Builtin.len_ #[130] 3 #[x5]) (fun t49_12 w =>
  run Pg (binS .eql 3 true t49_12 (.int .i64 0)) (fun t50_13 w =>
  cnd t50_13 (
  leaveW Pg ds (fun w => K (.int .i64 0) w) w) (
  run Pg (nilS x0) (fun t52_14 w =>
  run Pg (Instr.fieldAt 84 t52_14 2) (fun t53_15 w =>
  run Pg (Instr.loadAt 34 t53_15) (fun t54_16 w =>
  callV Pg t54_16 [x6] (fun t56_17 w =>
  run Pg (binS .neq 25 true t56_17 (.int .i64 0)) (fun t58_18 w =>
  cnd t58_18 (
  leaveW Pg ds (fun w => K t56_17 w) w) (
  run Pg (nilS x0) (fun t61_19 w =>
  run Pg (Instr.fieldAt 84 t61_19 0) (fun t62_20 w =>
  run Pg (Instr.loadAt 28 t62_20) (fun t63_21 w =>
  call Pg F.twin_Area_Write [t63_21, x5] (fun t65_22 w =>
  run Pg (binS .neq 25 true t65_22 (.int .i64 0)) (fun t67_23 w =>
  cnd t67_23 (
  leaveW Pg ds (fun w => K t65_22 w) w) (
  run Pg (Builtin.len_ #[22] 3 #[x1]) (fun t70_24 w =>
  Lp (pool_Pool_write_l3 K) (ds, x0, x1, t70_24, (.int .i64 0)) w) w)) w) w) w) w) w)) w) w) w) w) w)) w) w

theorem pool_Pool_write_j1_eq (K : Value → World → Prop) : W Pg (cR (cR (cR (cR pool_Pool_write_body)))) false (retQ Pg [.tmp 4] K) = (fun s w => pool_Pool_write_j1 K s.ds (s.f 0) (s.f 1) (s.f 5) (s.f 6) w) :=
  Eq.trans (eqSeq (eqSeq (eqSeq ((eqSeq (pool_Pool_write_j2_eq K)).trans (eqSeq (eqBlock (eqLoop (rd := false) (fun s : St => ((s.ds, s.f 0, s.f 69, s.f 70, s.f 71) : List Deferred × Value × Value × Value × Value)) (fun X1 => pool_Pool_write_l3_eq K X1)))))))) (by kernel_rfl)

def pool_Pool_write_l4 (K : Value → World → Prop) (X1 : List Deferred × Value × Value × Value × Value × Value × Value × Value → World → Prop) (st : List Deferred × Value × Value × Value × Value × Value × Value × Value) (w : World) : Prop :=
  run Pg (binS .lss 3 false st.2.2.2.2.2.2.2 st.2.2.2.2.2.2.1) (fun t20_25 w =>
  cnd t20_25 (
  run Pg (Instr.indexAt 22 st.2.2.2.2.2.1 st.2.2.2.2.2.2.2) (fun t21_26 w =>
  run Pg (Instr.loadAt 3 t21_26) (fun t22_27 w =>
  run Pg (nilS st.2.1) (fun t25_28 w =>
  run Pg (Instr.fieldAt 84 t25_28 3) (fun t26_29 w =>
  call Pg F.order_Map_int_pool_frame_Get [t26_29, t22_27] (fun t28_30 w =>
  run Pg (Instr.extract t28_30 0) (fun t29_31 w =>
  run Pg (Instr.extract t28_30 1) (fun t30_32 w =>
  run Pg (nilS t29_31) (fun t34_33 w =>
  run Pg (Instr.fieldAt 90 t34_33 0) (fun t35_34 w =>
  run Pg (Instr.loadAt 9 t35_34) (fun t36_35 w =>
  run Pg (Instr.build 132 #[(0, t22_27), (1, t36_35)]) (fun t37_36 w =>
  run Pg (Instr.buildSlice 130 1 #[(0, t37_36)]) (fun t38_37 w =>
  run Pg (Builtin.append_ #[130, 130] 130 #[st.2.2.2.1, t38_37]) (fun t39_38 w =>
  run Pg (nilS t29_31) (fun t42_39 w =>
  run Pg (Instr.fieldAt 90 t42_39 0) (fun t43_40 w =>
  run Pg (Instr.loadAt 9 t43_40) (fun t44_41 w =>
  call Pg F.page_LSN [t44_41] (fun t45_42 w =>
  run Pg (Builtin.max_ #[3, 3] 3 #[st.2.2.2.2.1, t45_42]) (fun t46_43 w =>
  run Pg (binS .add 3 true st.2.2.2.2.2.2.2 (.int .i64 1)) (fun t47_44 w =>
  X1 (st.1, st.2.1, st.2.2.1, t39_38, t46_43, st.2.2.2.2.2.1, st.2.2.2.2.2.2.1, t47_44) w) w) w) w) w) w) w) w) w) w) w) w) w) w) w) w) w) w) w) w) (
  pool_Pool_write_j1 K st.1 st.2.1 st.2.2.1 st.2.2.2.1 st.2.2.2.2.1 w)) w

theorem pool_Pool_write_l4_eq (K : Value → World → Prop) (X1 : List Deferred × Value × Value × Value × Value × Value × Value × Value → World → Prop) : W Pg (cB (cB (cR (cL (cR (cR (cR pool_Pool_write_body))))))) false (thenP (fun s w => X1 (s.ds, s.f 0, s.f 1, s.f 5, s.f 6, s.f 17, s.f 18, s.f 19) w) (blockP 0 (thenP (fun s w => pool_Pool_write_j1 K s.ds (s.f 0) (s.f 1) (s.f 5) (s.f 6) w) (retQ Pg [.tmp 4] K)))) = (fun s w => pool_Pool_write_l4 K X1 (s.ds, s.f 0, s.f 1, s.f 5, s.f 6, s.f 17, s.f 18, s.f 19) w) :=
  by kernel_rfl

theorem pool_Pool_write_l4_mono (K : Value → World → Prop) : ∀ X Y : List Deferred × Value × Value × Value × Value × Value × Value × Value → World → Prop, (∀ t w, X t w → Y t w) → ∀ t w, pool_Pool_write_l4 K X t w → pool_Pool_write_l4 K Y t w :=
  loop_mono (fun s : St => ((s.ds, s.f 0, s.f 1, s.f 5, s.f 6, s.f 17, s.f 18, s.f 19) : List Deferred × Value × Value × Value × Value × Value × Value × Value)) (fun X1 => pool_Pool_write_l4_eq K X1) (fun t => ⟨fun i => (bif Nat.beq i 0 then t.2.1 else (bif Nat.beq i 1 then t.2.2.1 else (bif Nat.beq i 5 then t.2.2.2.1 else (bif Nat.beq i 6 then t.2.2.2.2.1 else (bif Nat.beq i 17 then t.2.2.2.2.2.1 else (bif Nat.beq i 18 then t.2.2.2.2.2.2.1 else (bif Nat.beq i 19 then t.2.2.2.2.2.2.2 else undef))))))), t.1⟩) (fun _ => rfl)

def pool_Pool_write (K : Value → World → Prop) (ds : List Deferred) (x0 : Value) (x1 : Value) (w : World) : Prop :=
  run Pg (Builtin.len_ #[22] 3 #[x1]) (fun t18_45 w =>
  Lp (pool_Pool_write_l4 K) (ds, x0, x1, (.slice none 0 0), (.int .i64 0), x1, t18_45, (.int .i64 0)) w) w

theorem pool_Pool_write_eq (K : Value → World → Prop) : W Pg pool_Pool_write_body false (retQ Pg [.tmp 4] K) = (fun s w => pool_Pool_write K s.ds (s.f 0) (s.f 1) w) :=
  Eq.trans (eqSeq (eqSeq (eqSeq ((eqSeq (pool_Pool_write_j1_eq K)).trans (eqSeq (eqBlock (eqLoop (rd := false) (fun s : St => ((s.ds, s.f 0, s.f 1, s.f 5, s.f 6, s.f 17, s.f 18, s.f 19) : List Deferred × Value × Value × Value × Value × Value × Value × Value)) (fun X1 => pool_Pool_write_l4_eq K X1)))))))) (by kernel_rfl)

theorem pool_Pool_write_ok : FnOk Pg F.pool_Pool_write Go.Proofs.Tryz.f45 pool_Pool_write_body 2 := ⟨Go.Proofs.Tryz.func45, by kernel_rfl, by kernel_rfl, by kernel_rfl, by kernel_rfl, by kernel_rfl⟩

theorem pool_Pool_write_callS {K : Value → World → Prop} {x0 : Value} {x1 : Value} {w : World} (h : pool_Pool_write K [] x0 x1 w) : callS Pg F.pool_Pool_write [x0, x1] K w :=
  call_of_W pool_Pool_write_ok (Eq.mpr (congrFun (congrFun (pool_Pool_write_eq K) ⟨argFr [x0, x1], []⟩) w) h)

theorem pool_Pool_write_call {K : Value → World → Prop} {x0 : Value} {x1 : Value} {w : World} (h : pool_Pool_write K [] x0 x1 w) : call Pg F.pool_Pool_write [x0, x1] K w := .inl (pool_Pool_write_callS h)

/-- (*concordance/pool.Pool).Held -/
noncomputable def pool_Pool_Held_body : Code := (Go.Proofs.Tryz.f14.body).getD .skip

def pool_Pool_Held (K : Value → World → Prop) (ds : List Deferred) (x0 : Value) (w : World) : Prop :=
  run Pg (Instr.alloc 22 true (.tuple #[])) (fun all_1 w =>
  run Pg (Instr.alloc 22 true (.tuple #[])) (fun dirty_2 w =>
  run Pg (binS .eql 31 true x0 (.pointer none)) (fun t9_3 w =>
  cnd t9_3 (
  leaveW Pg ds (fun w => K (.tuple #[(.slice none 0 0), (.slice none 0 0)]) w) w) (
  run Pg (nilS x0) (fun t11_4 w =>
  run Pg (Instr.fieldAt 84 t11_4 3) (fun t12_5 w =>
  call Pg F.order_Map_int_pool_frame_All [t12_5] (fun t13_6 w =>
  Rng Pg t13_6 2 (fun args beg B w =>
  beg (fun w =>
  run Pg (Instr.loadAt 22 all_1) (fun t16_9 w =>
  run Pg (Instr.buildSlice 22 1 #[(0, (args.headD undef))]) (fun t18_10 w =>
  run Pg (Builtin.append_ #[22, 22] 22 #[t16_9, t18_10]) (fun t19_11 w =>
  runU Pg (Instr.storeAt 22 all_1 t19_11) (fun w =>
  run Pg (nilS (args.tail.headD undef)) (fun t21_12 w =>
  run Pg (Instr.fieldAt 90 t21_12 2) (fun t22_13 w =>
  run Pg (Instr.loadAt 4 t22_13) (fun t23_14 w =>
  cnd t23_14 (
  run Pg (Instr.loadAt 22 dirty_2) (fun t24_15 w =>
  run Pg (Instr.buildSlice 22 1 #[(0, (args.headD undef))]) (fun t26_16 w =>
  run Pg (Builtin.append_ #[22, 22] 22 #[t24_15, t26_16]) (fun t27_17 w =>
  runU Pg (Instr.storeAt 22 dirty_2 t27_17) (fun w =>
  B none w) w) w) w) w) (
  B none w)) w) w) w) w) w) w) w) w) (jumpN (fun ds w =>
  rn Pg (fun w' => w' = w.drew) (Instr.loadAt 22 all_1) (fun t28_18 w =>
  rn Pg (fun w' => w' = w) (Instr.loadAt 22 dirty_2) (fun t29_19 w =>
  leaveW Pg ds (fun w => K (.tuple #[t28_18, t29_19]) w) w) w) w.drew) (fun ds w =>
  leaveW Pg ds (fun w => K (.tuple #[(.slice none 0 0), (.slice none 0 0)]) w) w) (fun id ds w =>
  bif Nat.beq id 0 then rn Pg (fun w' => w' = w.drew) (Instr.loadAt 22 all_1) (fun t28_7 w =>
  rn Pg (fun w' => w' = w) (Instr.loadAt 22 dirty_2) (fun t29_8 w =>
  leaveW Pg ds (fun w => K (.tuple #[t28_7, t29_8]) w) w) w) w.drew else False)) ds w) w) w) w)) w) w) w

theorem pool_Pool_Held_eq (K : Value → World → Prop) : W Pg pool_Pool_Held_body false (retQ Pg [.tmp 2, .tmp 3] K) = (fun s w => pool_Pool_Held K s.ds (s.f 0) w) :=
  Eq.trans (eqSeq (eqSeq (eqSeq (eqSeqL (eqSeq (eqBlock (eqRng (asg := rA (cB (cR (cL (cR (cR (cR pool_Pool_Held_body))))))) (body := rB (cB (cR (cL (cR (cR (cR pool_Pool_Held_body))))))) (fun beg B => rfl)))))))) (by kernel_rfl)

theorem pool_Pool_Held_ok : FnOk Pg F.pool_Pool_Held Go.Proofs.Tryz.f14 pool_Pool_Held_body 1 := ⟨Go.Proofs.Tryz.func14, by kernel_rfl, by kernel_rfl, by kernel_rfl, by kernel_rfl, by kernel_rfl⟩

theorem pool_Pool_Held_callS {K : Value → World → Prop} {x0 : Value} {w : World} (h : pool_Pool_Held K [] x0 w) : callS Pg F.pool_Pool_Held [x0] K w :=
  call_of_W pool_Pool_Held_ok (Eq.mpr (congrFun (congrFun (pool_Pool_Held_eq K) ⟨argFr [x0], []⟩) w) h)

theorem pool_Pool_Held_call {K : Value → World → Prop} {x0 : Value} {w : World} (h : pool_Pool_Held K [] x0 w) : call Pg F.pool_Pool_Held [x0] K w := .inl (pool_Pool_Held_callS h)

/-- (*concordance/pool.Pool).Has -/
noncomputable def pool_Pool_Has_body : Code := (Go.Proofs.Tryz.f15.body).getD .skip

def pool_Pool_Has (K : Value → World → Prop) (ds : List Deferred) (x0 : Value) (x1 : Value) (w : World) : Prop :=
  run Pg (binS .eql 31 true x0 (.pointer none)) (fun t8_1 w =>
  cnd t8_1 (
  leaveW Pg ds (fun w => K (.bool false) w) w) (
  run Pg (nilS x0) (fun t11_2 w =>
  run Pg (Instr.fieldAt 84 t11_2 3) (fun t12_3 w =>
  call Pg F.order_Map_int_pool_frame_Get [t12_3, x1] (fun t14_4 w =>
  run Pg (Instr.extract t14_4 0) (fun t15_5 w =>
  run Pg (Instr.extract t14_4 1) (fun t16_6 w =>
  leaveW Pg ds (fun w => K t16_6 w) w) w) w) w) w) w)) w

theorem pool_Pool_Has_eq (K : Value → World → Prop) : W Pg pool_Pool_Has_body false (retQ Pg [.tmp 4] K) = (fun s w => pool_Pool_Has K s.ds (s.f 0) (s.f 1) w) :=
  by kernel_rfl

theorem pool_Pool_Has_ok : FnOk Pg F.pool_Pool_Has Go.Proofs.Tryz.f15 pool_Pool_Has_body 2 := ⟨Go.Proofs.Tryz.func15, by kernel_rfl, by kernel_rfl, by kernel_rfl, by kernel_rfl, by kernel_rfl⟩

theorem pool_Pool_Has_callS {K : Value → World → Prop} {x0 : Value} {x1 : Value} {w : World} (h : pool_Pool_Has K [] x0 x1 w) : callS Pg F.pool_Pool_Has [x0, x1] K w :=
  call_of_W pool_Pool_Has_ok (Eq.mpr (congrFun (congrFun (pool_Pool_Has_eq K) ⟨argFr [x0, x1], []⟩) w) h)

theorem pool_Pool_Has_call {K : Value → World → Prop} {x0 : Value} {x1 : Value} {w : World} (h : pool_Pool_Has K [] x0 x1 w) : call Pg F.pool_Pool_Has [x0, x1] K w := .inl (pool_Pool_Has_callS h)

/-- (*concordance/pool.Pool).Evict -/
noncomputable def pool_Pool_Evict_body : Code := (Go.Proofs.Tryz.f16.body).getD .skip

def pool_Pool_Evict (K : Value → World → Prop) (ds : List Deferred) (x0 : Value) (x1 : Value) (w : World) : Prop :=
  run Pg (binS .eql 31 true x0 (.pointer none)) (fun t8_1 w =>
  cnd t8_1 (
  leaveW Pg ds (fun w => K (.int .i64 1) w) w) (
  run Pg (nilS x0) (fun t11_2 w =>
  run Pg (Instr.fieldAt 84 t11_2 3) (fun t12_3 w =>
  call Pg F.order_Map_int_pool_frame_Get [t12_3, x1] (fun t14_4 w =>
  run Pg (Instr.extract t14_4 0) (fun t15_5 w =>
  run Pg (Instr.extract t14_4 1) (fun t16_6 w =>
  run Pg (Op.unary .not t16_6) (fun t19_7 w =>
  cnd t19_7 (
  leaveW Pg ds (fun w => K (.int .i64 11) w) w) (
  run Pg (nilS t15_5) (fun t22_8 w =>
  run Pg (Instr.fieldAt 90 t22_8 1) (fun t23_9 w =>
  run Pg (Instr.loadAt 3 t23_9) (fun t24_10 w =>
  run Pg (binS .gtr 3 true t24_10 (.int .i64 0)) (fun t25_11 w =>
  cnd t25_11 (
  leaveW Pg ds (fun w => K (.int .i64 10) w) w) (
  call Pg F.pool_Pool_out [x0, x1, t15_5] (fun t29_12 w =>
  leaveW Pg ds (fun w => K t29_12 w) w) w)) w) w) w) w)) w) w) w) w) w) w)) w

theorem pool_Pool_Evict_eq (K : Value → World → Prop) : W Pg pool_Pool_Evict_body false (retQ Pg [.tmp 4] K) = (fun s w => pool_Pool_Evict K s.ds (s.f 0) (s.f 1) w) :=
  by kernel_rfl

theorem pool_Pool_Evict_ok : FnOk Pg F.pool_Pool_Evict Go.Proofs.Tryz.f16 pool_Pool_Evict_body 2 := ⟨Go.Proofs.Tryz.func16, by kernel_rfl, by kernel_rfl, by kernel_rfl, by kernel_rfl, by kernel_rfl⟩

theorem pool_Pool_Evict_callS {K : Value → World → Prop} {x0 : Value} {x1 : Value} {w : World} (h : pool_Pool_Evict K [] x0 x1 w) : callS Pg F.pool_Pool_Evict [x0, x1] K w :=
  call_of_W pool_Pool_Evict_ok (Eq.mpr (congrFun (congrFun (pool_Pool_Evict_eq K) ⟨argFr [x0, x1], []⟩) w) h)

theorem pool_Pool_Evict_call {K : Value → World → Prop} {x0 : Value} {x1 : Value} {w : World} (h : pool_Pool_Evict K [] x0 x1 w) : call Pg F.pool_Pool_Evict [x0, x1] K w := .inl (pool_Pool_Evict_callS h)

/-- (*concordance/pool.Pool).Put -/
noncomputable def pool_Pool_Put_body : Code := (Go.Proofs.Tryz.f19.body).getD .skip

def pool_Pool_Put_g1 (K : Value → World → Prop) (ds : List Deferred) (x2 : Value) (x7 : Value) (x23 : Value) (x28 : Value) (x34 : Value) (w : World) : Prop :=
  pickV x28 (.bool true) x34 (fun t35_1 w =>
  run Pg (nilS x23) (fun t36_2 w =>
  run Pg (Instr.fieldAt 90 t36_2 2) (fun t37_3 w =>
  runU Pg (Instr.storeAt 4 t37_3 t35_1) (fun w =>
  run Pg (nilS x7) (fun t40_4 w =>
  run Pg (Instr.fieldAt 90 t40_4 0) (fun t41_5 w =>
  runU Pg (Instr.storeAt 9 t41_5 x2) (fun w =>
  leaveW Pg ds (fun w => K (.int .i64 0) w) w) w) w) w) w) w) w) w

theorem pool_Pool_Put_g1_eq (K : Value → World → Prop) : opsG (op1W Pg) (rOps (cL (cR (cR (cR pool_Pool_Put_body))))).toList ((groups (rOps (cL (cR (cR (cR pool_Pool_Put_body))))).toList).drop 2) 12 (W Pg (cR (cR (cR (cR pool_Pool_Put_body)))) false (retQ Pg [.tmp 6] K)) = (fun s w => pool_Pool_Put_g1 K s.ds (s.f 2) (s.f 7) (s.f 23) (s.f 28) (s.f 34) w) :=
  by kernel_rfl

def pool_Pool_Put (K : Value → World → Prop) (ds : List Deferred) (x0 : Value) (x1 : Value) (x2 : Value) (w : World) : Prop :=
  call Pg F.pool_Pool_pinned [x0, x1] (fun t12_6 w =>
  run Pg (Instr.extract t12_6 0) (fun t13_7 w =>
  run Pg (Instr.extract t12_6 1) (fun t14_8 w =>
  run Pg (binS .neq 25 true t14_8 (.int .i64 0)) (fun t17_9 w =>
  cnd t17_9 (
  leaveW Pg ds (fun w => K t14_8 w) w) (
  call Pg F.page_Whole [x2] (fun t21_10 w =>
  run Pg (Op.unary .not t21_10) (fun t22_11 w =>
  cnd t22_11 (
  leaveW Pg ds (fun w => K (.int .i64 1) w) w) (
  run Pg (nilS t13_7) (fun t25_12 w =>
  run Pg (Instr.fieldAt 90 t25_12 2) (fun t26_13 w =>
  run Pg (Instr.loadAt 4 t26_13) (fun t27_14 w =>
  gcond t27_14 false (
  run Pg (nilS t13_7) (fun t30_15 w =>
  run Pg (Instr.fieldAt 90 t30_15 0) (fun t31_16 w =>
  run Pg (Instr.loadAt 9 t31_16) (fun t32_17 w =>
  run Pg (binS .neq 9 false t32_17 x2) (fun t34_18 w =>
  pool_Pool_Put_g1 K ds x2 t13_7 t13_7 t27_14 t34_18 w) w) w) w) w) (
  pool_Pool_Put_g1 K ds x2 t13_7 t13_7 t27_14 undef w)) w) w) w)) w) w)) w) w) w) w

theorem pool_Pool_Put_eq (K : Value → World → Prop) : W Pg pool_Pool_Put_body false (retQ Pg [.tmp 6] K) = (fun s w => pool_Pool_Put K s.ds (s.f 0) (s.f 1) (s.f 2) w) :=
  Eq.trans (eqSeq (eqSeq (eqSeq (eqSeqL (eqReg (rd := false) (id := 6) (ops := rOps (cL (cR (cR (cR pool_Pool_Put_body))))) (by kernel_rfl) (eqPlain (eqGrd (pool_Pool_Put_g1_eq K)))))))) (by kernel_rfl)

theorem pool_Pool_Put_ok : FnOk Pg F.pool_Pool_Put Go.Proofs.Tryz.f19 pool_Pool_Put_body 3 := ⟨Go.Proofs.Tryz.func19, by kernel_rfl, by kernel_rfl, by kernel_rfl, by kernel_rfl, by kernel_rfl⟩

theorem pool_Pool_Put_callS {K : Value → World → Prop} {x0 : Value} {x1 : Value} {x2 : Value} {w : World} (h : pool_Pool_Put K [] x0 x1 x2 w) : callS Pg F.pool_Pool_Put [x0, x1, x2] K w :=
  call_of_W pool_Pool_Put_ok (Eq.mpr (congrFun (congrFun (pool_Pool_Put_eq K) ⟨argFr [x0, x1, x2], []⟩) w) h)

theorem pool_Pool_Put_call {K : Value → World → Prop} {x0 : Value} {x1 : Value} {x2 : Value} {w : World} (h : pool_Pool_Put K [] x0 x1 x2 w) : call Pg F.pool_Pool_Put [x0, x1, x2] K w := .inl (pool_Pool_Put_callS h)

/-- (*concordance/pool.Pool).Flush -/
noncomputable def pool_Pool_Flush_body : Code := (Go.Proofs.Tryz.f20.body).getD .skip

def pool_Pool_Flush (K : Value → World → Prop) (ds : List Deferred) (x0 : Value) (w : World) : Prop :=
  run Pg (binS .eql 31 true x0 (.pointer none)) (fun t6_1 w =>
  cnd t6_1 (
  leaveW Pg ds (fun w => K (.int .i64 1) w) w) (
  call Pg F.pool_Pool_Held [x0] (fun t9_2 w =>
  run Pg (Instr.extract t9_2 0) (fun t10_3 w =>
  run Pg (Instr.extract t9_2 1) (fun t11_4 w =>
  call Pg F.pool_Pool_write [x0, t11_4] (fun t14_5 w =>
  leaveW Pg ds (fun w => K t14_5 w) w) w) w) w) w)) w

theorem pool_Pool_Flush_eq (K : Value → World → Prop) : W Pg pool_Pool_Flush_body false (retQ Pg [.tmp 2] K) = (fun s w => pool_Pool_Flush K s.ds (s.f 0) w) :=
  by kernel_rfl

theorem pool_Pool_Flush_ok : FnOk Pg F.pool_Pool_Flush Go.Proofs.Tryz.f20 pool_Pool_Flush_body 1 := ⟨Go.Proofs.Tryz.func20, by kernel_rfl, by kernel_rfl, by kernel_rfl, by kernel_rfl, by kernel_rfl⟩

theorem pool_Pool_Flush_callS {K : Value → World → Prop} {x0 : Value} {w : World} (h : pool_Pool_Flush K [] x0 w) : callS Pg F.pool_Pool_Flush [x0] K w :=
  call_of_W pool_Pool_Flush_ok (Eq.mpr (congrFun (congrFun (pool_Pool_Flush_eq K) ⟨argFr [x0], []⟩) w) h)

theorem pool_Pool_Flush_call {K : Value → World → Prop} {x0 : Value} {w : World} (h : pool_Pool_Flush K [] x0 w) : call Pg F.pool_Pool_Flush [x0] K w := .inl (pool_Pool_Flush_callS h)

/-- (*concordance/order.Map[int, *concordance/pool.frame]).Get -/
noncomputable def order_Map_int_pool_frame_Get_body : Code := (Go.Proofs.Tryz.f35.body).getD .skip

def order_Map_int_pool_frame_Get (K : Value → World → Prop) (ds : List Deferred) (x0 : Value) (x1 : Value) (w : World) : Prop :=
  call Pg F.order_Map_int_pool_frame_find [x0, x1] (fun t12_1 w =>
  run Pg (Instr.extract t12_1 0) (fun t13_2 w =>
  run Pg (Instr.extract t12_1 1) (fun t14_3 w =>
  cnd t14_3 (
  run Pg (nilS x0) (fun t17_4 w =>
  run Pg (Instr.fieldAt 80 t17_4 0) (fun t18_5 w =>
  run Pg (Instr.loadAt 78 t18_5) (fun t19_6 w =>
  run Pg (Instr.indexAt 78 t19_6 t13_2) (fun t21_7 w =>
  run Pg (Instr.fieldAt 118 t21_7 1) (fun t22_8 w =>
  run Pg (Instr.loadAt 85 t22_8) (fun t23_9 w =>
  leaveW Pg ds (fun w => K (.tuple #[t23_9, (.bool true)]) w) w) w) w) w) w) w) w) (
  leaveW Pg ds (fun w => K (.tuple #[(.pointer none), (.bool false)]) w) w)) w) w) w

theorem order_Map_int_pool_frame_Get_eq (K : Value → World → Prop) : W Pg order_Map_int_pool_frame_Get_body false (retQ Pg [.tmp 4, .tmp 5] K) = (fun s w => order_Map_int_pool_frame_Get K s.ds (s.f 0) (s.f 1) w) :=
  by kernel_rfl

theorem order_Map_int_pool_frame_Get_ok : FnOk Pg F.order_Map_int_pool_frame_Get Go.Proofs.Tryz.f35 order_Map_int_pool_frame_Get_body 2 := ⟨Go.Proofs.Tryz.func35, by kernel_rfl, by kernel_rfl, by kernel_rfl, by kernel_rfl, by kernel_rfl⟩

theorem order_Map_int_pool_frame_Get_callS {K : Value → World → Prop} {x0 : Value} {x1 : Value} {w : World} (h : order_Map_int_pool_frame_Get K [] x0 x1 w) : callS Pg F.order_Map_int_pool_frame_Get [x0, x1] K w :=
  call_of_W order_Map_int_pool_frame_Get_ok (Eq.mpr (congrFun (congrFun (order_Map_int_pool_frame_Get_eq K) ⟨argFr [x0, x1], []⟩) w) h)

theorem order_Map_int_pool_frame_Get_call {K : Value → World → Prop} {x0 : Value} {x1 : Value} {w : World} (h : order_Map_int_pool_frame_Get K [] x0 x1 w) : call Pg F.order_Map_int_pool_frame_Get [x0, x1] K w := .inl (order_Map_int_pool_frame_Get_callS h)

/-- (*concordance/order.Map[int, *concordance/pool.frame]).Set -/
noncomputable def order_Map_int_pool_frame_Set_body : Code := (Go.Proofs.Tryz.f38.body).getD .skip

def order_Map_int_pool_frame_Set_j1 (K : Value → World → Prop) (ds : List Deferred) (x0 : Value) (x2 : Value) (x6 : Value) (w : World) : Prop :=
  run Pg (nilS x0) (fun t29_1 w =>
  run Pg (Instr.fieldAt 80 t29_1 0) (fun t30_2 w =>
  run Pg (Instr.loadAt 78 t30_2) (fun t31_3 w =>
  run Pg (Instr.indexAt 78 t31_3 x6) (fun t34_4 w =>
  run Pg (Instr.fieldAt 118 t34_4 1) (fun t35_5 w =>
  runU Pg (Instr.storeAt 85 t35_5 x2) (fun w =>
  leaveW Pg ds (fun w => K (.tuple #[]) w) w) w) w) w) w) w) w

theorem order_Map_int_pool_frame_Set_j1_eq (K : Value → World → Prop) : W Pg (cR (cR order_Map_int_pool_frame_Set_body)) false (retQ Pg [] K) = (fun s w => order_Map_int_pool_frame_Set_j1 K s.ds (s.f 0) (s.f 2) (s.f 6) w) :=
  by kernel_rfl

def order_Map_int_pool_frame_Set (K : Value → World → Prop) (ds : List Deferred) (x0 : Value) (x1 : Value) (x2 : Value) (w : World) : Prop :=
  call Pg F.order_Map_int_pool_frame_find [x0, x1] (fun t11_6 w =>
  run Pg (Instr.extract t11_6 0) (fun t12_7 w =>
  run Pg (Instr.extract t11_6 1) (fun t13_8 w =>
  run Pg (Op.unary .not t13_8) (fun t15_9 w =>
  cnd t15_9 (
  run Pg (nilS x0) (fun t18_10 w =>
  run Pg (Instr.fieldAt 80 t18_10 0) (fun t19_11 w =>
  run Pg (Instr.loadAt 78 t19_11) (fun t20_12 w =>
  run Pg (Instr.build 118 #[(0, x1)]) (fun t23_13 w =>
  run Pg (Instr.buildSlice 78 1 #[(0, t23_13)]) (fun t24_14 w =>
  call Pg F.slices_Insert_rder_pair_int_pool_frame [t20_12, t12_7, t24_14] (fun t25_15 w =>
  run Pg (nilS x0) (fun t26_16 w =>
  run Pg (Instr.fieldAt 80 t26_16 0) (fun t27_17 w =>
  runU Pg (Instr.storeAt 78 t27_17 t25_15) (fun w =>
  order_Map_int_pool_frame_Set_j1 K ds x0 x2 t12_7 w) w) w) w) w) w) w) w) w) w) (
  order_Map_int_pool_frame_Set_j1 K ds x0 x2 t12_7 w)) w) w) w) w

theorem order_Map_int_pool_frame_Set_eq (K : Value → World → Prop) : W Pg order_Map_int_pool_frame_Set_body false (retQ Pg [] K) = (fun s w => order_Map_int_pool_frame_Set K s.ds (s.f 0) (s.f 1) (s.f 2) w) :=
  Eq.trans (eqSeq (eqSeq (order_Map_int_pool_frame_Set_j1_eq K))) (by kernel_rfl)

theorem order_Map_int_pool_frame_Set_ok : FnOk Pg F.order_Map_int_pool_frame_Set Go.Proofs.Tryz.f38 order_Map_int_pool_frame_Set_body 3 := ⟨Go.Proofs.Tryz.func38, by kernel_rfl, by kernel_rfl, by kernel_rfl, by kernel_rfl, by kernel_rfl⟩

theorem order_Map_int_pool_frame_Set_callS {K : Value → World → Prop} {x0 : Value} {x1 : Value} {x2 : Value} {w : World} (h : order_Map_int_pool_frame_Set K [] x0 x1 x2 w) : callS Pg F.order_Map_int_pool_frame_Set [x0, x1, x2] K w :=
  call_of_W order_Map_int_pool_frame_Set_ok (Eq.mpr (congrFun (congrFun (order_Map_int_pool_frame_Set_eq K) ⟨argFr [x0, x1, x2], []⟩) w) h)

theorem order_Map_int_pool_frame_Set_call {K : Value → World → Prop} {x0 : Value} {x1 : Value} {x2 : Value} {w : World} (h : order_Map_int_pool_frame_Set K [] x0 x1 x2 w) : call Pg F.order_Map_int_pool_frame_Set [x0, x1, x2] K w := .inl (order_Map_int_pool_frame_Set_callS h)

/-- (*concordance/order.Recent[int]).Use -/
noncomputable def order_Recent_int_Use_body : Code := (Go.Proofs.Tryz.f39.body).getD .skip

def order_Recent_int_Use (K : Value → World → Prop) (ds : List Deferred) (x0 : Value) (x1 : Value) (w : World) : Prop :=
  call Pg F.order_Recent_int_Drop [x0, x1] (fun t6_1 w =>
  run Pg (nilS x0) (fun t9_2 w =>
  run Pg (Instr.fieldAt 82 t9_2 0) (fun t10_3 w =>
  run Pg (Instr.loadAt 22 t10_3) (fun t11_4 w =>
  run Pg (Instr.buildSlice 22 1 #[(0, x1)]) (fun t13_5 w =>
  run Pg (Builtin.append_ #[22, 22] 22 #[t11_4, t13_5]) (fun t14_6 w =>
  run Pg (nilS x0) (fun t15_7 w =>
  run Pg (Instr.fieldAt 82 t15_7 0) (fun t16_8 w =>
  runU Pg (Instr.storeAt 22 t16_8 t14_6) (fun w =>
  leaveW Pg ds (fun w => K (.tuple #[]) w) w) w) w) w) w) w) w) w) w) w

theorem order_Recent_int_Use_eq (K : Value → World → Prop) : W Pg order_Recent_int_Use_body false (retQ Pg [] K) = (fun s w => order_Recent_int_Use K s.ds (s.f 0) (s.f 1) w) :=
  by kernel_rfl

theorem order_Recent_int_Use_ok : FnOk Pg F.order_Recent_int_Use Go.Proofs.Tryz.f39 order_Recent_int_Use_body 2 := ⟨Go.Proofs.Tryz.func39, by kernel_rfl, by kernel_rfl, by kernel_rfl, by kernel_rfl, by kernel_rfl⟩

theorem order_Recent_int_Use_callS {K : Value → World → Prop} {x0 : Value} {x1 : Value} {w : World} (h : order_Recent_int_Use K [] x0 x1 w) : callS Pg F.order_Recent_int_Use [x0, x1] K w :=
  call_of_W order_Recent_int_Use_ok (Eq.mpr (congrFun (congrFun (order_Recent_int_Use_eq K) ⟨argFr [x0, x1], []⟩) w) h)

theorem order_Recent_int_Use_call {K : Value → World → Prop} {x0 : Value} {x1 : Value} {w : World} (h : order_Recent_int_Use K [] x0 x1 w) : call Pg F.order_Recent_int_Use [x0, x1] K w := .inl (order_Recent_int_Use_callS h)

/-- (*concordance/order.Map[int, *concordance/pool.frame]).All -/
noncomputable def order_Map_int_pool_frame_All_body : Code := (Go.Proofs.Tryz.f41.body).getD .skip

def order_Map_int_pool_frame_All (K : Value → World → Prop) (ds : List Deferred) (x0 : Value) (w : World) : Prop :=
  run Pg (nilS x0) (fun t4_1 w =>
  run Pg (Instr.fieldAt 80 t4_1 0) (fun t5_2 w =>
  run Pg (Instr.loadAt 78 t5_2) (fun t6_3 w =>
  call Pg F.order_each_int_pool_frame [t6_3] (fun t7_4 w =>
  leaveW Pg ds (fun w => K t7_4 w) w) w) w) w) w

theorem order_Map_int_pool_frame_All_eq (K : Value → World → Prop) : W Pg order_Map_int_pool_frame_All_body false (retQ Pg [.tmp 2] K) = (fun s w => order_Map_int_pool_frame_All K s.ds (s.f 0) w) :=
  by kernel_rfl

theorem order_Map_int_pool_frame_All_ok : FnOk Pg F.order_Map_int_pool_frame_All Go.Proofs.Tryz.f41 order_Map_int_pool_frame_All_body 1 := ⟨Go.Proofs.Tryz.func41, by kernel_rfl, by kernel_rfl, by kernel_rfl, by kernel_rfl, by kernel_rfl⟩

theorem order_Map_int_pool_frame_All_callS {K : Value → World → Prop} {x0 : Value} {w : World} (h : order_Map_int_pool_frame_All K [] x0 w) : callS Pg F.order_Map_int_pool_frame_All [x0] K w :=
  call_of_W order_Map_int_pool_frame_All_ok (Eq.mpr (congrFun (congrFun (order_Map_int_pool_frame_All_eq K) ⟨argFr [x0], []⟩) w) h)

theorem order_Map_int_pool_frame_All_call {K : Value → World → Prop} {x0 : Value} {w : World} (h : order_Map_int_pool_frame_All K [] x0 w) : call Pg F.order_Map_int_pool_frame_All [x0] K w := .inl (order_Map_int_pool_frame_All_callS h)

/-- (*concordance/order.Map[int, *concordance/pool.frame]).find -/
noncomputable def order_Map_int_pool_frame_find_body : Code := (Go.Proofs.Tryz.f56.body).getD .skip

def order_Map_int_pool_frame_find (K : Value → World → Prop) (ds : List Deferred) (x0 : Value) (x1 : Value) (w : World) : Prop :=
  run Pg (nilS x0) (fun t7_1 w =>
  run Pg (Instr.fieldAt 80 t7_1 0) (fun t8_2 w =>
  run Pg (Instr.loadAt 78 t8_2) (fun t9_3 w =>
  call Pg F.slices_BinarySearchFunc_pair_int_pool_frame_int [t9_3, x1, (.func (.func 79) #[] #[])] (fun t11_4 w =>
  run Pg (Instr.extract t11_4 0) (fun t12_5 w =>
  run Pg (Instr.extract t11_4 1) (fun t13_6 w =>
  leaveW Pg ds (fun w => K (.tuple #[t12_5, t13_6]) w) w) w) w) w) w) w) w

theorem order_Map_int_pool_frame_find_eq (K : Value → World → Prop) : W Pg order_Map_int_pool_frame_find_body false (retQ Pg [.tmp 4, .tmp 5] K) = (fun s w => order_Map_int_pool_frame_find K s.ds (s.f 0) (s.f 1) w) :=
  by kernel_rfl

theorem order_Map_int_pool_frame_find_ok : FnOk Pg F.order_Map_int_pool_frame_find Go.Proofs.Tryz.f56 order_Map_int_pool_frame_find_body 2 := ⟨Go.Proofs.Tryz.func56, by kernel_rfl, by kernel_rfl, by kernel_rfl, by kernel_rfl, by kernel_rfl⟩

theorem order_Map_int_pool_frame_find_callS {K : Value → World → Prop} {x0 : Value} {x1 : Value} {w : World} (h : order_Map_int_pool_frame_find K [] x0 x1 w) : callS Pg F.order_Map_int_pool_frame_find [x0, x1] K w :=
  call_of_W order_Map_int_pool_frame_find_ok (Eq.mpr (congrFun (congrFun (order_Map_int_pool_frame_find_eq K) ⟨argFr [x0, x1], []⟩) w) h)

theorem order_Map_int_pool_frame_find_call {K : Value → World → Prop} {x0 : Value} {x1 : Value} {w : World} (h : order_Map_int_pool_frame_find K [] x0 x1 w) : call Pg F.order_Map_int_pool_frame_find [x0, x1] K w := .inl (order_Map_int_pool_frame_find_callS h)

/-- (*concordance/order.Map[int, *concordance/pool.frame]).Len -/
noncomputable def order_Map_int_pool_frame_Len_body : Code := (Go.Proofs.Tryz.f57.body).getD .skip

def order_Map_int_pool_frame_Len (K : Value → World → Prop) (ds : List Deferred) (x0 : Value) (w : World) : Prop :=
  run Pg (nilS x0) (fun t4_1 w =>
  run Pg (Instr.fieldAt 80 t4_1 0) (fun t5_2 w =>
  run Pg (Instr.loadAt 78 t5_2) (fun t6_3 w =>
  run Pg (Builtin.len_ #[78] 3 #[t6_3]) (fun t7_4 w =>
  leaveW Pg ds (fun w => K t7_4 w) w) w) w) w) w

theorem order_Map_int_pool_frame_Len_eq (K : Value → World → Prop) : W Pg order_Map_int_pool_frame_Len_body false (retQ Pg [.tmp 2] K) = (fun s w => order_Map_int_pool_frame_Len K s.ds (s.f 0) w) :=
  by kernel_rfl

theorem order_Map_int_pool_frame_Len_ok : FnOk Pg F.order_Map_int_pool_frame_Len Go.Proofs.Tryz.f57 order_Map_int_pool_frame_Len_body 1 := ⟨Go.Proofs.Tryz.func57, by kernel_rfl, by kernel_rfl, by kernel_rfl, by kernel_rfl, by kernel_rfl⟩

theorem order_Map_int_pool_frame_Len_callS {K : Value → World → Prop} {x0 : Value} {w : World} (h : order_Map_int_pool_frame_Len K [] x0 w) : callS Pg F.order_Map_int_pool_frame_Len [x0] K w :=
  call_of_W order_Map_int_pool_frame_Len_ok (Eq.mpr (congrFun (congrFun (order_Map_int_pool_frame_Len_eq K) ⟨argFr [x0], []⟩) w) h)

theorem order_Map_int_pool_frame_Len_call {K : Value → World → Prop} {x0 : Value} {w : World} (h : order_Map_int_pool_frame_Len K [] x0 w) : call Pg F.order_Map_int_pool_frame_Len [x0] K w := .inl (order_Map_int_pool_frame_Len_callS h)

/-- (*concordance/order.Recent[int]).Oldest -/
noncomputable def order_Recent_int_Oldest_body : Code := (Go.Proofs.Tryz.f58.body).getD .skip

def order_Recent_int_Oldest (K : Value → World → Prop) (ds : List Deferred) (x0 : Value) (w : World) : Prop :=
  run Pg (nilS x0) (fun t5_1 w =>
  run Pg (Instr.fieldAt 82 t5_1 0) (fun t6_2 w =>
  run Pg (Instr.loadAt 22 t6_2) (fun t7_3 w =>
  call Pg F.slices_Clone_int_int [t7_3] (fun t8_4 w =>
  run Pg (Instr.alloc 22 true (.tuple #[])) (fun now_5 w =>
  runU Pg (Instr.storeAt 22 now_5 t8_4) (fun w =>
  run Pg (Instr.makeFunc (.func 82) #[] #[now_5]) (fun t9_6 w =>
  leaveW Pg ds (fun w => K t9_6 w) w) w) w) w) w) w) w) w

theorem order_Recent_int_Oldest_eq (K : Value → World → Prop) : W Pg order_Recent_int_Oldest_body false (retQ Pg [.tmp 2] K) = (fun s w => order_Recent_int_Oldest K s.ds (s.f 0) w) :=
  by kernel_rfl

theorem order_Recent_int_Oldest_ok : FnOk Pg F.order_Recent_int_Oldest Go.Proofs.Tryz.f58 order_Recent_int_Oldest_body 1 := ⟨Go.Proofs.Tryz.func58, by kernel_rfl, by kernel_rfl, by kernel_rfl, by kernel_rfl, by kernel_rfl⟩

theorem order_Recent_int_Oldest_callS {K : Value → World → Prop} {x0 : Value} {w : World} (h : order_Recent_int_Oldest K [] x0 w) : callS Pg F.order_Recent_int_Oldest [x0] K w :=
  call_of_W order_Recent_int_Oldest_ok (Eq.mpr (congrFun (congrFun (order_Recent_int_Oldest_eq K) ⟨argFr [x0], []⟩) w) h)

theorem order_Recent_int_Oldest_call {K : Value → World → Prop} {x0 : Value} {w : World} (h : order_Recent_int_Oldest K [] x0 w) : call Pg F.order_Recent_int_Oldest [x0] K w := .inl (order_Recent_int_Oldest_callS h)

/-- slices.Insert[[]concordance/order.pair[int, *concordance/pool.frame],concordance/order.pair[int, *concordance/pool.frame]] -/
noncomputable def slices_Insert_rder_pair_int_pool_frame_body : Code := (Go.Proofs.Tryz.f61.body).getD .skip

def slices_Insert_rder_pair_int_pool_frame (K : Value → World → Prop) (ds : List Deferred) (x0 : Value) (x1 : Value) (x2 : Value) (w : World) : Prop :=
  run Pg (Instr.sliceAt 78 x0 (some x1) none none) (fun t12_1 w =>
  run Pg (Builtin.len_ #[78] 3 #[x2]) (fun t14_2 w =>
  run Pg (binS .eql 3 true t14_2 (.int .i64 0)) (fun t16_3 w =>
  cnd t16_3 (
  leaveW Pg ds (fun w => K x0 w) w) (
  run Pg (Builtin.len_ #[78] 3 #[x0]) (fun t19_4 w =>
  run Pg (binS .eql 3 false x1 t19_4) (fun t22_5 w =>
  cnd t22_5 (
  run Pg (Builtin.append_ #[78, 78] 78 #[x0, x2]) (fun t25_6 w =>
  leaveW Pg ds (fun w => K t25_6 w) w) w) (
  run Pg (binS .add 3 false t19_4 t14_2) (fun t28_7 w =>
  run Pg (Builtin.cap_ #[78] 3 #[x0]) (fun t30_8 w =>
  run Pg (binS .gtr 3 false t28_7 t30_8) (fun t31_9 w =>
  cnd t31_9 (
  run Pg (Instr.sliceAt 78 x0 none (some x1) none) (fun t34_10 w =>
  run Pg (binS .add 3 false t19_4 t14_2) (fun t37_11 w =>
  run Pg (binS .sub 3 false t37_11 x1) (fun t39_12 w =>
  run Pg (Builtin.append_ #[78, 3] 78 #[t34_10, t39_12]) (fun t40_13 w =>
  run Pg (Instr.sliceAt 78 t40_13 (some x1) none none) (fun t43_14 w =>
  run Pg (Builtin.copy_ #[78, 78] 3 #[t43_14, x2]) (fun t45_15 w =>
  rn Pg (fun _ => True) (binS .add 3 false x1 t14_2) (fun t49_16 w =>
  rn Pg (fun _ => True) (Instr.sliceAt 78 t40_13 (some t49_16) none none) (fun t50_17 w =>
  rn Pg (fun _ => True) (Instr.sliceAt 78 x0 (some x1) none none) (fun t53_18 w =>
  run Pg (Builtin.copy_ #[78, 78] 3 #[t50_17, t53_18]) (fun t54_19 w =>
  (fun _ => True) w ∧ leaveW Pg ds (fun w => K t40_13 w) w) w) w) w) w.drew) w) w) w) w) w) w) (
  run Pg (binS .add 3 false t19_4 t14_2) (fun t59_20 w =>
  run Pg (Instr.sliceAt 78 x0 none (some t59_20) none) (fun t60_21 w =>
  run Pg (binS .add 3 false x1 t14_2) (fun t65_22 w =>
  run Pg (Instr.sliceAt 78 t60_21 (some t65_22) none none) (fun t66_23 w =>
  call Pg F.slices_overlaps_rder_pair_int_pool_frame [x2, t66_23] (fun t67_24 w =>
  run Pg (Op.unary .not t67_24) (fun t68_25 w =>
  cnd t68_25 (
  rn Pg (fun _ => True) (binS .add 3 false x1 t14_2) (fun t72_26 w =>
  rn Pg (fun _ => True) (Instr.sliceAt 78 t60_21 (some t72_26) none none) (fun t73_27 w =>
  rn Pg (fun _ => True) (Instr.sliceAt 78 t60_21 (some x1) none none) (fun t76_28 w =>
  run Pg (Builtin.copy_ #[78, 78] 3 #[t73_27, t76_28]) (fun t77_29 w =>
  (fun _ => True) w ∧ run Pg (Instr.sliceAt 78 t60_21 (some x1) none none) (fun t80_30 w =>
  run Pg (Builtin.copy_ #[78, 78] 3 #[t80_30, x2]) (fun t82_31 w =>
  leaveW Pg ds (fun w => K t60_21 w) w) w) w) w) w) w) w.drew) (
  run Pg (Instr.sliceAt 78 t60_21 (some t19_4) none none) (fun t86_32 w =>
  run Pg (Builtin.copy_ #[78, 78] 3 #[t86_32, x2]) (fun t88_33 w =>
  run Pg (Instr.sliceAt 78 t60_21 (some x1) none none) (fun t91_34 w =>
  call Pg F.slices_rotateRight_rder_pair_int_pool_frame [t91_34, t14_2] (fun t93_35 w =>
  leaveW Pg ds (fun w => K t60_21 w) w) w) w) w) w)) w) w) w) w) w) w)) w) w) w)) w) w)) w) w) w

theorem slices_Insert_rder_pair_int_pool_frame_eq (K : Value → World → Prop) : W Pg slices_Insert_rder_pair_int_pool_frame_body false (retQ Pg [.tmp 6] K) = (fun s w => slices_Insert_rder_pair_int_pool_frame K s.ds (s.f 0) (s.f 1) (s.f 2) w) :=
  by kernel_rfl

theorem slices_Insert_rder_pair_int_pool_frame_ok : FnOk Pg F.slices_Insert_rder_pair_int_pool_frame Go.Proofs.Tryz.f61 slices_Insert_rder_pair_int_pool_frame_body 3 := ⟨Go.Proofs.Tryz.func61, by kernel_rfl, by kernel_rfl, by kernel_rfl, by kernel_rfl, by kernel_rfl⟩

theorem slices_Insert_rder_pair_int_pool_frame_callS {K : Value → World → Prop} {x0 : Value} {x1 : Value} {x2 : Value} {w : World} (h : slices_Insert_rder_pair_int_pool_frame K [] x0 x1 x2 w) : callS Pg F.slices_Insert_rder_pair_int_pool_frame [x0, x1, x2] K w :=
  call_of_W slices_Insert_rder_pair_int_pool_frame_ok (Eq.mpr (congrFun (congrFun (slices_Insert_rder_pair_int_pool_frame_eq K) ⟨argFr [x0, x1, x2], []⟩) w) h)

theorem slices_Insert_rder_pair_int_pool_frame_call {K : Value → World → Prop} {x0 : Value} {x1 : Value} {x2 : Value} {w : World} (h : slices_Insert_rder_pair_int_pool_frame K [] x0 x1 x2 w) : call Pg F.slices_Insert_rder_pair_int_pool_frame [x0, x1, x2] K w := .inl (slices_Insert_rder_pair_int_pool_frame_callS h)

/-- (*concordance/order.Recent[int]).Drop -/
noncomputable def order_Recent_int_Drop_body : Code := (Go.Proofs.Tryz.f62.body).getD .skip

def order_Recent_int_Drop_j1 (K : Value → World → Prop) (ds : List Deferred) (x5 : Value) (w : World) : Prop :=
  run Pg (binS .geq 3 true x5 (.int .i64 0)) (fun t26_1 w =>
  leaveW Pg ds (fun w => K t26_1 w) w) w

theorem order_Recent_int_Drop_j1_eq (K : Value → World → Prop) : W Pg (cR (cR (cR order_Recent_int_Drop_body))) false (retQ Pg [.tmp 4] K) = (fun s w => order_Recent_int_Drop_j1 K s.ds (s.f 5) w) :=
  by kernel_rfl

def order_Recent_int_Drop (K : Value → World → Prop) (ds : List Deferred) (x0 : Value) (x1 : Value) (w : World) : Prop :=
  run Pg (nilS x0) (fun t7_2 w =>
  run Pg (Instr.fieldAt 82 t7_2 0) (fun t8_3 w =>
  run Pg (Instr.loadAt 22 t8_3) (fun t9_4 w =>
  call Pg F.slices_Index_int_int [t9_4, x1] (fun t11_5 w =>
  run Pg (binS .geq 3 true t11_5 (.int .i64 0)) (fun t13_6 w =>
  cnd t13_6 (
  run Pg (nilS x0) (fun t16_7 w =>
  run Pg (Instr.fieldAt 82 t16_7 0) (fun t17_8 w =>
  run Pg (Instr.loadAt 22 t17_8) (fun t18_9 w =>
  run Pg (binS .add 3 true t11_5 (.int .i64 1)) (fun t21_10 w =>
  call Pg F.slices_Delete_int_int [t18_9, t11_5, t21_10] (fun t22_11 w =>
  run Pg (nilS x0) (fun t23_12 w =>
  run Pg (Instr.fieldAt 82 t23_12 0) (fun t24_13 w =>
  runU Pg (Instr.storeAt 22 t24_13 t22_11) (fun w =>
  order_Recent_int_Drop_j1 K ds t11_5 w) w) w) w) w) w) w) w) w) (
  order_Recent_int_Drop_j1 K ds t11_5 w)) w) w) w) w) w

theorem order_Recent_int_Drop_eq (K : Value → World → Prop) : W Pg order_Recent_int_Drop_body false (retQ Pg [.tmp 4] K) = (fun s w => order_Recent_int_Drop K s.ds (s.f 0) (s.f 1) w) :=
  Eq.trans (eqSeq (eqSeq (eqSeq (order_Recent_int_Drop_j1_eq K)))) (by kernel_rfl)

theorem order_Recent_int_Drop_ok : FnOk Pg F.order_Recent_int_Drop Go.Proofs.Tryz.f62 order_Recent_int_Drop_body 2 := ⟨Go.Proofs.Tryz.func62, by kernel_rfl, by kernel_rfl, by kernel_rfl, by kernel_rfl, by kernel_rfl⟩

theorem order_Recent_int_Drop_callS {K : Value → World → Prop} {x0 : Value} {x1 : Value} {w : World} (h : order_Recent_int_Drop K [] x0 x1 w) : callS Pg F.order_Recent_int_Drop [x0, x1] K w :=
  call_of_W order_Recent_int_Drop_ok (Eq.mpr (congrFun (congrFun (order_Recent_int_Drop_eq K) ⟨argFr [x0, x1], []⟩) w) h)

theorem order_Recent_int_Drop_call {K : Value → World → Prop} {x0 : Value} {x1 : Value} {w : World} (h : order_Recent_int_Drop K [] x0 x1 w) : call Pg F.order_Recent_int_Drop [x0, x1] K w := .inl (order_Recent_int_Drop_callS h)

/-- concordance/order.each[int,*concordance/pool.frame] -/
noncomputable def order_each_int_pool_frame_body : Code := (Go.Proofs.Tryz.f63.body).getD .skip

def order_each_int_pool_frame (K : Value → World → Prop) (ds : List Deferred) (x0 : Value) (w : World) : Prop :=
  call Pg F.slices_Clone_rder_pair_int_pool_frame [x0] (fun t5_1 w =>
  run Pg (Instr.alloc 78 true (.tuple #[])) (fun now_2 w =>
  runU Pg (Instr.storeAt 78 now_2 t5_1) (fun w =>
  run Pg (Instr.makeFunc (.func 90) #[] #[now_2]) (fun t6_3 w =>
  leaveW Pg ds (fun w => K t6_3 w) w) w) w) w) w

theorem order_each_int_pool_frame_eq (K : Value → World → Prop) : W Pg order_each_int_pool_frame_body false (retQ Pg [.tmp 2] K) = (fun s w => order_each_int_pool_frame K s.ds (s.f 0) w) :=
  by kernel_rfl

theorem order_each_int_pool_frame_ok : FnOk Pg F.order_each_int_pool_frame Go.Proofs.Tryz.f63 order_each_int_pool_frame_body 1 := ⟨Go.Proofs.Tryz.func63, by kernel_rfl, by kernel_rfl, by kernel_rfl, by kernel_rfl, by kernel_rfl⟩

theorem order_each_int_pool_frame_callS {K : Value → World → Prop} {x0 : Value} {w : World} (h : order_each_int_pool_frame K [] x0 w) : callS Pg F.order_each_int_pool_frame [x0] K w :=
  call_of_W order_each_int_pool_frame_ok (Eq.mpr (congrFun (congrFun (order_each_int_pool_frame_eq K) ⟨argFr [x0], []⟩) w) h)

theorem order_each_int_pool_frame_call {K : Value → World → Prop} {x0 : Value} {w : World} (h : order_each_int_pool_frame K [] x0 w) : call Pg F.order_each_int_pool_frame [x0] K w := .inl (order_each_int_pool_frame_callS h)

/-- (*concordance/order.Map[int, *concordance/pool.frame]).Delete -/
noncomputable def order_Map_int_pool_frame_Delete_body : Code := (Go.Proofs.Tryz.f64.body).getD .skip

def order_Map_int_pool_frame_Delete_j1 (K : Value → World → Prop) (ds : List Deferred) (x6 : Value) (w : World) : Prop :=
  leaveW Pg ds (fun w => K x6 w) w

theorem order_Map_int_pool_frame_Delete_j1_eq (K : Value → World → Prop) : W Pg (cR (cR (cR order_Map_int_pool_frame_Delete_body))) false (retQ Pg [.tmp 4] K) = (fun s w => order_Map_int_pool_frame_Delete_j1 K s.ds (s.f 6) w) :=
  by kernel_rfl

def order_Map_int_pool_frame_Delete (K : Value → World → Prop) (ds : List Deferred) (x0 : Value) (x1 : Value) (w : World) : Prop :=
  call Pg F.order_Map_int_pool_frame_find [x0, x1] (fun t10_1 w =>
  run Pg (Instr.extract t10_1 0) (fun t11_2 w =>
  run Pg (Instr.extract t10_1 1) (fun t12_3 w =>
  cnd t12_3 (
  run Pg (nilS x0) (fun t16_4 w =>
  run Pg (Instr.fieldAt 80 t16_4 0) (fun t17_5 w =>
  run Pg (Instr.loadAt 78 t17_5) (fun t18_6 w =>
  run Pg (binS .add 3 true t11_2 (.int .i64 1)) (fun t21_7 w =>
  call Pg F.slices_Delete_rder_pair_int_pool_frame [t18_6, t11_2, t21_7] (fun t22_8 w =>
  run Pg (nilS x0) (fun t23_9 w =>
  run Pg (Instr.fieldAt 80 t23_9 0) (fun t24_10 w =>
  runU Pg (Instr.storeAt 78 t24_10 t22_8) (fun w =>
  order_Map_int_pool_frame_Delete_j1 K ds t12_3 w) w) w) w) w) w) w) w) w) (
  order_Map_int_pool_frame_Delete_j1 K ds t12_3 w)) w) w) w

theorem order_Map_int_pool_frame_Delete_eq (K : Value → World → Prop) : W Pg order_Map_int_pool_frame_Delete_body false (retQ Pg [.tmp 4] K) = (fun s w => order_Map_int_pool_frame_Delete K s.ds (s.f 0) (s.f 1) w) :=
  Eq.trans (eqSeq (eqSeq (eqSeq (order_Map_int_pool_frame_Delete_j1_eq K)))) (by kernel_rfl)

theorem order_Map_int_pool_frame_Delete_ok : FnOk Pg F.order_Map_int_pool_frame_Delete Go.Proofs.Tryz.f64 order_Map_int_pool_frame_Delete_body 2 := ⟨Go.Proofs.Tryz.func64, by kernel_rfl, by kernel_rfl, by kernel_rfl, by kernel_rfl, by kernel_rfl⟩

theorem order_Map_int_pool_frame_Delete_callS {K : Value → World → Prop} {x0 : Value} {x1 : Value} {w : World} (h : order_Map_int_pool_frame_Delete K [] x0 x1 w) : callS Pg F.order_Map_int_pool_frame_Delete [x0, x1] K w :=
  call_of_W order_Map_int_pool_frame_Delete_ok (Eq.mpr (congrFun (congrFun (order_Map_int_pool_frame_Delete_eq K) ⟨argFr [x0, x1], []⟩) w) h)

theorem order_Map_int_pool_frame_Delete_call {K : Value → World → Prop} {x0 : Value} {x1 : Value} {w : World} (h : order_Map_int_pool_frame_Delete K [] x0 x1 w) : call Pg F.order_Map_int_pool_frame_Delete [x0, x1] K w := .inl (order_Map_int_pool_frame_Delete_callS h)

/-- slices.BinarySearchFunc[[]concordance/order.pair[int, *concordance/pool.frame],concordance/order.pair[int, *concordance/pool.frame],int] -/
noncomputable def slices_BinarySearchFunc_pair_int_pool_frame_int_body : Code := (Go.Proofs.Tryz.f78.body).getD .skip

def slices_BinarySearchFunc_pair_int_pool_frame_int_g2 (K : Value → World → Prop) (ds : List Deferred) (x35 : Value) (x39 : Value) (x47 : Value) (w : World) : Prop :=
  pickV x39 x47 (.bool false) (fun t48_1 w =>
  leaveW Pg ds (fun w => K (.tuple #[x35, t48_1]) w) w) w

theorem slices_BinarySearchFunc_pair_int_pool_frame_int_g2_eq (K : Value → World → Prop) : opsG (op1W Pg) (rOps (cL (cR (cR (cR (cR slices_BinarySearchFunc_pair_int_pool_frame_int_body)))))).toList ((groups (rOps (cL (cR (cR (cR (cR slices_BinarySearchFunc_pair_int_pool_frame_int_body)))))).toList).drop 2) 13 (W Pg (cR (cR (cR (cR (cR slices_BinarySearchFunc_pair_int_pool_frame_int_body))))) false (retQ Pg [.tmp 6, .tmp 7] K)) = (fun s w => slices_BinarySearchFunc_pair_int_pool_frame_int_g2 K s.ds (s.f 35) (s.f 39) (s.f 47) w) :=
  by kernel_rfl

def slices_BinarySearchFunc_pair_int_pool_frame_int_j1 (K : Value → World → Prop) (ds : List Deferred) (x0 : Value) (x1 : Value) (x2 : Value) (x8 : Value) (x9 : Value) (w : World) : Prop :=
  run Pg (binS .lss 3 false x9 x8) (fun t38_2 w =>
  gcond t38_2 true (
  run Pg (Instr.indexAt 78 x0 x9) (fun t43_3 w =>
  run Pg (Instr.loadAt 118 t43_3) (fun t44_4 w =>
  callV Pg x2 [t44_4, x1] (fun t46_5 w =>
  run Pg (binS .eql 3 true t46_5 (.int .i64 0)) (fun t47_6 w =>
  slices_BinarySearchFunc_pair_int_pool_frame_int_g2 K ds x9 t38_2 t47_6 w) w) w) w) w) (
  slices_BinarySearchFunc_pair_int_pool_frame_int_g2 K ds x9 t38_2 undef w)) w

theorem slices_BinarySearchFunc_pair_int_pool_frame_int_j1_eq (K : Value → World → Prop) : W Pg (cR (cR (cR (cR slices_BinarySearchFunc_pair_int_pool_frame_int_body)))) false (retQ Pg [.tmp 6, .tmp 7] K) = (fun s w => slices_BinarySearchFunc_pair_int_pool_frame_int_j1 K s.ds (s.f 0) (s.f 1) (s.f 2) (s.f 8) (s.f 9) w) :=
  Eq.trans (eqSeqL (eqReg (rd := false) (id := 8) (ops := rOps (cL (cR (cR (cR (cR slices_BinarySearchFunc_pair_int_pool_frame_int_body)))))) (by kernel_rfl) (eqPlain (eqGrd (slices_BinarySearchFunc_pair_int_pool_frame_int_g2_eq K))))) (by kernel_rfl)

def slices_BinarySearchFunc_pair_int_pool_frame_int_l3 (K : Value → World → Prop) (X1 : List Deferred × Value × Value × Value × Value × Value × Value → World → Prop) (st : List Deferred × Value × Value × Value × Value × Value × Value) (w : World) : Prop :=
  run Pg (binS .lss 3 false st.2.2.2.2.2.1 st.2.2.2.2.2.2) (fun t17_7 w =>
  cnd t17_7 (
  run Pg (binS .add 3 false st.2.2.2.2.2.1 st.2.2.2.2.2.2) (fun t20_8 w =>
  run Pg (convert 3 126 t20_8) (fun t21_9 w =>
  run Pg (binS .shr 126 true t21_9 (.int .u64 1)) (fun t22_10 w =>
  run Pg (convert 126 3 t22_10) (fun t23_11 w =>
  run Pg (Instr.indexAt 78 st.2.1 t23_11) (fun t27_12 w =>
  run Pg (Instr.loadAt 118 t27_12) (fun t28_13 w =>
  callV Pg st.2.2.2.1 [t28_13, st.2.2.1] (fun t30_14 w =>
  run Pg (binS .lss 3 true t30_14 (.int .i64 0)) (fun t31_15 w =>
  cnd t31_15 (
  run Pg (binS .add 3 true t23_11 (.int .i64 1)) (fun t33_16 w =>
  X1 (st.1, st.2.1, st.2.2.1, st.2.2.2.1, st.2.2.2.2.1, t33_16, st.2.2.2.2.2.2) w) w) (
  X1 (st.1, st.2.1, st.2.2.1, st.2.2.2.1, st.2.2.2.2.1, st.2.2.2.2.2.1, t23_11) w)) w) w) w) w) w) w) w) w) (
  slices_BinarySearchFunc_pair_int_pool_frame_int_j1 K st.1 st.2.1 st.2.2.1 st.2.2.2.1 st.2.2.2.2.1 st.2.2.2.2.2.1 w)) w

theorem slices_BinarySearchFunc_pair_int_pool_frame_int_l3_eq (K : Value → World → Prop) (X1 : List Deferred × Value × Value × Value × Value × Value × Value → World → Prop) : W Pg (cB (cB (cL (cR (cR (cR slices_BinarySearchFunc_pair_int_pool_frame_int_body)))))) false (thenP (fun s w => X1 (s.ds, s.f 0, s.f 1, s.f 2, s.f 8, s.f 9, s.f 10) w) (blockP 0 (thenP (fun s w => slices_BinarySearchFunc_pair_int_pool_frame_int_j1 K s.ds (s.f 0) (s.f 1) (s.f 2) (s.f 8) (s.f 9) w) (retQ Pg [.tmp 6, .tmp 7] K)))) = (fun s w => slices_BinarySearchFunc_pair_int_pool_frame_int_l3 K X1 (s.ds, s.f 0, s.f 1, s.f 2, s.f 8, s.f 9, s.f 10) w) :=
  by kernel_rfl

theorem slices_BinarySearchFunc_pair_int_pool_frame_int_l3_mono (K : Value → World → Prop) : ∀ X Y : List Deferred × Value × Value × Value × Value × Value × Value → World → Prop, (∀ t w, X t w → Y t w) → ∀ t w, slices_BinarySearchFunc_pair_int_pool_frame_int_l3 K X t w → slices_BinarySearchFunc_pair_int_pool_frame_int_l3 K Y t w :=
  loop_mono (fun s : St => ((s.ds, s.f 0, s.f 1, s.f 2, s.f 8, s.f 9, s.f 10) : List Deferred × Value × Value × Value × Value × Value × Value)) (fun X1 => slices_BinarySearchFunc_pair_int_pool_frame_int_l3_eq K X1) (fun t => ⟨fun i => (bif Nat.beq i 0 then t.2.1 else (bif Nat.beq i 1 then t.2.2.1 else (bif Nat.beq i 2 then t.2.2.2.1 else (bif Nat.beq i 8 then t.2.2.2.2.1 else (bif Nat.beq i 9 then t.2.2.2.2.2.1 else (bif Nat.beq i 10 then t.2.2.2.2.2.2 else undef)))))), t.1⟩) (fun _ => rfl)

def slices_BinarySearchFunc_pair_int_pool_frame_int (K : Value → World → Prop) (ds : List Deferred) (x0 : Value) (x1 : Value) (x2 : Value) (w : World) : Prop :=
  run Pg (Builtin.len_ #[78] 3 #[x0]) (fun t13_17 w =>
  Lp (slices_BinarySearchFunc_pair_int_pool_frame_int_l3 K) (ds, x0, x1, x2, t13_17, (.int .i64 0), t13_17) w) w

theorem slices_BinarySearchFunc_pair_int_pool_frame_int_eq (K : Value → World → Prop) : W Pg slices_BinarySearchFunc_pair_int_pool_frame_int_body false (retQ Pg [.tmp 6, .tmp 7] K) = (fun s w => slices_BinarySearchFunc_pair_int_pool_frame_int K s.ds (s.f 0) (s.f 1) (s.f 2) w) :=
  Eq.trans (eqSeq (eqSeq (eqSeq ((eqSeq (slices_BinarySearchFunc_pair_int_pool_frame_int_j1_eq K)).trans (eqBlock (eqLoop (rd := false) (fun s : St => ((s.ds, s.f 0, s.f 1, s.f 2, s.f 8, s.f 9, s.f 10) : List Deferred × Value × Value × Value × Value × Value × Value)) (fun X1 => slices_BinarySearchFunc_pair_int_pool_frame_int_l3_eq K X1))))))) (by kernel_rfl)

theorem slices_BinarySearchFunc_pair_int_pool_frame_int_ok : FnOk Pg F.slices_BinarySearchFunc_pair_int_pool_frame_int Go.Proofs.Tryz.f78 slices_BinarySearchFunc_pair_int_pool_frame_int_body 3 := ⟨Go.Proofs.Tryz.func78, by kernel_rfl, by kernel_rfl, by kernel_rfl, by kernel_rfl, by kernel_rfl⟩

theorem slices_BinarySearchFunc_pair_int_pool_frame_int_callS {K : Value → World → Prop} {x0 : Value} {x1 : Value} {x2 : Value} {w : World} (h : slices_BinarySearchFunc_pair_int_pool_frame_int K [] x0 x1 x2 w) : callS Pg F.slices_BinarySearchFunc_pair_int_pool_frame_int [x0, x1, x2] K w :=
  call_of_W slices_BinarySearchFunc_pair_int_pool_frame_int_ok (Eq.mpr (congrFun (congrFun (slices_BinarySearchFunc_pair_int_pool_frame_int_eq K) ⟨argFr [x0, x1, x2], []⟩) w) h)

theorem slices_BinarySearchFunc_pair_int_pool_frame_int_call {K : Value → World → Prop} {x0 : Value} {x1 : Value} {x2 : Value} {w : World} (h : slices_BinarySearchFunc_pair_int_pool_frame_int K [] x0 x1 x2 w) : call Pg F.slices_BinarySearchFunc_pair_int_pool_frame_int [x0, x1, x2] K w := .inl (slices_BinarySearchFunc_pair_int_pool_frame_int_callS h)

/-- (*concordance/order.Map[int, *concordance/pool.frame]).find$1 -/
noncomputable def order_Map_int_pool_frame_find_c1_body : Code := (Go.Proofs.Tryz.f79.body).getD .skip

def order_Map_int_pool_frame_find_c1 (K : Value → World → Prop) (ds : List Deferred) (x0 : Value) (x1 : Value) (w : World) : Prop :=
  run Pg (Instr.box 118 x0) (fun p_1 w =>
  run Pg (Instr.fieldAt 118 p_1 0) (fun t5_2 w =>
  run Pg (Instr.loadAt 3 t5_2) (fun t6_3 w =>
  call Pg F.cmp_Compare_int [t6_3, x1] (fun t8_4 w =>
  leaveW Pg ds (fun w => K t8_4 w) w) w) w) w) w

theorem order_Map_int_pool_frame_find_c1_eq (K : Value → World → Prop) : W Pg order_Map_int_pool_frame_find_c1_body false (retQ Pg [.tmp 4] K) = (fun s w => order_Map_int_pool_frame_find_c1 K s.ds (s.f 0) (s.f 1) w) :=
  by kernel_rfl

theorem order_Map_int_pool_frame_find_c1_ok : FnOk Pg F.order_Map_int_pool_frame_find_c1 Go.Proofs.Tryz.f79 order_Map_int_pool_frame_find_c1_body 2 := ⟨Go.Proofs.Tryz.func79, by kernel_rfl, by kernel_rfl, by kernel_rfl, by kernel_rfl, by kernel_rfl⟩

theorem order_Map_int_pool_frame_find_c1_callS {K : Value → World → Prop} {x0 : Value} {x1 : Value} {w : World} (h : order_Map_int_pool_frame_find_c1 K [] x0 x1 w) : callS Pg F.order_Map_int_pool_frame_find_c1 [x0, x1] K w :=
  call_of_W order_Map_int_pool_frame_find_c1_ok (Eq.mpr (congrFun (congrFun (order_Map_int_pool_frame_find_c1_eq K) ⟨argFr [x0, x1], []⟩) w) h)

theorem order_Map_int_pool_frame_find_c1_call {K : Value → World → Prop} {x0 : Value} {x1 : Value} {w : World} (h : order_Map_int_pool_frame_find_c1 K [] x0 x1 w) : call Pg F.order_Map_int_pool_frame_find_c1 [x0, x1] K w := .inl (order_Map_int_pool_frame_find_c1_callS h)

/-- cmp.Compare[int] -/
noncomputable def cmp_Compare_int_body : Code := (Go.Proofs.Tryz.f80.body).getD .skip

def cmp_Compare_int (K : Value → World → Prop) (ds : List Deferred) (x0 : Value) (x1 : Value) (w : World) : Prop :=
  call Pg F.cmp_isNaN_int [x0] (fun t8_1 w =>
  call Pg F.cmp_isNaN_int [x1] (fun t10_2 w =>
  cnd t8_1 (
  cnd t10_2 (
  leaveW Pg ds (fun w => K (.int .i64 0) w) w) (
  leaveW Pg ds (fun w => K (.int .i64 (-1)) w) w)) (
  cnd t10_2 (
  leaveW Pg ds (fun w => K (.int .i64 1) w) w) (
  run Pg (binS .lss 3 false x0 x1) (fun t16_3 w =>
  cnd t16_3 (
  leaveW Pg ds (fun w => K (.int .i64 (-1)) w) w) (
  run Pg (binS .gtr 3 false x0 x1) (fun t19_4 w =>
  cnd t19_4 (
  leaveW Pg ds (fun w => K (.int .i64 1) w) w) (
  leaveW Pg ds (fun w => K (.int .i64 0) w) w)) w)) w))) w) w

theorem cmp_Compare_int_eq (K : Value → World → Prop) : W Pg cmp_Compare_int_body false (retQ Pg [.tmp 4] K) = (fun s w => cmp_Compare_int K s.ds (s.f 0) (s.f 1) w) :=
  by kernel_rfl

theorem cmp_Compare_int_ok : FnOk Pg F.cmp_Compare_int Go.Proofs.Tryz.f80 cmp_Compare_int_body 2 := ⟨Go.Proofs.Tryz.func80, by kernel_rfl, by kernel_rfl, by kernel_rfl, by kernel_rfl, by kernel_rfl⟩

theorem cmp_Compare_int_callS {K : Value → World → Prop} {x0 : Value} {x1 : Value} {w : World} (h : cmp_Compare_int K [] x0 x1 w) : callS Pg F.cmp_Compare_int [x0, x1] K w :=
  call_of_W cmp_Compare_int_ok (Eq.mpr (congrFun (congrFun (cmp_Compare_int_eq K) ⟨argFr [x0, x1], []⟩) w) h)

theorem cmp_Compare_int_call {K : Value → World → Prop} {x0 : Value} {x1 : Value} {w : World} (h : cmp_Compare_int K [] x0 x1 w) : call Pg F.cmp_Compare_int [x0, x1] K w := .inl (cmp_Compare_int_callS h)

/-- (*concordance/order.Recent[int]).Oldest$1 -/
noncomputable def order_Recent_int_Oldest_c1_body : Code := (Go.Proofs.Tryz.f82.body).getD .skip

def order_Recent_int_Oldest_c1_l1 (K : Value → World → Prop) (X1 : List Deferred × Value × Value × Value × Value → World → Prop) (st : List Deferred × Value × Value × Value × Value) (w : World) : Prop :=
  run Pg (binS .lss 3 false st.2.2.2.2 st.2.2.2.1) (fun t8_1 w =>
  cnd t8_1 (
  run Pg (Instr.indexAt 22 st.2.2.1 st.2.2.2.2) (fun t9_2 w =>
  run Pg (Instr.loadAt 3 t9_2) (fun t10_3 w =>
  callV Pg st.2.1 [t10_3] (fun t13_4 w =>
  run Pg (Op.unary .not t13_4) (fun t14_5 w =>
  cnd t14_5 (
  leaveW Pg st.1 (fun w => K (.tuple #[]) w) w) (
  run Pg (binS .add 3 true st.2.2.2.2 (.int .i64 1)) (fun t15_6 w =>
  X1 (st.1, st.2.1, st.2.2.1, st.2.2.2.1, t15_6) w) w)) w) w) w) w) (
  leaveW Pg st.1 (fun w => K (.tuple #[]) w) w)) w

theorem order_Recent_int_Oldest_c1_l1_eq (K : Value → World → Prop) (X1 : List Deferred × Value × Value × Value × Value → World → Prop) : W Pg (cB (cB (cR order_Recent_int_Oldest_c1_body))) false (thenP (fun s w => X1 (s.ds, s.f 0, s.f 5, s.f 6, s.f 7) w) (blockP 0 (retQ Pg [] K))) = (fun s w => order_Recent_int_Oldest_c1_l1 K X1 (s.ds, s.f 0, s.f 5, s.f 6, s.f 7) w) :=
  by kernel_rfl

theorem order_Recent_int_Oldest_c1_l1_mono (K : Value → World → Prop) : ∀ X Y : List Deferred × Value × Value × Value × Value → World → Prop, (∀ t w, X t w → Y t w) → ∀ t w, order_Recent_int_Oldest_c1_l1 K X t w → order_Recent_int_Oldest_c1_l1 K Y t w :=
  loop_mono (fun s : St => ((s.ds, s.f 0, s.f 5, s.f 6, s.f 7) : List Deferred × Value × Value × Value × Value)) (fun X1 => order_Recent_int_Oldest_c1_l1_eq K X1) (fun t => ⟨fun i => (bif Nat.beq i 0 then t.2.1 else (bif Nat.beq i 5 then t.2.2.1 else (bif Nat.beq i 6 then t.2.2.2.1 else (bif Nat.beq i 7 then t.2.2.2.2 else undef)))), t.1⟩) (fun _ => rfl)

def order_Recent_int_Oldest_c1 (K : Value → World → Prop) (ds : List Deferred) (x0 : Value) (x1 : Value) (w : World) : Prop :=
  run Pg (Instr.loadAt 22 x1) (fun t5_7 w =>
  run Pg (Builtin.len_ #[22] 3 #[t5_7]) (fun t6_8 w =>
  Lp (order_Recent_int_Oldest_c1_l1 K) (ds, x0, t5_7, t6_8, (.int .i64 0)) w) w) w

theorem order_Recent_int_Oldest_c1_eq (K : Value → World → Prop) : W Pg order_Recent_int_Oldest_c1_body false (retQ Pg [] K) = (fun s w => order_Recent_int_Oldest_c1 K s.ds (s.f 0) (s.f 1) w) :=
  Eq.trans (eqSeq (eqBlock (eqLoop (rd := false) (fun s : St => ((s.ds, s.f 0, s.f 5, s.f 6, s.f 7) : List Deferred × Value × Value × Value × Value)) (fun X1 => order_Recent_int_Oldest_c1_l1_eq K X1)))) (by kernel_rfl)

theorem order_Recent_int_Oldest_c1_ok : FnOk Pg F.order_Recent_int_Oldest_c1 Go.Proofs.Tryz.f82 order_Recent_int_Oldest_c1_body 2 := ⟨Go.Proofs.Tryz.func82, by kernel_rfl, by kernel_rfl, by kernel_rfl, by kernel_rfl, by kernel_rfl⟩

theorem order_Recent_int_Oldest_c1_callS {K : Value → World → Prop} {x0 : Value} {x1 : Value} {w : World} (h : order_Recent_int_Oldest_c1 K [] x0 x1 w) : callS Pg F.order_Recent_int_Oldest_c1 [x0, x1] K w :=
  call_of_W order_Recent_int_Oldest_c1_ok (Eq.mpr (congrFun (congrFun (order_Recent_int_Oldest_c1_eq K) ⟨argFr [x0, x1], []⟩) w) h)

theorem order_Recent_int_Oldest_c1_call {K : Value → World → Prop} {x0 : Value} {x1 : Value} {w : World} (h : order_Recent_int_Oldest_c1 K [] x0 x1 w) : call Pg F.order_Recent_int_Oldest_c1 [x0, x1] K w := .inl (order_Recent_int_Oldest_c1_callS h)

/-- slices.rotateRight[concordance/order.pair[int, *concordance/pool.frame]] -/
noncomputable def slices_rotateRight_rder_pair_int_pool_frame_body : Code := (Go.Proofs.Tryz.f86.body).getD .skip

def slices_rotateRight_rder_pair_int_pool_frame (K : Value → World → Prop) (ds : List Deferred) (x0 : Value) (x1 : Value) (w : World) : Prop :=
  run Pg (Builtin.len_ #[78] 3 #[x0]) (fun t6_1 w =>
  run Pg (binS .sub 3 false t6_1 x1) (fun t8_2 w =>
  call Pg F.slices_rotateLeft_rder_pair_int_pool_frame [x0, t8_2] (fun t9_3 w =>
  leaveW Pg ds (fun w => K (.tuple #[]) w) w) w) w) w

theorem slices_rotateRight_rder_pair_int_pool_frame_eq (K : Value → World → Prop) : W Pg slices_rotateRight_rder_pair_int_pool_frame_body false (retQ Pg [] K) = (fun s w => slices_rotateRight_rder_pair_int_pool_frame K s.ds (s.f 0) (s.f 1) w) :=
  by kernel_rfl

theorem slices_rotateRight_rder_pair_int_pool_frame_ok : FnOk Pg F.slices_rotateRight_rder_pair_int_pool_frame Go.Proofs.Tryz.f86 slices_rotateRight_rder_pair_int_pool_frame_body 2 := ⟨Go.Proofs.Tryz.func86, by kernel_rfl, by kernel_rfl, by kernel_rfl, by kernel_rfl, by kernel_rfl⟩

theorem slices_rotateRight_rder_pair_int_pool_frame_callS {K : Value → World → Prop} {x0 : Value} {x1 : Value} {w : World} (h : slices_rotateRight_rder_pair_int_pool_frame K [] x0 x1 w) : callS Pg F.slices_rotateRight_rder_pair_int_pool_frame [x0, x1] K w :=
  call_of_W slices_rotateRight_rder_pair_int_pool_frame_ok (Eq.mpr (congrFun (congrFun (slices_rotateRight_rder_pair_int_pool_frame_eq K) ⟨argFr [x0, x1], []⟩) w) h)

theorem slices_rotateRight_rder_pair_int_pool_frame_call {K : Value → World → Prop} {x0 : Value} {x1 : Value} {w : World} (h : slices_rotateRight_rder_pair_int_pool_frame K [] x0 x1 w) : call Pg F.slices_rotateRight_rder_pair_int_pool_frame [x0, x1] K w := .inl (slices_rotateRight_rder_pair_int_pool_frame_callS h)

/-- concordance/order.each[int,*concordance/pool.frame]$1 -/
noncomputable def order_each_int_pool_frame_c1_body : Code := (Go.Proofs.Tryz.f90.body).getD .skip

def order_each_int_pool_frame_c1_l1 (K : Value → World → Prop) (X1 : List Deferred × Value × Value × Value × Value → World → Prop) (st : List Deferred × Value × Value × Value × Value) (w : World) : Prop :=
  run Pg (binS .lss 3 false st.2.2.2.2 st.2.2.2.1) (fun t8_1 w =>
  cnd t8_1 (
  run Pg (Instr.indexAt 78 st.2.2.1 st.2.2.2.2) (fun t9_2 w =>
  run Pg (Instr.loadAt 118 t9_2) (fun t10_3 w =>
  run Pg (Instr.alloc 118 true (.tuple #[])) (fun p_4 w =>
  runU Pg (Instr.storeAt 118 p_4 t10_3) (fun w =>
  run Pg (Instr.fieldAt 118 p_4 0) (fun t12_5 w =>
  run Pg (Instr.loadAt 3 t12_5) (fun t13_6 w =>
  run Pg (Instr.fieldAt 118 p_4 1) (fun t14_7 w =>
  run Pg (Instr.loadAt 85 t14_7) (fun t15_8 w =>
  callV Pg st.2.1 [t13_6, t15_8] (fun t16_9 w =>
  run Pg (Op.unary .not t16_9) (fun t17_10 w =>
  cnd t17_10 (
  leaveW Pg st.1 (fun w => K (.tuple #[]) w) w) (
  run Pg (binS .add 3 true st.2.2.2.2 (.int .i64 1)) (fun t18_11 w =>
  X1 (st.1, st.2.1, st.2.2.1, st.2.2.2.1, t18_11) w) w)) w) w) w) w) w) w) w) w) w) w) (
  leaveW Pg st.1 (fun w => K (.tuple #[]) w) w)) w

theorem order_each_int_pool_frame_c1_l1_eq (K : Value → World → Prop) (X1 : List Deferred × Value × Value × Value × Value → World → Prop) : W Pg (cB (cB (cR order_each_int_pool_frame_c1_body))) false (thenP (fun s w => X1 (s.ds, s.f 0, s.f 5, s.f 6, s.f 7) w) (blockP 0 (retQ Pg [] K))) = (fun s w => order_each_int_pool_frame_c1_l1 K X1 (s.ds, s.f 0, s.f 5, s.f 6, s.f 7) w) :=
  by kernel_rfl

theorem order_each_int_pool_frame_c1_l1_mono (K : Value → World → Prop) : ∀ X Y : List Deferred × Value × Value × Value × Value → World → Prop, (∀ t w, X t w → Y t w) → ∀ t w, order_each_int_pool_frame_c1_l1 K X t w → order_each_int_pool_frame_c1_l1 K Y t w :=
  loop_mono (fun s : St => ((s.ds, s.f 0, s.f 5, s.f 6, s.f 7) : List Deferred × Value × Value × Value × Value)) (fun X1 => order_each_int_pool_frame_c1_l1_eq K X1) (fun t => ⟨fun i => (bif Nat.beq i 0 then t.2.1 else (bif Nat.beq i 5 then t.2.2.1 else (bif Nat.beq i 6 then t.2.2.2.1 else (bif Nat.beq i 7 then t.2.2.2.2 else undef)))), t.1⟩) (fun _ => rfl)

def order_each_int_pool_frame_c1 (K : Value → World → Prop) (ds : List Deferred) (x0 : Value) (x1 : Value) (w : World) : Prop :=
  run Pg (Instr.loadAt 78 x1) (fun t5_12 w =>
  run Pg (Builtin.len_ #[78] 3 #[t5_12]) (fun t6_13 w =>
  Lp (order_each_int_pool_frame_c1_l1 K) (ds, x0, t5_12, t6_13, (.int .i64 0)) w) w) w

theorem order_each_int_pool_frame_c1_eq (K : Value → World → Prop) : W Pg order_each_int_pool_frame_c1_body false (retQ Pg [] K) = (fun s w => order_each_int_pool_frame_c1 K s.ds (s.f 0) (s.f 1) w) :=
  Eq.trans (eqSeq (eqBlock (eqLoop (rd := false) (fun s : St => ((s.ds, s.f 0, s.f 5, s.f 6, s.f 7) : List Deferred × Value × Value × Value × Value)) (fun X1 => order_each_int_pool_frame_c1_l1_eq K X1)))) (by kernel_rfl)

theorem order_each_int_pool_frame_c1_ok : FnOk Pg F.order_each_int_pool_frame_c1 Go.Proofs.Tryz.f90 order_each_int_pool_frame_c1_body 2 := ⟨Go.Proofs.Tryz.func90, by kernel_rfl, by kernel_rfl, by kernel_rfl, by kernel_rfl, by kernel_rfl⟩

theorem order_each_int_pool_frame_c1_callS {K : Value → World → Prop} {x0 : Value} {x1 : Value} {w : World} (h : order_each_int_pool_frame_c1 K [] x0 x1 w) : callS Pg F.order_each_int_pool_frame_c1 [x0, x1] K w :=
  call_of_W order_each_int_pool_frame_c1_ok (Eq.mpr (congrFun (congrFun (order_each_int_pool_frame_c1_eq K) ⟨argFr [x0, x1], []⟩) w) h)

theorem order_each_int_pool_frame_c1_call {K : Value → World → Prop} {x0 : Value} {x1 : Value} {w : World} (h : order_each_int_pool_frame_c1 K [] x0 x1 w) : call Pg F.order_each_int_pool_frame_c1 [x0, x1] K w := .inl (order_each_int_pool_frame_c1_callS h)

/-- slices.Delete[[]concordance/order.pair[int, *concordance/pool.frame],concordance/order.pair[int, *concordance/pool.frame]] -/
noncomputable def slices_Delete_rder_pair_int_pool_frame_body : Code := (Go.Proofs.Tryz.f91.body).getD .skip

def slices_Delete_rder_pair_int_pool_frame (K : Value → World → Prop) (ds : List Deferred) (x0 : Value) (x1 : Value) (x2 : Value) (w : World) : Prop :=
  run Pg (Builtin.len_ #[78] 3 #[x0]) (fun t12_1 w =>
  run Pg (Instr.sliceAt 78 x0 (some x1) (some x2) (some t12_1)) (fun t13_2 w =>
  run Pg (binS .eql 3 false x1 x2) (fun t16_3 w =>
  cnd t16_3 (
  leaveW Pg ds (fun w => K x0 w) w) (
  run Pg (Builtin.len_ #[78] 3 #[x0]) (fun t19_4 w =>
  rn Pg (fun _ => True) (Instr.sliceAt 78 x0 none (some x1) none) (fun t22_5 w =>
  rn Pg (fun _ => True) (Instr.sliceAt 78 x0 (some x2) none none) (fun t25_6 w =>
  run Pg (Builtin.append_ #[78, 78] 78 #[t22_5, t25_6]) (fun t26_7 w =>
  (fun _ => True) w ∧ run Pg (Builtin.len_ #[78] 3 #[t26_7]) (fun t29_8 w =>
  run Pg (Instr.sliceAt 78 t26_7 (some t29_8) (some t19_4) none) (fun t31_9 w =>
  run Pg (Builtin.clear_ #[78] 0 #[t31_9]) (fun _u w =>
  leaveW Pg ds (fun w => K t26_7 w) w) w) w) w) w) w) w.drew) w)) w) w) w

theorem slices_Delete_rder_pair_int_pool_frame_eq (K : Value → World → Prop) : W Pg slices_Delete_rder_pair_int_pool_frame_body false (retQ Pg [.tmp 6] K) = (fun s w => slices_Delete_rder_pair_int_pool_frame K s.ds (s.f 0) (s.f 1) (s.f 2) w) :=
  by kernel_rfl

theorem slices_Delete_rder_pair_int_pool_frame_ok : FnOk Pg F.slices_Delete_rder_pair_int_pool_frame Go.Proofs.Tryz.f91 slices_Delete_rder_pair_int_pool_frame_body 3 := ⟨Go.Proofs.Tryz.func91, by kernel_rfl, by kernel_rfl, by kernel_rfl, by kernel_rfl, by kernel_rfl⟩

theorem slices_Delete_rder_pair_int_pool_frame_callS {K : Value → World → Prop} {x0 : Value} {x1 : Value} {x2 : Value} {w : World} (h : slices_Delete_rder_pair_int_pool_frame K [] x0 x1 x2 w) : callS Pg F.slices_Delete_rder_pair_int_pool_frame [x0, x1, x2] K w :=
  call_of_W slices_Delete_rder_pair_int_pool_frame_ok (Eq.mpr (congrFun (congrFun (slices_Delete_rder_pair_int_pool_frame_eq K) ⟨argFr [x0, x1, x2], []⟩) w) h)

theorem slices_Delete_rder_pair_int_pool_frame_call {K : Value → World → Prop} {x0 : Value} {x1 : Value} {x2 : Value} {w : World} (h : slices_Delete_rder_pair_int_pool_frame K [] x0 x1 x2 w) : call Pg F.slices_Delete_rder_pair_int_pool_frame [x0, x1, x2] K w := .inl (slices_Delete_rder_pair_int_pool_frame_callS h)

/-- slices.Clone[[]concordance/order.pair[int, *concordance/pool.frame],concordance/order.pair[int, *concordance/pool.frame]] -/
noncomputable def slices_Clone_rder_pair_int_pool_frame_body : Code := (Go.Proofs.Tryz.f89.body).getD .skip

def slices_Clone_rder_pair_int_pool_frame (K : Value → World → Prop) (ds : List Deferred) (x0 : Value) (w : World) : Prop :=
  run Pg (binS .eql 78 true x0 (.slice none 0 0)) (fun t4_1 w =>
  cnd t4_1 (
  leaveW Pg ds (fun w => K (.slice none 0 0) w) w) (
  run Pg (Instr.buildSlice 78 0 #[]) (fun t5_2 w =>
  run Pg (Builtin.append_ #[78, 78] 78 #[t5_2, x0]) (fun t7_3 w =>
  leaveW Pg ds (fun w => K t7_3 w) w) w) w)) w

theorem slices_Clone_rder_pair_int_pool_frame_eq (K : Value → World → Prop) : W Pg slices_Clone_rder_pair_int_pool_frame_body false (retQ Pg [.tmp 2] K) = (fun s w => slices_Clone_rder_pair_int_pool_frame K s.ds (s.f 0) w) :=
  by kernel_rfl

theorem slices_Clone_rder_pair_int_pool_frame_ok : FnOk Pg F.slices_Clone_rder_pair_int_pool_frame Go.Proofs.Tryz.f89 slices_Clone_rder_pair_int_pool_frame_body 1 := ⟨Go.Proofs.Tryz.func89, by kernel_rfl, by kernel_rfl, by kernel_rfl, by kernel_rfl, by kernel_rfl⟩

theorem slices_Clone_rder_pair_int_pool_frame_callS {K : Value → World → Prop} {x0 : Value} {w : World} (h : slices_Clone_rder_pair_int_pool_frame K [] x0 w) : callS Pg F.slices_Clone_rder_pair_int_pool_frame [x0] K w :=
  call_of_W slices_Clone_rder_pair_int_pool_frame_ok (Eq.mpr (congrFun (congrFun (slices_Clone_rder_pair_int_pool_frame_eq K) ⟨argFr [x0], []⟩) w) h)

theorem slices_Clone_rder_pair_int_pool_frame_call {K : Value → World → Prop} {x0 : Value} {w : World} (h : slices_Clone_rder_pair_int_pool_frame K [] x0 w) : call Pg F.slices_Clone_rder_pair_int_pool_frame [x0] K w := .inl (slices_Clone_rder_pair_int_pool_frame_callS h)

/-- slices.rotateLeft[concordance/order.pair[int, *concordance/pool.frame]] -/
noncomputable def slices_rotateLeft_rder_pair_int_pool_frame_body : Code := (Go.Proofs.Tryz.f110.body).getD .skip

def slices_rotateLeft_rder_pair_int_pool_frame (K : Value → World → Prop) (ds : List Deferred) (x0 : Value) (x1 : Value) (w : World) : Prop :=
  run Pg (Instr.sliceAt 78 x0 none (some x1) none) (fun t6_1 w =>
  call Pg F.slices_Reverse_rder_pair_int_pool_frame [t6_1] (fun t7_2 w =>
  run Pg (Instr.sliceAt 78 x0 (some x1) none none) (fun t10_3 w =>
  call Pg F.slices_Reverse_rder_pair_int_pool_frame [t10_3] (fun t11_4 w =>
  call Pg F.slices_Reverse_rder_pair_int_pool_frame [x0] (fun t13_5 w =>
  leaveW Pg ds (fun w => K (.tuple #[]) w) w) w) w) w) w) w

theorem slices_rotateLeft_rder_pair_int_pool_frame_eq (K : Value → World → Prop) : W Pg slices_rotateLeft_rder_pair_int_pool_frame_body false (retQ Pg [] K) = (fun s w => slices_rotateLeft_rder_pair_int_pool_frame K s.ds (s.f 0) (s.f 1) w) :=
  by kernel_rfl

theorem slices_rotateLeft_rder_pair_int_pool_frame_ok : FnOk Pg F.slices_rotateLeft_rder_pair_int_pool_frame Go.Proofs.Tryz.f110 slices_rotateLeft_rder_pair_int_pool_frame_body 2 := ⟨Go.Proofs.Tryz.func110, by kernel_rfl, by kernel_rfl, by kernel_rfl, by kernel_rfl, by kernel_rfl⟩

theorem slices_rotateLeft_rder_pair_int_pool_frame_callS {K : Value → World → Prop} {x0 : Value} {x1 : Value} {w : World} (h : slices_rotateLeft_rder_pair_int_pool_frame K [] x0 x1 w) : callS Pg F.slices_rotateLeft_rder_pair_int_pool_frame [x0, x1] K w :=
  call_of_W slices_rotateLeft_rder_pair_int_pool_frame_ok (Eq.mpr (congrFun (congrFun (slices_rotateLeft_rder_pair_int_pool_frame_eq K) ⟨argFr [x0, x1], []⟩) w) h)

theorem slices_rotateLeft_rder_pair_int_pool_frame_call {K : Value → World → Prop} {x0 : Value} {x1 : Value} {w : World} (h : slices_rotateLeft_rder_pair_int_pool_frame K [] x0 x1 w) : call Pg F.slices_rotateLeft_rder_pair_int_pool_frame [x0, x1] K w := .inl (slices_rotateLeft_rder_pair_int_pool_frame_callS h)

/-- slices.Reverse[[]concordance/order.pair[int, *concordance/pool.frame],concordance/order.pair[int, *concordance/pool.frame]] -/
noncomputable def slices_Reverse_rder_pair_int_pool_frame_body : Code := (Go.Proofs.Tryz.f120.body).getD .skip

def slices_Reverse_rder_pair_int_pool_frame_l1 (K : Value → World → Prop) (X1 : List Deferred × Value × Value × Value → World → Prop) (st : List Deferred × Value × Value × Value) (w : World) : Prop :=
  run Pg (binS .lss 3 false st.2.2.1 st.2.2.2) (fun t9_1 w =>
  cnd t9_1 (
  rn Pg (fun _ => True) (Instr.indexAt 78 st.2.1 st.2.2.2) (fun t20_2 w =>
  rn Pg (fun w' => w' = w) (Instr.loadAt 118 t20_2) (fun t21_3 w =>
  rn Pg (fun _ => True) (Instr.indexAt 78 st.2.1 st.2.2.1) (fun t24_4 w =>
  rn Pg (fun w' => w' = w) (Instr.loadAt 118 t24_4) (fun t25_5 w =>
  rn Pg (fun _ => True) (Instr.indexAt 78 st.2.1 st.2.2.1) (fun t26_6 w =>
  runU Pg (Instr.storeAt 118 t26_6 t21_3) (fun w =>
  (fun _ => True) w ∧ rn Pg (fun _ => True) (Instr.indexAt 78 st.2.1 st.2.2.2) (fun t27_7 w =>
  runU Pg (Instr.storeAt 118 t27_7 t25_5) (fun w =>
  (fun _ => True) w ∧ run Pg (binS .add 3 true st.2.2.1 (.int .i64 1)) (fun t11_8 w =>
  run Pg (binS .sub 3 true st.2.2.2 (.int .i64 1)) (fun t13_9 w =>
  X1 (st.1, st.2.1, t11_8, t13_9) w) w) w) w) w) w) w) w) w) w) w.drew) (
  leaveW Pg st.1 (fun w => K (.tuple #[]) w) w)) w

theorem slices_Reverse_rder_pair_int_pool_frame_l1_eq (K : Value → World → Prop) (X1 : List Deferred × Value × Value × Value → World → Prop) : W Pg (cB (cB (cR slices_Reverse_rder_pair_int_pool_frame_body))) false (thenP (fun s w => X1 (s.ds, s.f 0, s.f 2, s.f 3) w) (blockP 0 (retQ Pg [] K))) = (fun s w => slices_Reverse_rder_pair_int_pool_frame_l1 K X1 (s.ds, s.f 0, s.f 2, s.f 3) w) :=
  by kernel_rfl

theorem slices_Reverse_rder_pair_int_pool_frame_l1_mono (K : Value → World → Prop) : ∀ X Y : List Deferred × Value × Value × Value → World → Prop, (∀ t w, X t w → Y t w) → ∀ t w, slices_Reverse_rder_pair_int_pool_frame_l1 K X t w → slices_Reverse_rder_pair_int_pool_frame_l1 K Y t w :=
  loop_mono (fun s : St => ((s.ds, s.f 0, s.f 2, s.f 3) : List Deferred × Value × Value × Value)) (fun X1 => slices_Reverse_rder_pair_int_pool_frame_l1_eq K X1) (fun t => ⟨fun i => (bif Nat.beq i 0 then t.2.1 else (bif Nat.beq i 2 then t.2.2.1 else (bif Nat.beq i 3 then t.2.2.2 else undef))), t.1⟩) (fun _ => rfl)

def slices_Reverse_rder_pair_int_pool_frame (K : Value → World → Prop) (ds : List Deferred) (x0 : Value) (w : World) : Prop :=
  run Pg (Builtin.len_ #[78] 3 #[x0]) (fun t5_10 w =>
  run Pg (binS .sub 3 true t5_10 (.int .i64 1)) (fun t6_11 w =>
  Lp (slices_Reverse_rder_pair_int_pool_frame_l1 K) (ds, x0, (.int .i64 0), t6_11) w) w) w

theorem slices_Reverse_rder_pair_int_pool_frame_eq (K : Value → World → Prop) : W Pg slices_Reverse_rder_pair_int_pool_frame_body false (retQ Pg [] K) = (fun s w => slices_Reverse_rder_pair_int_pool_frame K s.ds (s.f 0) w) :=
  Eq.trans (eqSeq (eqBlock (eqLoop (rd := false) (fun s : St => ((s.ds, s.f 0, s.f 2, s.f 3) : List Deferred × Value × Value × Value)) (fun X1 => slices_Reverse_rder_pair_int_pool_frame_l1_eq K X1)))) (by kernel_rfl)

theorem slices_Reverse_rder_pair_int_pool_frame_ok : FnOk Pg F.slices_Reverse_rder_pair_int_pool_frame Go.Proofs.Tryz.f120 slices_Reverse_rder_pair_int_pool_frame_body 1 := ⟨Go.Proofs.Tryz.func120, by kernel_rfl, by kernel_rfl, by kernel_rfl, by kernel_rfl, by kernel_rfl⟩

theorem slices_Reverse_rder_pair_int_pool_frame_callS {K : Value → World → Prop} {x0 : Value} {w : World} (h : slices_Reverse_rder_pair_int_pool_frame K [] x0 w) : callS Pg F.slices_Reverse_rder_pair_int_pool_frame [x0] K w :=
  call_of_W slices_Reverse_rder_pair_int_pool_frame_ok (Eq.mpr (congrFun (congrFun (slices_Reverse_rder_pair_int_pool_frame_eq K) ⟨argFr [x0], []⟩) w) h)

theorem slices_Reverse_rder_pair_int_pool_frame_call {K : Value → World → Prop} {x0 : Value} {w : World} (h : slices_Reverse_rder_pair_int_pool_frame K [] x0 w) : call Pg F.slices_Reverse_rder_pair_int_pool_frame [x0] K w := .inl (slices_Reverse_rder_pair_int_pool_frame_callS h)

end Go.Sx
end

section
/- Maps in order. -/
set_option linter.unusedVariables false
set_option linter.unusedSimpArgs false
set_option maxRecDepth 100000
namespace Go.Sx
open Go Go.RowKit
variable {K : Value → World → Prop} {w : World}

def pcells (l : List (Int × Value)) : List Value := l.flatMap fun x => [int x.1, x.2]
theorem pcells_len (l : List (Int × Value)) : (pcells l).length = l.length * 2 := by
  induction l with
  | nil => rfl
  | cons x l ih => simp only [pcells, List.flatMap_cons, List.length_append, List.length_cons, List.length_nil] at ih ⊢; omega
theorem pcells_get (l : List (Int × Value)) (i : Nat) (h : i < l.length) : (pcells l)[i * 2]? = some (int (l[i]).1) ∧ (pcells l)[i * 2 + 1]? = some (l[i]).2 := by
  induction l generalizing i with
  | nil => simp at h
  | cons x l ih =>
    cases i with
    | zero => simp [pcells]
    | succ i =>
      have := ih i (by simpa using h)
      simp only [pcells, List.flatMap_cons] at this ⊢
      have e1 : (i + 1) * 2 = i * 2 + 1 + 1 := by omega
      rw [e1]
      simpa using this
theorem pown_cell {e n : Nat} {v : Value} {l : List (Int × Value)} (h : Own w e 2 v n (pcells l)) (hn : n = l.length) {i : Nat} (hi : i < l.length) :
    ∃ g cap rest, v = .slice (some ⟨g, 0, none⟩) n cap ∧ w.heap[g]? = some (.cells (pcells l ++ rest).toArray e (0, 0)) ∧ ((pcells l ++ rest).drop (i * 2)).take 2 = [int (l[i]).1, (l[i]).2] ∧ i * 2 + 2 ≤ (pcells l ++ rest).length ∧
      (pcells l ++ rest)[i * 2 + 1]? = some (l[i]).2 := by
  obtain ⟨h0, ⟨_, h⟩ | ⟨g, cap, rest, h1, h2, h3, h4, h5⟩⟩ := h
  · omega
  · obtain ⟨e1, e2⟩ := pcells_get l i hi
    have hl := pcells_len l
    refine ⟨g, cap, rest, h1, h2, ?_, ?_, ?_⟩
    · apply List.ext_getElem?
      intro j
      rw [List.getElem?_take, List.getElem?_drop]
      match j with
      | 0 => simp only [Nat.add_zero]; rw [if_pos (by omega), List.getElem?_append_left (by omega), e1]; rfl
      | 1 => rw [if_pos (by omega), List.getElem?_append_left (by omega), e2]; rfl
      | j + 2 => rw [if_neg (by omega)]; rfl
    · rw [List.length_append, pcells_len]; omega
    · rw [List.getElem?_append_left (by omega), e2]

theorem Own.shape {e size n : Nat} {v : Value} {xs : List Value} (h : Own w e size v n xs) : ∃ a cap, v = .slice a n cap := by
  obtain ⟨_, ⟨rfl, h⟩ | ⟨g, cap, rest, h1, _⟩⟩ := h
  · exact ⟨none, 0, by rw [h]⟩
  · exact ⟨_, _, h1⟩

def Sorted (l : List (Int × Value)) : Prop := ∀ i j, (hi : i < j) → (hj : j < l.length) → (l[i]).1 < (l[j]).1

theorem cmp_c {x y : Int} (k : ∀ z, (z < 0 ↔ x < y) → (z = 0 ↔ x = y) → K (int z) w) : call Pg F.cmp_Compare_int [int x, int y] K w := by
  refine call_of_calls (c := (Go.Proofs.Tryz.f80.body).getD .skip) Go.Proofs.Tryz.func80 (by kernel_rfl) (by kernel_rfl) (Go.Proofs.Tryz.cmp_Compare_int x y w) ?_
  rintro e w' ⟨rfl, rfl⟩
  refine ⟨_, rfl, k _ ?_ ?_⟩
  · unfold Lib.compareInt
    split
    · simp_all
    · split
      · simp; omega
      · simp; omega
  · unfold Lib.compareInt
    split
    · simp; omega
    · split
      · simp; omega
      · simp; omega

theorem keycmp_c {x key : Int} {v : Value} (hv : v.oneCell' = true) (k : ∀ z w', Qt w w' → (z < 0 ↔ x < key) → (z = 0 ↔ x = key) → K (int z) w') : call Pg F.order_Map_int_pool_frame_find_c1 [.agg [int x, v].toArray, int key] K w := by
  refine order_Map_int_pool_frame_find_c1_call ?_
  unfold order_Map_int_pool_frame_find_c1
  refine run_i s_box ?_
  refine run_i s_field ?_
  refine run_i (s_load (cellAt_l hp_alloc_new rfl)) ?_
  refine cmp_c (fun z h1 h2 => ?_)
  refine lv_i ?_
  exact k z _ ((Frm.refl w).alloc _) h1 h2

theorem dec_ex {l : List (Int × Value)} {key : Int} {i : Nat} (hi : i < l.length) : decide (∃ h : i < l.length, (l[i]).1 = key) = decide ((l[i]).1 = key) := by
  apply decide_eq_decide.2
  exact ⟨fun ⟨_, h⟩ => h, fun h => ⟨hi, h⟩⟩

theorem bs_c {sv : Value} {l : List (Int × Value)} {key : Int} (h : Own w T.order_pair_int_pool_frame 2 sv l.length (pcells l)) (hs : Sorted l) (h1 : ∀ x ∈ l, x.2.oneCell' = true) (hl : l.length ≤ 1000000)
    (k : ∀ w' (i : Nat), Qt w w' → i ≤ l.length → (∀ j, j < i → (hj : j < l.length) → (l[j]).1 < key) → (∀ j, i ≤ j → (hj : j < l.length) → key ≤ (l[j]).1) → K (.tuple #[int i, .bool (decide (∃ h : i < l.length, (l[i]).1 = key))]) w') :
    call Pg F.slices_BinarySearchFunc_pair_int_pool_frame_int [sv, int key, .func (.func F.order_Map_int_pool_frame_find_c1) #[] #[]] K w := by
  obtain ⟨sa, sc, rfl⟩ := h.shape
  refine slices_BinarySearchFunc_pair_int_pool_frame_int_call ?_
  unfold slices_BinarySearchFunc_pair_int_pool_frame_int
  refine run_i s_len_sl ?_
  refine Lp_inv (slices_BinarySearchFunc_pair_int_pool_frame_int_l3_mono K) (fun st w' => Qt w w' ∧ ∃ i j : Nat, i ≤ j ∧ j ≤ l.length ∧ st = ([], .slice sa l.length sc, int key, .func (.func F.order_Map_int_pool_frame_find_c1) #[] #[], int l.length, int i, int j) ∧
      (∀ q, q < i → (hq : q < l.length) → (l[q]).1 < key) ∧ (∀ q, j ≤ q → (hq : q < l.length) → key ≤ (l[q]).1))
    (fun st _ => match st.2.2.2.2.2.1, st.2.2.2.2.2.2 with | .int _ i, .int _ j => (j - i).toNat | _, _ => 0) ⟨.refl w, 0, l.length, by omega, by omega, rfl, fun q hq _ => by omega, fun q hq _ => by omega⟩ ?_
  rintro st w1 ⟨q1, i, j, hij, hj, rfl, hlo, hhi⟩
  unfold slices_BinarySearchFunc_pair_int_pool_frame_int_l3
  have hO := h.qt q1
  refine run_i (p_lss _) ?_
  refine cnd_dec (fun hc => ?_) (fun hc => ?_)
  · obtain ⟨m, hm⟩ : ∃ m, m = (i + j) / 2 := ⟨_, rfl⟩
    have hm1 : i ≤ m := by omega
    have hm2 : m < j := by omega
    have hml : m < l.length := by omega
    refine run_i (p_add _) ?_
    refine run_i s_conv ?_
    refine run_i (p_shr (by omega) _) ?_
    refine run_i s_conv ?_
    have e1 : IntKind.i64.wrap ((i : Int) + j) = (i : Int) + j := w64 (by omega) (by omega)
    have e2 : IntKind.u64.wrap ((i : Int) + j) = (i : Int) + j := by
      unfold IntKind.wrap; simp [IntKind.bits, IntKind.signed]; omega
    have e3 : ((i : Int) + j).fdiv (2 ^ (min (Int.toNat 1) IntKind.u64.bits)) = (m : Int) := by
      have : (2 : Int) ^ (min (Int.toNat 1) IntKind.u64.bits) = 2 := by decide
      rw [this, Int.fdiv_eq_ediv_of_nonneg _ (by omega)]
      omega
    have e4 : IntKind.i64.wrap (m : Int) = m := w64 (by omega) (by omega)
    simp only [e1, e2, e3, e4]
    obtain ⟨g, cap, rest, ev, hg, hc2, hle, _⟩ := pown_cell hO rfl hml
    cases ev
    refine run_i (s_index (by omega) (by omega)) ?_
    refine run_i (s_loadA hg (by simp only [Int.toNat_natCast, Nat.zero_add]; exact hle)) ?_
    simp only [Int.toNat_natCast, Nat.zero_add, hc2]
    refine keycmp_c (h1 _ (List.getElem_mem hml)) (fun z w2 q2 hz1 hz2 => ?_)
    refine run_i (p_lss _) ?_
    refine cnd_dec (fun hz => ?_) (fun hz => ?_)
    · refine run_i (p_add _) ?_
      have e5 : IntKind.i64.wrap ((m : Int) + 1) = ((m + 1 : Nat) : Int) := by rw [w64 (by omega) (by omega)]; omega
      rw [e5]
      refine ⟨⟨q1.trans q2, m + 1, j, by omega, hj, rfl, ?_, hhi⟩, ?_⟩
      · intro q hq hq'
        by_cases e : q = m
        · subst e; exact hz1.1 hz
        · have a1 := hs q m (by omega) hml
          have a2 := hz1.1 hz
          omega
      · first | omega | (simp only; omega)
    · refine ⟨⟨q1.trans q2, i, m, by omega, by omega, rfl, hlo, ?_⟩, ?_⟩
      · intro q hq hq'
        have a2 : ¬ (l[m]).1 < key := fun h => hz (hz1.2 h)
        by_cases e : q = m
        · subst e; omega
        · have a1 := hs m q (by omega) hq'
          omega
      · first | omega | (simp only; omega)
  · have : i = j := by omega
    subst this
    unfold slices_BinarySearchFunc_pair_int_pool_frame_int_j1
    refine run_i (p_lss _) ?_
    by_cases hil : i < l.length
    · have e1 : decide ((i : Int) < (l.length : Int)) = true := decide_eq_true (by omega)
      simp only [e1]
      refine gc_tti ?_
      obtain ⟨g, cap, rest, ev, hg, hc2, hle, _⟩ := pown_cell hO rfl hil
      cases ev
      refine run_i (s_index (by omega) (by omega)) ?_
      refine run_i (s_loadA hg (by simp only [Int.toNat_natCast, Nat.zero_add]; exact hle)) ?_
      simp only [Int.toNat_natCast, Nat.zero_add, hc2]
      refine keycmp_c (h1 _ (List.getElem_mem hil)) (fun z w2 q2 hz1 hz2 => ?_)
      refine run_i (p_eql _) ?_
      unfold slices_BinarySearchFunc_pair_int_pool_frame_int_g2
      refine pk_ti ?_
      refine lv_i ?_
      have e2 : decide (z = 0) = decide (∃ h : i < l.length, (l[i]).1 = key) := by
        rw [dec_ex hil]
        exact decide_eq_decide.2 hz2
      rw [e2]
      exact k _ i (q1.trans q2) hj hlo hhi
    · have e1 : decide ((i : Int) < (l.length : Int)) = false := decide_eq_false (by omega)
      simp only [e1]
      unfold slices_BinarySearchFunc_pair_int_pool_frame_int_g2
      refine gc_fti ?_
      refine pk_fi ?_
      refine lv_i ?_
      have e2 : decide (∃ h : i < l.length, (l[i]).1 = key) = false := decide_eq_false (fun ⟨h, _⟩ => hil h)
      have := k _ i q1 hj hlo hhi
      rw [e2] at this
      exact this

/-- A map in order, in a cell of a struct. -/
structure IsMap (w : World) (b o : Nat) (sv : Value) (l : List (Int × Value)) : Prop where
  at_ : ∃ c T, w.heap[b]? = some (.cells (List.toArray c) T (0, 0)) ∧ c[o]? = some sv
  own : Own w T.order_pair_int_pool_frame 2 sv l.length (pcells l)
  sorted : Sorted l
  one : ∀ x ∈ l, x.2.oneCell' = true
  few : l.length ≤ 1000000

theorem find_c {b o : Nat} {sv : Value} {l : List (Int × Value)} {key : Int} (h : IsMap w b o sv l)
    (k : ∀ w' (i : Nat), Qt w w' → i ≤ l.length → (∀ j, j < i → (hj : j < l.length) → (l[j]).1 < key) → (∀ j, i ≤ j → (hj : j < l.length) → key ≤ (l[j]).1) → K (.tuple #[int i, .bool (decide (∃ h : i < l.length, (l[i]).1 = key))]) w') :
    call Pg F.order_Map_int_pool_frame_find [.pointer (some ⟨b, o, none⟩), int key] K w := by
  obtain ⟨c, T, hb, hc⟩ := h.at_
  refine order_Map_int_pool_frame_find_call ?_
  unfold order_Map_int_pool_frame_find
  refine run_i (p_nil _) ?_
  refine run_i s_field ?_
  refine run_i (s_load (cellAt_l hb (by simpa using hc))) ?_
  refine bs_c h.own h.sorted h.one h.few (fun w' i q h1 h2 h3 => ?_)
  refine run_i (s_extract rfl) ?_
  refine run_i (s_extract rfl) ?_
  refine lv_i ?_
  exact k w' i q h1 h2 h3

theorem Len_c {b o : Nat} {sv : Value} {l : List (Int × Value)} (h : IsMap w b o sv l) (k : K (int l.length) w) : call Pg F.order_Map_int_pool_frame_Len [.pointer (some ⟨b, o, none⟩)] K w := by
  obtain ⟨c, T, hb, hc⟩ := h.at_
  obtain ⟨a, cap, rfl⟩ := h.own.shape
  refine order_Map_int_pool_frame_Len_call ?_
  unfold order_Map_int_pool_frame_Len
  refine run_i (p_nil _) ?_
  refine run_i s_field ?_
  refine run_i (s_load (cellAt_l hb (by simpa using hc))) ?_
  refine run_i s_len_sl ?_
  refine lv_i ?_
  exact k

def mget' (l : List (Int × Value)) (key : Int) : Option Value := (l.find? fun x => decide (x.1 = key)).map Prod.snd

theorem find_before {l : List (Int × Value)} {key : Int} {i : Nat} (hlo : ∀ j, j < i → (hj : j < l.length) → (l[j]).1 < key) (hi : i < l.length) (he : (l[i]).1 = key) : mget' l key = some (l[i]).2 := by
  unfold mget'
  have e : l = l.take i ++ l[i] :: l.drop (i + 1) := by simp
  have e2 : (l.take i).find? (fun x => decide (x.1 = key)) = none := by
    rw [List.find?_eq_none]
    intro x hx
    obtain ⟨j, hj, rfl⟩ := List.mem_iff_getElem.1 hx
    rw [List.length_take] at hj
    have := hlo j (by omega) (by omega)
    rw [List.getElem_take]
    simp; omega
  have : l.find? (fun x => decide (x.1 = key)) = some l[i] := by
    conv => lhs; rw [e]
    rw [List.find?_append, e2, List.find?_cons]
    simp only [he, decide_true, Option.none_or]
  rw [this]; rfl

theorem find_not {l : List (Int × Value)} {key : Int} {i : Nat} (hlo : ∀ j, j < i → (hj : j < l.length) → (l[j]).1 < key) (hhi : ∀ j, i ≤ j → (hj : j < l.length) → key ≤ (l[j]).1) (hs : Sorted l) (he : ¬ ∃ h : i < l.length, (l[i]).1 = key) : mget' l key = none := by
  unfold mget'
  have : l.find? (fun x => decide (x.1 = key)) = none := by
    rw [List.find?_eq_none]
    intro x hx
    obtain ⟨j, hj, rfl⟩ := List.mem_iff_getElem.1 hx
    simp only [decide_eq_true_eq]
    intro h
    rcases Nat.lt_trichotomy j i with h' | h' | h'
    · have := hlo j h' hj; omega
    · subst h'; exact he ⟨hj, h⟩
    · have h2 := hs i j h' hj
      have := hhi i (by omega) (by omega)
      omega
  rw [this]; rfl

theorem Get_c {b o : Nat} {sv : Value} {l : List (Int × Value)} {key : Int} (h : IsMap w b o sv l)
    (k : ∀ w', Qt w w' → K (.tuple #[(mget' l key).getD (.pointer none), .bool (mget' l key).isSome]) w') :
    call Pg F.order_Map_int_pool_frame_Get [.pointer (some ⟨b, o, none⟩), int key] K w := by
  refine order_Map_int_pool_frame_Get_call ?_
  unfold order_Map_int_pool_frame_Get
  refine find_c h (fun w' i q h1 h2 h3 => ?_)
  have := k w' q
  refine run_i (s_extract rfl) ?_
  refine run_i (s_extract rfl) ?_
  refine cnd_dec (fun he => ?_) (fun he => ?_)
  · obtain ⟨hi, he⟩ := he
    rw [find_before h2 hi he] at this
    obtain ⟨c, T, hb, hc⟩ := h.at_
    have hb' := q.all hb
    refine run_i (p_nil _) ?_
    refine run_i s_field ?_
    refine run_i (s_load (cellAt_l hb' (by simpa using hc))) ?_
    obtain ⟨g, cap, rest, ev, hg, hc2, hle, hv⟩ := pown_cell (h.own.qt q) rfl hi
    subst ev
    refine run_i (s_index (by omega) (by omega)) ?_
    refine run_i s_field ?_
    refine run_i (s_load (cellAt_l hg (by simpa using hv))) ?_
    refine lv_i ?_
    exact this
  · rw [find_not h2 h3 h.sorted he] at this
    refine lv_i ?_
    exact this
end Go.Sx
end

section
/- Maps in order, second part: what changes them. -/
set_option linter.unusedVariables false
set_option linter.unusedSimpArgs false
set_option maxRecDepth 100000
namespace Go.Sx
open Go Go.RowKit
variable {K : Value → World → Prop} {w : World}

theorem upd'_take {l vs : List Value} {o : Nat} (h : o ≤ l.length) : (upd' l o vs).take o = l.take o := by
  unfold upd'
  rw [List.append_assoc, List.take_append_of_le_length (by simp; omega), List.take_take, Nat.min_self]
theorem upd'_take2 {l vs : List Value} {o : Nat} (h : o ≤ l.length) : (upd' l o vs).take (o + vs.length) = l.take o ++ vs := by
  unfold upd'
  have e : (l.take o ++ vs).length = o + vs.length := by simp; omega
  rw [← e, List.take_left]

theorem pcells_app (a b : List (Int × Value)) : pcells (a ++ b) = pcells a ++ pcells b := by simp [pcells]
theorem pcells_take (l : List (Int × Value)) (i : Nat) (h : i ≤ l.length) : pcells (l.take i) = (pcells l).take (i * 2) := by
  have e : pcells l = pcells (l.take i) ++ pcells (l.drop i) := by rw [← pcells_app, List.take_append_drop]
  have e2 : (pcells (l.take i)).length = i * 2 := by rw [pcells_len, List.length_take]; congr 1; omega
  rw [e, ← e2, List.take_left]
theorem pcells_drop (l : List (Int × Value)) (i : Nat) (h : i ≤ l.length) : pcells (l.drop i) = (pcells l).drop (i * 2) := by
  have e : pcells l = pcells (l.take i) ++ pcells (l.drop i) := by rw [← pcells_app, List.take_append_drop]
  have e2 : (pcells (l.take i)).length = i * 2 := by rw [pcells_len, List.length_take]; congr 1; omega
  rw [e, ← e2, List.drop_left]
theorem pcells_one {l : List (Int × Value)} (h : ∀ x ∈ l, x.2.oneCell' = true) : ∀ v ∈ pcells l, v.oneCell' = true := by
  intro v hv
  simp only [pcells, List.mem_flatMap] at hv
  obtain ⟨x, hx, hv⟩ := hv
  simp at hv
  rcases hv with rfl | rfl
  · rfl
  · exact h x hx

/-- only v's own row may be other. -/
def rowA (v : Value) (k : Nat) (_ : Obj) : Prop := v.ownBlock = some k

theorem zero_pair : (Builtin.zeroCells (Value.agg #[.int .i64 0, .pointer none]).cells 1).toList = [.int .i64 0, .pointer none] := by kernel_rfl

theorem PDelete_c {sv : Value} {l : List (Int × Value)} {i : Nat} (h : Own w T.order_pair_int_pool_frame 2 sv l.length (pcells l)) (hi : i < l.length) (h1 : ∀ x ∈ l, x.2.oneCell' = true) (hf : l.length ≤ 1000000)
    (k : ∀ v' w', Own w' T.order_pair_int_pool_frame 2 v' (l.length - 1) (pcells (l.eraseIdx i)) → Frm (rowA sv) w w' → v'.ownBlock = sv.ownBlock → K v' w') :
    call Pg F.slices_Delete_rder_pair_int_pool_frame [sv, int i, int ((i + 1 : Nat) : Int)] K w := by
  obtain ⟨g, cap, rest, rfl, hg, hc1, hc2, hlen⟩ := h.parts (by omega)
  have lg := lt_of hg
  have hpl := pcells_len l
  have hlen' : (pcells l).length + rest.length = cap * 2 := by rw [← List.length_append]; exact hlen
  refine slices_Delete_rder_pair_int_pool_frame_call ?_
  unfold slices_Delete_rder_pair_int_pool_frame
  refine run_i s_len_sl ?_
  refine run_i (p_sl_lhm (SliceC.get) (by omega) (by omega) (by omega) (by omega) _) ?_
  refine run_i (p_eql _) ?_
  have e1 : decide ((i : Int) = ((i + 1 : Nat) : Int)) = false := decide_eq_false (by omega)
  simp only [e1]
  refine cn_fi ?_
  refine run_i s_len_sl ?_
  refine rnT_i (fun w => p_sl_h (SliceC.get) (by omega) (by omega) w) ?_
  refine rnT_i (fun w => p_sl_l (SliceC.get) (by omega) (by omega) w) ?_
  simp only [Int.toNat_natCast]
  rw [sliced_at (show 0 < cap by omega)]
  simp only [Nat.zero_mul, Nat.zero_add, Nat.sub_zero, Nat.add_zero]
  obtain ⟨news, hnews⟩ : ∃ news, news = pcells (l.drop (i + 1)) := ⟨_, rfl⟩
  have hnl : news.length = (l.length - (i + 1)) * 2 := by rw [hnews, pcells_len, List.length_drop]
  have hno : ∀ u ∈ news, u.oneCell' = true := by
    rw [hnews]; exact pcells_one (fun x hx => h1 x (List.mem_of_mem_drop hx))
  have hsrc : ∃ o c, sliced (some ⟨g, 0, none⟩) (i + 1) l.length cap 2 = .slice (some ⟨g, o, none⟩) (l.length - (i + 1)) c ∧ CellsAt w.drew g o news := by
    by_cases hcap : i + 1 = cap
    · refine ⟨0, 0, ?_, _, _, _, hg, ?_⟩
      · rw [← hcap, sliced_end]
      · have : news = [] := List.eq_nil_of_length_eq_zero (by omega)
        rw [this]; rfl
    · refine ⟨_, _, sliced_at (by omega), _, _, _, hg, ?_⟩
      rw [hnews, pcells_drop _ _ (by omega), List.length_drop, List.drop_append_of_le_length (by omega), List.take_append_of_le_length (by rw [List.length_drop]; omega), List.take_of_length_le (by rw [List.length_drop]; omega), Nat.zero_add]
  obtain ⟨o, c, es, hca⟩ := hsrc
  rw [es]
  refine run_i (r_appendR (w := w.drew) hg hca hnl hno (by omega) (by rw [hnl]; omega)) ?_
  refine ⟨trivial, ?_⟩
  have hu1 : (upd' (pcells l ++ rest) (i * 2) news).length = cap * 2 := by rw [upd'_len (by omega)]; omega
  refine run_i s_len_sl ?_
  have e2 : i + (l.length - (i + 1)) = l.length - 1 := by omega
  rw [e2]
  refine run_i (p_sl_lh (SliceC.get) (by omega) (by omega) (by omega) _) ?_
  simp only [Int.toNat_natCast]
  rw [sliced_at (show l.length - 1 < cap by omega)]
  have e3 : l.length - (l.length - 1) = 1 := by omega
  rw [e3]
  refine run_i (r_clear (hp_put_same lg) (by omega) (by rw [zero_pair]; decide) (by rw [hu1]; omega)) ?_
  rw [zero_pair]
  refine lv_i ?_
  refine k _ _ (Own.mk' (hp_put_same (by rw [sz_put]; exact lg)) ?_ (by omega) hc2 ?_) ?_ rfl
  · rw [Nat.zero_add, upd'_take (by rw [hu1]; omega)]
    have e4 : (l.length - 1) * 2 = i * 2 + news.length := by omega
    rw [e4, upd'_take2 (by omega), List.take_append_of_le_length (by omega), hnews, ← pcells_take _ _ (by omega), ← pcells_app, List.eraseIdx_eq_take_drop_succ]
  · rw [upd'_len, hu1]
    rw [hu1]
    show 0 + (l.length - 1) * 2 + 2 ≤ cap * 2
    omega
  · exact ((((Frm.refl w).drew).put_may _ (fun _ _ => rfl)).put_may _ (fun _ _ => rfl))
end Go.Sx
end

section
/- Maps in order, third part: what is inserted. -/
set_option linter.unusedVariables false
set_option linter.unusedSimpArgs false
set_option maxRecDepth 100000
namespace Go.Sx
open Go Go.RowKit
variable {K : Value → World → Prop} {w : World}

theorem overlaps_c {vb g la ca o lb cb : Nat} {cv cg : List Value} (hne : vb ≠ g) (hv : w.heap[vb]? = some (.cells cv.toArray T.order_pair_int_pool_frame (0, 0))) (hg : w.heap[g]? = some (.cells cg.toArray T.order_pair_int_pool_frame (0, 0))) (h0 : cg.length ≠ 0)
    (k : K (.bool false) w) : call Pg F.slices_overlaps_rder_pair_int_pool_frame [.slice (some ⟨vb, 0, none⟩) la ca, .slice (some ⟨g, o, none⟩) lb cb] K w := by
  right
  unfold exec
  rw [run_callFunc_extern Go.Proofs.Tryz.func85 (by kernel_rfl) (by kernel_rfl) (by kernel_rfl) (e := Extern.SlicesOverlaps.overlaps #[T.s_order_pair_int_pool_frame, T.s_order_pair_int_pool_frame] #[T.bool]) (by kernel_rfl)]
  rw [Lib.run_overlaps_apart w T.s_order_pair_int_pool_frame T.bool T.order_pair_int_pool_frame (by kernel_rfl) 2 (fun _ => by kernel_rfl) ⟨vb, 0, none⟩ ⟨g, o, none⟩ la ca lb cb hne T.order_pair_int_pool_frame T.order_pair_int_pool_frame cv.length cg.length
    (by simp [World.shape?, hv]) (by simp [World.shape?, hg]) h0 (by simp [World.frozen?, hv]) (by simp [World.frozen?, hv])]
  exact k

/-- an element at a place. -/
def ins {α : Type} (l : List α) (i : Nat) (x : α) : List α := l.take i ++ x :: l.drop i

theorem pcells_ins (l : List (Int × Value)) (i : Nat) (x : Int × Value) (h : i ≤ l.length) : pcells (ins l i x) = (pcells l).take (i * 2) ++ [int x.1, x.2] ++ (pcells l).drop (i * 2) := by
  unfold ins
  rw [pcells_app, pcells_take _ _ h, ← pcells_drop _ _ h]
  simp [pcells]

theorem PInsert_c {sv : Value} {l : List (Int × Value)} {i vb : Nat} {x : Int × Value} (h : Own w T.order_pair_int_pool_frame 2 sv l.length (pcells l)) (hi : i ≤ l.length) (h1 : ∀ x ∈ l, x.2.oneCell' = true) (hf : l.length ≤ 1000000)
    (hx : x.2.oneCell' = true) (hv : w.heap[vb]? = some (.cells [int x.1, x.2].toArray T.order_pair_int_pool_frame (0, 0))) (hne : sv.ownBlock ≠ some vb)
    (k : ∀ v' w', Own w' T.order_pair_int_pool_frame 2 v' (l.length + 1) (pcells (ins l i x)) → Frm (rowA sv) w w' → (v'.ownBlock = sv.ownBlock ∨ ∃ b, v'.ownBlock = some b ∧ w.heap.size ≤ b) → K v' w') :
    call Pg F.slices_Insert_rder_pair_int_pool_frame [sv, int i, .slice (some ⟨vb, 0, none⟩) 1 1] K w := by
  obtain ⟨sa, sc, rfl⟩ := h.shape
  have hpl := pcells_len l
  have hpi := pcells_ins l i x hi
  have hvl : CellsAt w vb 0 [int x.1, x.2] := ⟨_, _, _, hv, rfl⟩
  have hone : ∀ u ∈ [int x.1, x.2], u.oneCell' = true := by
    intro u hu; simp at hu; rcases hu with rfl | rfl
    · rfl
    · exact hx
  refine slices_Insert_rder_pair_int_pool_frame_call ?_
  unfold slices_Insert_rder_pair_int_pool_frame
  refine run_i (p_sl_l (SliceC.get) (by omega) (by omega) _) ?_
  refine run_i s_len_sl ?_
  refine run_i (p_eql _) ?_
  refine cn_fi ?_
  refine run_i s_len_sl ?_
  refine run_i (p_eql _) ?_
  refine cnd_dec (fun he => ?_) (fun he => ?_)
  · -- at the end
    have hil : i = l.length := by omega
    refine r_append (SliceC.get).und (ElC.get) (by decide) h (m := 1) (news := [int x.1, x.2]) rfl hvl.cell hone (by simp [maxLen]; omega) (by omega) (fun v' w' ho hgr _ hb => ?_)
    refine lv_i ?_
    refine k v' w' ?_ (.of_grown hgr (fun g o hg _ => hg)) ?_
    · rw [hpi, hil, List.take_of_length_le (by omega), List.drop_eq_nil_of_le (by omega), List.append_nil]
      exact ho
    · rcases hb with hb | hb
      · exact .inl hb
      · exact .inr ⟨_, hb, Nat.le_refl _⟩
  · have hil : i < l.length := by omega
    obtain ⟨g, cap, rest, hsv, hg, hc1, hc2, hlen⟩ := h.parts (by omega)
    cases hsv
    have lg := lt_of hg
    have lv := lt_of hv
    have hgv : g ≠ vb := fun e => hne (by rw [e]; rfl)
    have hlen' : (pcells l).length + rest.length = sc * 2 := by rw [← List.length_append]; exact hlen
    have ew : IntKind.i64.wrap ((l.length : Int) + ((1 : Nat) : Int)) = ((l.length + 1 : Nat) : Int) := by rw [w64 (by omega) (by omega)]; omega
    have ei : IntKind.i64.wrap ((i : Int) + ((1 : Nat) : Int)) = ((i + 1 : Nat) : Int) := by rw [w64 (by omega) (by omega)]; omega
    obtain ⟨tl, htl⟩ : ∃ tl, tl = (pcells l).drop (i * 2) := ⟨_, rfl⟩
    have htll : tl.length = (l.length - i) * 2 := by rw [htl, List.length_drop]; omega
    have htlo : ∀ u ∈ tl, u.oneCell' = true := by rw [htl]; intro u hu; exact pcells_one h1 u (List.mem_of_mem_drop hu)
    refine run_i (p_add _) ?_
    refine run_i s_cap_sl ?_
    refine run_i (p_gtr _) ?_
    simp only [ew]
    refine cnd_dec (fun hc => ?_) (fun hc => ?_)
    · -- a greater row
      have hcap : sc < l.length + 1 := by omega
      have ew2 : IntKind.i64.wrap (((l.length + 1 : Nat) : Int) - i) = ((l.length + 1 - i : Nat) : Int) := by rw [w64 (by omega) (by omega)]; omega
      refine run_i (p_sl_h (SliceC.get) (by omega) (by omega) _) ?_
      refine run_i (p_add _) ?_
      refine run_i (p_sub _) ?_
      simp only [ew, ew2, Int.toNat_natCast]
      rw [sliced_at (show 0 < sc by omega)]
      simp only [Nat.zero_mul, Nat.zero_add, Nat.sub_zero, Nat.add_zero]
      obtain ⟨cap', L, hr, hL1, hL2, hL3, hL4⟩ := r_appendMake (P := Pg) (w := w) (t := T.s_order_pair_int_pool_frame) (it := T.i64_2) (ty := 78) (b := g) (o := 0) (sLen := i) (sCap := sc) (n := l.length + 1 - i) (olds := (pcells l).take (i * 2))
        ⟨_, _, _, hg, by rw [List.drop_zero, List.length_take, List.take_append_of_le_length (by omega)]; congr 1; omega⟩ (by rw [List.length_take]; omega) (by omega) (by omega) (by decide)
      refine run_i hr ?_
      have e4 : i + (l.length + 1 - i) = l.length + 1 := by omega
      rw [e4] at hL1 ⊢
      have hg' : (w.drew.alloc (.cells (List.toArray L) T.order_pair_int_pool_frame)).heap[g]? = some (.cells (pcells l ++ rest).toArray T.order_pair_int_pool_frame (0, 0)) := old hg
      have hv' : (w.drew.alloc (.cells (List.toArray L) T.order_pair_int_pool_frame)).heap[vb]? = some (.cells [int x.1, x.2].toArray T.order_pair_int_pool_frame (0, 0)) := old hv
      have hn' : (w.drew.alloc (.cells (List.toArray L) T.order_pair_int_pool_frame)).heap[w.heap.size]? = some (.cells (List.toArray L) T.order_pair_int_pool_frame (0, 0)) := hp_alloc_new
      refine run_i (p_sl_l (SliceC.get) (by omega) (by omega) _) ?_
      simp only [Int.toNat_natCast]
      rw [sliced_at (show i < cap' by omega)]
      refine run_i (r_copy (n := 1) (cs := [int x.1, x.2]) hn' (by omega) ⟨_, _, _, hv', rfl⟩ rfl hone (by rw [hL3]; show 0 + i * 2 + 2 ≤ _; omega)) ?_
      refine rnT_i (fun _ => (p_add _)) ?_
      simp only [ei]
      refine rnT_i (fun w => p_sl_l (SliceC.get) (by omega) (by omega) w) ?_
      refine rnT_i (fun w => p_sl_l (SliceC.get) (by omega) (by omega) w) ?_
      simp only [Int.toNat_natCast]
      rw [sliced_at (show i + 1 < cap' by omega), sliced_at (show i < sc by omega)]
      have hu1 : (upd' L (0 + i * 2) [int x.1, x.2]).length = cap' * 2 := by rw [upd'_len]; exact hL3; rw [hL3]; show 0 + i * 2 + 2 ≤ _; omega
      refine run_i (r_copy (n := l.length - i) (cs := tl) (drew_at (hp_put_same (lt_of hn'))) (by omega) ⟨_, _, _, (drew_at (put_other hg' (by omega))), ?_⟩ htll htlo (by rw [hu1, htll]; omega)) ?_
      · rw [htl, Nat.zero_add, List.length_drop, List.drop_append_of_le_length (by omega), List.take_append_of_le_length (by rw [List.length_drop]; omega), List.take_of_length_le (by rw [List.length_drop]; omega)]
      refine ⟨trivial, ?_⟩
      refine lv_i ?_
      refine k (.slice (some ⟨w.heap.size, 0, none⟩) (l.length + 1) cap') _ (Own.mk' (hp_put_same (by simp only [sz_put, sz_drew, sz_alloc]; omega)) ?_ (by omega) hL2 (by rw [upd'_len, hu1]; rw [hu1, htll]; omega)) ?_ (.inr ⟨_, rfl, Nat.le_refl _⟩)
      · have e5 : (l.length + 1) * 2 = (0 + (i + 1) * 2) + tl.length := by rw [htll]; omega
        rw [e5, upd'_take2 (by rw [hu1]; omega)]
        have e6 : 0 + (i + 1) * 2 = (0 + i * 2) + [int x.1, x.2].length := by show _ = 0 + i * 2 + 2; omega
        rw [e6, upd'_take2 (by rw [hL3]; omega), hpi, htl]
        congr 2
        rw [Nat.zero_add, hL4]
      · exact ((((Frm.refl w).drew.alloc _).put_new _ (Nat.le_refl _)).drew.put_new _ (Nat.le_refl _))
    · -- there is room
      have hcap : l.length + 1 ≤ sc := by omega
      refine run_i (p_add _) ?_
      simp only [ew, ei]
      refine run_i (p_sl_h (SliceC.get) (by omega) (by omega) _) ?_
      simp only [Int.toNat_natCast]
      rw [sliced_at (show 0 < sc by omega)]
      simp only [Nat.zero_mul, Nat.zero_add, Nat.sub_zero, Nat.add_zero]
      refine run_i (p_add _) ?_
      simp only [ei]
      refine run_i (p_sl_l (SliceC.get) (by omega) (by omega) _) ?_
      simp only [Int.toNat_natCast]
      have hs1 : ∃ o c, sliced (some ⟨g, 0, none⟩) (i + 1) (l.length + 1) sc 2 = .slice (some ⟨g, o, none⟩) (l.length + 1 - (i + 1)) c ∧ o = (i + 1) * 2 := by
        refine ⟨_, _, sliced_at (by omega), by omega⟩
      obtain ⟨o, c, es, ho⟩ := hs1
      rw [es]
      refine overlaps_c (fun e => hgv e.symm) hv hg (by omega) ?_
      refine run_i (p_not _) ?_
      refine cn_ti ?_
      refine rnT_i (fun _ => (p_add _)) ?_
      simp only [ei]
      refine rnT_i (fun w => p_sl_l (SliceC.get) (by omega) (by omega) w) ?_
      refine rnT_i (fun w => p_sl_l (SliceC.get) (by omega) (by omega) w) ?_
      simp only [Int.toNat_natCast]
      rw [es, sliced_at (show i < sc by omega), ho]
      refine run_i (r_copy (n := l.length - i) (cs := tl) (drew_at hg) (by omega) ⟨_, _, _, (drew_at hg), ?_⟩ htll htlo (by rw [hlen, htll]; omega)) ?_
      · rw [htl, Nat.zero_add, List.length_drop, List.drop_append_of_le_length (by omega), List.take_append_of_le_length (by rw [List.length_drop]; omega), List.take_of_length_le (by rw [List.length_drop]; omega)]
      refine ⟨trivial, ?_⟩
      have hu1 : (upd' (pcells l ++ rest) ((i + 1) * 2) tl).length = sc * 2 := by rw [upd'_len]; exact hlen; rw [hlen, htll]; omega
      refine run_i (p_sl_l (SliceC.get) (by omega) (by omega) _) ?_
      simp only [Int.toNat_natCast]
      rw [sliced_at (show i < sc by omega)]
      refine run_i (r_copy (n := 1) (cs := [int x.1, x.2]) (hp_put_same (w := w.drew) lg) (by omega) ⟨_, _, _, (put_other (drew_at hv) (fun e => hgv e.symm)), rfl⟩ rfl hone (by rw [hu1]; show 0 + i * 2 + 2 ≤ _; omega)) ?_
      refine lv_i ?_
      refine k (.slice (some ⟨g, 0, none⟩) (l.length + 1) sc) _ (Own.mk' (hp_put_same (by rw [sz_put]; exact lg)) ?_ hcap hc2 (by rw [upd'_len, hu1]; rw [hu1]; show 0 + i * 2 + 2 ≤ _; omega)) ?_ (.inl rfl)
      · apply List.ext_getElem?
        intro j
        have hU : (0 + i * 2) + [int x.1, x.2].length ≤ (upd' (pcells l ++ rest) ((i + 1) * 2) tl).length := by rw [hu1]; show 0 + i * 2 + 2 ≤ _; omega
        have hT : (i + 1) * 2 + tl.length ≤ (pcells l ++ rest).length := by rw [hlen, htll]; omega
        rw [List.getElem?_take, upd'_get hU, upd'_get hT, hpi, List.append_assoc]
        have e7 : ((pcells l).take (i * 2)).length = i * 2 := by rw [List.length_take]; omega
        have e8 : [int x.1, x.2].length = 2 := rfl
        by_cases j1 : j < i * 2
        · rw [if_pos (by omega), if_pos (by omega), if_pos (by omega), List.getElem?_append_left (by omega), List.getElem?_append_left (by omega), List.getElem?_take, if_pos j1]
        · by_cases j2 : j < i * 2 + 2
          · rw [if_pos (by omega), if_neg (by omega), if_pos (by rw [e8]; omega), List.getElem?_append_right (by omega), List.getElem?_append_left (by rw [e8]; omega), e7, Nat.zero_add]
          · by_cases j3 : j < (l.length + 1) * 2
            · rw [if_pos j3, if_neg (by omega), if_neg (by rw [e8]; omega), if_neg (by omega), if_pos (by rw [htll]; omega), List.getElem?_append_right (by omega), List.getElem?_append_right (by rw [e7, e8]; omega), e7, e8, ← htl]
              congr 1; omega
            · rw [if_neg j3]
              symm
              rw [List.getElem?_eq_none]
              rw [List.length_append, List.length_append, e7, e8, List.length_drop]; omega
      · exact ((((Frm.refl w).drew).put_may _ (fun _ _ => rfl)).put_may _ (fun _ _ => rfl))
end Go.Sx
end

section
/- Maps in order, fourth part: Set, Delete. -/
set_option linter.unusedVariables false
set_option linter.unusedSimpArgs false
set_option maxRecDepth 100000
namespace Go.Sx
open Go Go.RowKit
variable {K : Value → World → Prop} {w : World}

/-- A map in order, in cell o of the struct in block b, the struct's other cells known. -/
structure MapAt (w : World) (b o : Nat) (c : List Value) (Ty : TypeId) (sv : Value) (l : List (Int × Value)) : Prop where
  at_ : w.heap[b]? = some (.cells c.toArray Ty (0, 0))
  cell : c[o]? = some sv
  tag : Ty ≠ T.order_pair_int_pool_frame
  own : Own w T.order_pair_int_pool_frame 2 sv l.length (pcells l)
  sorted : Sorted l
  one : ∀ x ∈ l, x.2.oneCell' = true
  few : l.length ≤ 1000000

theorem MapAt.map {b o : Nat} {c : List Value} {Ty : TypeId} {sv : Value} {l : List (Int × Value)} (h : MapAt w b o c Ty sv l) : IsMap w b o sv l := ⟨⟨c, Ty, h.at_, h.cell⟩, h.own, h.sorted, h.one, h.few⟩
theorem MapAt.ne {b o : Nat} {c : List Value} {Ty : TypeId} {sv : Value} {l : List (Int × Value)} (h : MapAt w b o c Ty sv l) : sv.ownBlock ≠ some b := by
  intro e
  obtain ⟨l', hl⟩ := h.own.block e
  have h2 := h.at_
  rw [hl] at h2
  cases h2
  exact h.tag rfl
theorem MapAt.qt {w' : World} {b o : Nat} {c : List Value} {Ty : TypeId} {sv : Value} {l : List (Int × Value)} (h : MapAt w b o c Ty sv l) (q : Qt w w') : MapAt w' b o c Ty sv l :=
  ⟨q.all h.at_, h.cell, h.tag, h.own.qt q, h.sorted, h.one, h.few⟩

/-- what an act on such a map may turn: the struct, the row. -/
def omapA (b : Nat) (sv : Value) (k : Nat) (_ : Obj) : Prop := k = b ∨ sv.ownBlock = some k

/-- where a key stands. -/
structure Spot (l : List (Int × Value)) (key : Int) (i : Nat) : Prop where
  le : i ≤ l.length
  lo : ∀ j, j < i → (hj : j < l.length) → (l[j]).1 < key
  hi : ∀ j, i ≤ j → (hj : j < l.length) → key ≤ (l[j]).1

theorem ins_get {α : Type} (l : List α) (i : Nat) (x : α) (j : Nat) (h : i ≤ l.length) : (ins l i x)[j]? = if j < i then l[j]? else if j = i then some x else l[j - 1]? := by
  unfold ins
  have e0 : (l.take i).length = i := by rw [List.length_take]; omega
  by_cases h1 : j < i
  · rw [if_pos h1, List.getElem?_append_left (by omega), List.getElem?_take, if_pos h1]
  · rw [if_neg h1, List.getElem?_append_right (by omega), e0]
    by_cases h2 : j = i
    · rw [if_pos h2]; subst h2; simp
    · rw [if_neg h2]
      obtain ⟨d, rfl⟩ : ∃ d, j = i + 1 + d := ⟨j - i - 1, by omega⟩
      have e1 : i + 1 + d - i = d + 1 := by omega
      have e2 : i + 1 + d - 1 = i + d := by omega
      rw [e1, e2, List.getElem?_cons_succ, List.getElem?_drop]
theorem ins_len {α : Type} (l : List α) (i : Nat) (x : α) (h : i ≤ l.length) : (ins l i x).length = l.length + 1 := by
  unfold ins; simp; omega

theorem Spot.sortedIns {l : List (Int × Value)} {key : Int} {i : Nat} {v : Value} (h : Spot l key i) (hs : Sorted l) (hn : ∀ x ∈ l, x.1 ≠ key) : Sorted (ins l i (key, v)) := by
  have hlen := ins_len l i (key, v) h.le
  have get : ∀ j (hj : j < (ins l i (key, v)).length), ((ins l i (key, v))[j]).1 = if h1 : j < i then (l[j]'(by have := h.le; omega)).1 else if h2 : j = i then key else (l[j - 1]'(by omega)).1 := by
    intro j hj
    have hg := ins_get l i (key, v) j h.le
    rw [List.getElem?_eq_getElem hj] at hg
    have hle := h.le
    by_cases h1 : j < i
    · rw [if_pos h1, List.getElem?_eq_getElem (by omega)] at hg
      rw [dif_pos h1, Option.some.inj hg]
    · rw [if_neg h1] at hg
      rw [dif_neg h1]
      by_cases h2 : j = i
      · rw [if_pos h2] at hg
        rw [dif_pos h2, Option.some.inj hg]
      · rw [if_neg h2, List.getElem?_eq_getElem (by omega)] at hg
        rw [dif_neg h2, Option.some.inj hg]
  have hi' : ∀ j, i ≤ j → (hj : j < l.length) → key < (l[j]).1 := fun j h1 hj => by
    have a := h.hi j h1 hj
    have b := hn _ (List.getElem_mem hj)
    omega
  intro a b hab hb
  rw [get a (by omega), get b hb]
  have hle := h.le
  rw [hlen] at hb
  split
  · rename_i ha
    split
    · exact hs a b hab (by omega)
    · split
      · exact h.lo a ha (by omega)
      · have := h.lo a ha (by omega)
        have := hi' (b - 1) (by omega) (by omega)
        omega
  · split
    · rename_i ha ha'
      rw [dif_neg (by omega), dif_neg (by omega)]
      exact hi' (b - 1) (by omega) (by omega)
    · rename_i ha ha'
      rw [dif_neg (by omega), dif_neg (by omega)]
      exact hs (a - 1) (b - 1) (by omega) (by omega)

theorem not_mem_of {l : List (Int × Value)} {key : Int} (h : mget' l key = none) : ∀ x ∈ l, x.1 ≠ key := by
  unfold mget' at h
  simp only [Option.map_eq_none_iff, List.find?_eq_none, decide_eq_true_eq] at h
  exact h

/-- A new key is set. -/
theorem Set_c {b o : Nat} {c : List Value} {Ty : TypeId} {sv : Value} {l : List (Int × Value)} {key : Int} {v : Value} (h : MapAt w b o c Ty sv l) (hn : mget' l key = none) (hv : v.oneCell' = true) (hf : l.length < 1000000)
    (k : ∀ sv' i w', Spot l key i → MapAt w' b o (c.set o sv') Ty sv' (ins l i (key, v)) → Frm (omapA b sv) w w' → (sv'.ownBlock = sv.ownBlock ∨ ∃ nb, sv'.ownBlock = some nb ∧ w.heap.size ≤ nb) → K (.tuple #[]) w') :
    call Pg F.order_Map_int_pool_frame_Set [.pointer (some ⟨b, o, none⟩), int key, v] K w := by
  refine order_Map_int_pool_frame_Set_call ?_
  unfold order_Map_int_pool_frame_Set
  refine find_c h.map (fun w1 i q1 h1 h2 h3 => ?_)
  have hsp : Spot l key i := ⟨h1, h2, h3⟩
  have hnm := not_mem_of hn
  have hno : ¬ ∃ h : i < l.length, (l[i]).1 = key := fun ⟨hi, he⟩ => hnm _ (List.getElem_mem hi) he
  have e0 : decide (∃ h : i < l.length, (l[i]).1 = key) = false := decide_eq_false hno
  rw [e0]
  have h1' := h.qt q1
  have hb := h1'.at_
  have lb := lt_of hb
  have hol : o < c.length := (List.getElem?_eq_some_iff.1 h.cell).1
  refine run_i (s_extract rfl) ?_
  refine run_i (s_extract rfl) ?_
  refine run_i (p_not _) ?_
  refine cn_ti ?_
  refine run_i (p_nil _) ?_
  refine run_i s_field ?_
  refine run_i (s_load (cellAt_l hb (by simpa using h.cell))) ?_
  refine run_i (build_of (cells := #[int key, .pointer none]) (by kernel_rfl) _) ?_
  refine run_i (bslice_of (cells := [int key, .pointer none]) (by decide) (by decide) (by kernel_rfl)) ?_
  have q2 : Qt w1 (w1.alloc (.cells [int key, .pointer none].toArray T.order_pair_int_pool_frame)) := (Frm.refl _).alloc _
  have hg2 : sv.ownBlock ≠ some w1.heap.size := by
    intro e
    obtain ⟨l', hl⟩ := h1'.own.block e
    have := lt_of hl
    omega
  refine PInsert_c (x := (key, .pointer none)) (h1'.own.qt q2) h1 h.one h.few rfl hp_alloc_new hg2 (fun sv' w3 ho3 f3 hb3 => ?_)
  have hb3' : w3.heap[b]? = some (.cells c.toArray Ty (0, 0)) := f3.keep _ _ (old hb) (fun e => h.ne e)
  have lb3 := lt_of hb3'
  obtain ⟨sa', sc', rfl⟩ := ho3.shape
  refine run_i (p_nil _) ?_
  refine run_i s_field ?_
  refine runU_i (s_store hb3' rfl (by simp <;> omega)) ?_
  unfold order_Map_int_pool_frame_Set_j1
  refine run_i (p_nil _) ?_
  refine run_i s_field ?_
  have hlen : (ins l i (key, Value.pointer none)).length = l.length + 1 := by unfold ins; simp; omega
  have hbs : (w3.putObj b (.cells (c.set (o + 0) (.slice sa' (l.length + 1) sc')).toArray Ty (0, 0))).heap[b]? = some (.cells (c.set (o + 0) (.slice sa' (l.length + 1) sc')).toArray Ty (0, 0)) := hp_put_same lb3
  refine run_i (s_load (cellAt_l hbs (v := .slice sa' (l.length + 1) sc') (by simp [hol]))) ?_
  rw [← hlen] at ho3
  obtain ⟨g, cap, rest, ev, hg, hc2, hle, hvv⟩ := pown_cell (i := i) ho3 rfl (by omega)
  cases ev
  have hgb : g ≠ b := by
    intro e
    subst e
    rw [hb3'] at hg
    cases hg
    exact h.tag rfl
  have lg := lt_of hg
  have hg' : (w3.putObj b (.cells (c.set (o + 0) (.slice (some ⟨g, 0, none⟩) (l.length + 1) sc')).toArray Ty (0, 0))).heap[g]? = some (.cells (pcells (ins l i (key, .pointer none)) ++ rest).toArray T.order_pair_int_pool_frame (0, 0)) := put_other hg hgb
  refine run_i (s_index (by omega) (by omega)) ?_
  refine run_i s_field ?_
  refine runU_i (s_store hg' hv (by simp only [Int.toNat_natCast]; omega)) ?_
  refine lv_i ?_
  have hpl := pcells_len l
  obtain ⟨_, hshape⟩ := ho3
  rcases hshape with ⟨hx, _⟩ | ⟨g', cap', rest', hx, hgg, hc3, hc4, hc5⟩
  · cases hx
  cases hx
  have hrr : rest' = rest := by
    rw [hg] at hgg
    simpa using hgg.symm
  subst hrr
  have hins : pcells (ins l i (key, v)) = (pcells (ins l i (key, .pointer none))).set (i * 2 + 1) v := by
    rw [pcells_ins _ _ _ h1, pcells_ins _ _ _ h1]
    have e1 : ((pcells l).take (i * 2)).length = i * 2 := by rw [List.length_take]; omega
    rw [List.append_assoc, List.append_assoc, List.set_append_right _ _ (by omega)]
    have e2 : i * 2 + 1 - ((pcells l).take (i * 2)).length = 1 := by omega
    rw [e2]
    rfl
  have hplen : (pcells (ins l i (key, Value.pointer none))).length = (l.length + 1) * 2 := by rw [pcells_len, hlen]
  have hlenV : (ins l i (key, v)).length = l.length + 1 := by unfold ins; simp; omega
  refine k (.slice (some ⟨g, 0, none⟩) (l.length + 1) sc') i _ hsp ⟨?_, ?_, h.tag, ?_, hsp.sortedIns h.sorted hnm, ?_, by omega⟩ ?_ ?_
  · exact put_other (hp_put_same lb3) (fun e => hgb e.symm)
  · simp [hol]
  · rw [hlenV]
    refine Own.mk' (hp_put_same (by rw [sz_put]; exact lg)) ?_ (by omega) hc4 (by rw [List.length_set]; exact hc5)
    simp only [Int.toNat_natCast, Nat.zero_add]
    rw [List.take_set, ← hplen, List.take_left, hins]
  · intro x hx
    unfold ins at hx
    simp only [List.mem_append, List.mem_cons] at hx
    rcases hx with hx | rfl | hx
    · exact h.one x (List.mem_of_mem_take hx)
    · exact hv
    · exact h.one x (List.mem_of_mem_drop hx)
  · have f4 : Frm (omapA b sv) w w3 := (Frm.of_qt (q1.trans q2)).trans (f3.mono (fun _ _ _ ha => .inr ha))
    refine (f4.put_may _ (fun _ _ => .inl rfl)).put_may _ (fun ob hob => .inr ?_)
    rcases hb3 with hb3 | ⟨nb, hb3, hle3⟩
    · exact hb3.symm
    · exfalso
      have e1 : some g = some nb := hb3
      cases e1
      have := lt_of hob
      have := q1.size
      rw [sz_alloc] at hle3
      omega
  · rcases hb3 with hb3 | ⟨nb, hb3, hle3⟩
    · exact .inl hb3
    · refine .inr ⟨nb, hb3, ?_⟩
      have := q1.size
      rw [sz_alloc] at hle3
      omega

/-- A key goes. -/
theorem Delete_c {b o : Nat} {c : List Value} {Ty : TypeId} {sv : Value} {l : List (Int × Value)} {key : Int} (h : MapAt w b o c Ty sv l) (hn : (mget' l key).isSome = true)
    (k : ∀ sv' i w', (hi : i < l.length) → (l[i]).1 = key → MapAt w' b o (c.set o sv') Ty sv' (l.eraseIdx i) → Frm (omapA b sv) w w' → sv'.ownBlock = sv.ownBlock → K (.bool true) w') :
    call Pg F.order_Map_int_pool_frame_Delete [.pointer (some ⟨b, o, none⟩), int key] K w := by
  refine order_Map_int_pool_frame_Delete_call ?_
  unfold order_Map_int_pool_frame_Delete
  refine find_c h.map (fun w1 i q1 h1 h2 h3 => ?_)
  have hex : ∃ h : i < l.length, (l[i]).1 = key := by
    refine Classical.byContradiction fun hno => ?_
    rw [find_not h2 h3 h.sorted hno] at hn
    cases hn
  have e0 : decide (∃ h : i < l.length, (l[i]).1 = key) = true := decide_eq_true hex
  rw [e0]
  obtain ⟨hi, hkey⟩ := hex
  have h1' := h.qt q1
  have hb := h1'.at_
  have lb := lt_of hb
  have hol : o < c.length := (List.getElem?_eq_some_iff.1 h.cell).1
  have hfew := h.few
  refine run_i (s_extract rfl) ?_
  refine run_i (s_extract rfl) ?_
  refine cn_ti ?_
  refine run_i (p_nil _) ?_
  refine run_i s_field ?_
  refine run_i (s_load (cellAt_l hb (by simpa using h.cell))) ?_
  refine run_i (p_add _) ?_
  have e1 : IntKind.i64.wrap ((i : Int) + 1) = ((i + 1 : Nat) : Int) := by rw [w64 (by omega) (by omega)]; omega
  rw [e1]
  refine PDelete_c h1'.own hi h.one h.few (fun sv' w3 ho3 f3 hb3 => ?_)
  have hb3' : w3.heap[b]? = some (.cells c.toArray Ty (0, 0)) := f3.keep _ _ hb (fun e => h.ne e)
  have lb3 := lt_of hb3'
  obtain ⟨sa', sc', rfl⟩ := ho3.shape
  refine run_i (p_nil _) ?_
  refine run_i s_field ?_
  refine runU_i (s_store hb3' rfl (by simp <;> omega)) ?_
  unfold order_Map_int_pool_frame_Delete_j1
  refine lv_i ?_
  have hlen : (l.eraseIdx i).length = l.length - 1 := by rw [List.length_eraseIdx, if_pos hi]
  refine k _ i _ hi hkey ⟨?_, ?_, h.tag, ?_, ?_, ?_, by omega⟩ ?_ hb3
  · exact hp_put_same lb3
  · simp [hol]
  · rw [hlen]
    refine ho3.keep (fun g l' hg hl' => put_other hl' ?_)
    rw [hb3] at hg
    intro e
    subst e
    exact h.ne hg
  · intro a d had hd
    rw [hlen] at hd
    rw [List.getElem_eraseIdx, List.getElem_eraseIdx]
    split
    · split
      · exact h.sorted a d had (by omega)
      · exact h.sorted a (d + 1) (by omega) (by omega)
    · rw [dif_neg (by omega)]
      exact h.sorted (a + 1) (d + 1) (by omega) (by omega)
  · intro x hx
    exact h.one x (List.mem_of_mem_eraseIdx hx)
  · exact ((Frm.of_qt q1).trans (f3.mono (fun _ _ _ ha => .inr ha))).put_may _ (fun _ _ => .inl rfl)
end Go.Sx
end

section
set_option maxRecDepth 100000
set_option linter.unusedVariables false
namespace Go.Sx
open Go
/-- slices.Index[[]int,int] -/
noncomputable def slices_Index_int_int_body : Code := (Go.Proofs.Tryz.f87.body).getD .skip

def slices_Index_int_int_j1 (K : Value → World → Prop) (ds : List Deferred) (w : World) : Prop :=
  leaveW Pg ds (fun w => K (.int .i64 (-1)) w) w

theorem slices_Index_int_int_j1_eq (K : Value → World → Prop) : W Pg (cR (cR slices_Index_int_int_body)) false (retQ Pg [.tmp 4] K) = (fun s w => slices_Index_int_int_j1 K s.ds  w) :=
  by kernel_rfl

def slices_Index_int_int_l2 (K : Value → World → Prop) (X1 : List Deferred × Value × Value × Value × Value → World → Prop) (st : List Deferred × Value × Value × Value × Value) (w : World) : Prop :=
  run Pg (binS .lss 3 false st.2.2.2.2 st.2.2.2.1) (fun t9_1 w =>
  cnd t9_1 (
  run Pg (Instr.indexAt 22 st.2.1 st.2.2.2.2) (fun t14_2 w =>
  run Pg (Instr.loadAt 3 t14_2) (fun t15_3 w =>
  run Pg (binS .eql 3 false st.2.2.1 t15_3) (fun t16_4 w =>
  cnd t16_4 (
  leaveW Pg st.1 (fun w => K st.2.2.2.2 w) w) (
  run Pg (binS .add 3 true st.2.2.2.2 (.int .i64 1)) (fun t18_5 w =>
  X1 (st.1, st.2.1, st.2.2.1, st.2.2.2.1, t18_5) w) w)) w) w) w) (
  slices_Index_int_int_j1 K st.1  w)) w

theorem slices_Index_int_int_l2_eq (K : Value → World → Prop) (X1 : List Deferred × Value × Value × Value × Value → World → Prop) : W Pg (cB (cB (cR (cL (cR slices_Index_int_int_body))))) false (thenP (fun s w => X1 (s.ds, s.f 0, s.f 1, s.f 7, s.f 8) w) (blockP 0 (thenP (fun s w => slices_Index_int_int_j1 K s.ds  w) (retQ Pg [.tmp 4] K)))) = (fun s w => slices_Index_int_int_l2 K X1 (s.ds, s.f 0, s.f 1, s.f 7, s.f 8) w) :=
  by kernel_rfl

theorem slices_Index_int_int_l2_mono (K : Value → World → Prop) : ∀ X Y : List Deferred × Value × Value × Value × Value → World → Prop, (∀ t w, X t w → Y t w) → ∀ t w, slices_Index_int_int_l2 K X t w → slices_Index_int_int_l2 K Y t w :=
  loop_mono (fun s : St => ((s.ds, s.f 0, s.f 1, s.f 7, s.f 8) : List Deferred × Value × Value × Value × Value)) (fun X1 => slices_Index_int_int_l2_eq K X1) (fun t => ⟨fun i => (bif Nat.beq i 0 then t.2.1 else (bif Nat.beq i 1 then t.2.2.1 else (bif Nat.beq i 7 then t.2.2.2.1 else (bif Nat.beq i 8 then t.2.2.2.2 else undef)))), t.1⟩) (fun _ => rfl)

def slices_Index_int_int (K : Value → World → Prop) (ds : List Deferred) (x0 : Value) (x1 : Value) (w : World) : Prop :=
  run Pg (Builtin.len_ #[22] 3 #[x0]) (fun t7_6 w =>
  Lp (slices_Index_int_int_l2 K) (ds, x0, x1, t7_6, (.int .i64 0)) w) w

theorem slices_Index_int_int_eq (K : Value → World → Prop) : W Pg slices_Index_int_int_body false (retQ Pg [.tmp 4] K) = (fun s w => slices_Index_int_int K s.ds (s.f 0) (s.f 1) w) :=
  Eq.trans (eqSeq ((eqSeq (slices_Index_int_int_j1_eq K)).trans (eqSeq (eqBlock (eqLoop (rd := false) (fun s : St => ((s.ds, s.f 0, s.f 1, s.f 7, s.f 8) : List Deferred × Value × Value × Value × Value)) (fun X1 => slices_Index_int_int_l2_eq K X1)))))) (by kernel_rfl)

theorem slices_Index_int_int_ok : FnOk Pg F.slices_Index_int_int Go.Proofs.Tryz.f87 slices_Index_int_int_body 2 := ⟨Go.Proofs.Tryz.func87, by kernel_rfl, by kernel_rfl, by kernel_rfl, by kernel_rfl, by kernel_rfl⟩

theorem slices_Index_int_int_callS {K : Value → World → Prop} {x0 : Value} {x1 : Value} {w : World} (h : slices_Index_int_int K [] x0 x1 w) : callS Pg F.slices_Index_int_int [x0, x1] K w :=
  call_of_W slices_Index_int_int_ok (Eq.mpr (congrFun (congrFun (slices_Index_int_int_eq K) ⟨argFr [x0, x1], []⟩) w) h)

theorem slices_Index_int_int_call {K : Value → World → Prop} {x0 : Value} {x1 : Value} {w : World} (h : slices_Index_int_int K [] x0 x1 w) : call Pg F.slices_Index_int_int [x0, x1] K w := .inl (slices_Index_int_int_callS h)

/-- slices.Delete[[]int,int] -/
noncomputable def slices_Delete_int_int_body : Code := (Go.Proofs.Tryz.f88.body).getD .skip

def slices_Delete_int_int (K : Value → World → Prop) (ds : List Deferred) (x0 : Value) (x1 : Value) (x2 : Value) (w : World) : Prop :=
  run Pg (Builtin.len_ #[22] 3 #[x0]) (fun t12_1 w =>
  run Pg (Instr.sliceAt 22 x0 (some x1) (some x2) (some t12_1)) (fun t13_2 w =>
  run Pg (binS .eql 3 false x1 x2) (fun t16_3 w =>
  cnd t16_3 (
  leaveW Pg ds (fun w => K x0 w) w) (
  run Pg (Builtin.len_ #[22] 3 #[x0]) (fun t19_4 w =>
  rn Pg (fun _ => True) (Instr.sliceAt 22 x0 none (some x1) none) (fun t22_5 w =>
  rn Pg (fun _ => True) (Instr.sliceAt 22 x0 (some x2) none none) (fun t25_6 w =>
  run Pg (Builtin.append_ #[22, 22] 22 #[t22_5, t25_6]) (fun t26_7 w =>
  (fun _ => True) w ∧ run Pg (Builtin.len_ #[22] 3 #[t26_7]) (fun t29_8 w =>
  run Pg (Instr.sliceAt 22 t26_7 (some t29_8) (some t19_4) none) (fun t31_9 w =>
  run Pg (Builtin.clear_ #[22] 0 #[t31_9]) (fun _u w =>
  leaveW Pg ds (fun w => K t26_7 w) w) w) w) w) w) w) w.drew) w)) w) w) w

theorem slices_Delete_int_int_eq (K : Value → World → Prop) : W Pg slices_Delete_int_int_body false (retQ Pg [.tmp 6] K) = (fun s w => slices_Delete_int_int K s.ds (s.f 0) (s.f 1) (s.f 2) w) :=
  by kernel_rfl

theorem slices_Delete_int_int_ok : FnOk Pg F.slices_Delete_int_int Go.Proofs.Tryz.f88 slices_Delete_int_int_body 3 := ⟨Go.Proofs.Tryz.func88, by kernel_rfl, by kernel_rfl, by kernel_rfl, by kernel_rfl, by kernel_rfl⟩

theorem slices_Delete_int_int_callS {K : Value → World → Prop} {x0 : Value} {x1 : Value} {x2 : Value} {w : World} (h : slices_Delete_int_int K [] x0 x1 x2 w) : callS Pg F.slices_Delete_int_int [x0, x1, x2] K w :=
  call_of_W slices_Delete_int_int_ok (Eq.mpr (congrFun (congrFun (slices_Delete_int_int_eq K) ⟨argFr [x0, x1, x2], []⟩) w) h)

theorem slices_Delete_int_int_call {K : Value → World → Prop} {x0 : Value} {x1 : Value} {x2 : Value} {w : World} (h : slices_Delete_int_int K [] x0 x1 x2 w) : call Pg F.slices_Delete_int_int [x0, x1, x2] K w := .inl (slices_Delete_int_int_callS h)

/-- slices.Clone[[]int,int] -/
noncomputable def slices_Clone_int_int_body : Code := (Go.Proofs.Tryz.f81.body).getD .skip

def slices_Clone_int_int (K : Value → World → Prop) (ds : List Deferred) (x0 : Value) (w : World) : Prop :=
  run Pg (binS .eql 22 true x0 (.slice none 0 0)) (fun t4_1 w =>
  cnd t4_1 (
  leaveW Pg ds (fun w => K (.slice none 0 0) w) w) (
  run Pg (Instr.buildSlice 22 0 #[]) (fun t5_2 w =>
  run Pg (Builtin.append_ #[22, 22] 22 #[t5_2, x0]) (fun t7_3 w =>
  leaveW Pg ds (fun w => K t7_3 w) w) w) w)) w

theorem slices_Clone_int_int_eq (K : Value → World → Prop) : W Pg slices_Clone_int_int_body false (retQ Pg [.tmp 2] K) = (fun s w => slices_Clone_int_int K s.ds (s.f 0) w) :=
  by kernel_rfl

theorem slices_Clone_int_int_ok : FnOk Pg F.slices_Clone_int_int Go.Proofs.Tryz.f81 slices_Clone_int_int_body 1 := ⟨Go.Proofs.Tryz.func81, by kernel_rfl, by kernel_rfl, by kernel_rfl, by kernel_rfl, by kernel_rfl⟩

theorem slices_Clone_int_int_callS {K : Value → World → Prop} {x0 : Value} {w : World} (h : slices_Clone_int_int K [] x0 w) : callS Pg F.slices_Clone_int_int [x0] K w :=
  call_of_W slices_Clone_int_int_ok (Eq.mpr (congrFun (congrFun (slices_Clone_int_int_eq K) ⟨argFr [x0], []⟩) w) h)

theorem slices_Clone_int_int_call {K : Value → World → Prop} {x0 : Value} {w : World} (h : slices_Clone_int_int K [] x0 w) : call Pg F.slices_Clone_int_int [x0] K w := .inl (slices_Clone_int_int_callS h)

end Go.Sx
end

section
/- Lists of what was used last. -/
set_option linter.unusedVariables false
set_option linter.unusedSimpArgs false
set_option maxRecDepth 100000
namespace Go.Sx
open Go Go.RowKit
variable {K : Value → World → Prop} {w : World}

def icells (l : List Int) : List Value := l.map fun x => int x
theorem icells_len (l : List Int) : (icells l).length = l.length := by simp [icells]
theorem icells_one (l : List Int) : ∀ v ∈ icells l, v.oneCell' = true := by
  intro v hv
  simp only [icells, List.mem_map] at hv
  obtain ⟨x, _, rfl⟩ := hv
  rfl

theorem iown_cell {e n : Nat} {v : Value} {l : List Int} (h : Own w e 1 v n (icells l)) (hn : n = l.length) {i : Nat} (hi : i < l.length) :
    ∃ g cap rest, v = .slice (some ⟨g, 0, none⟩) n cap ∧ w.heap[g]? = some (.cells (icells l ++ rest).toArray e (0, 0)) ∧ (icells l ++ rest)[i]? = some (int l[i]) := by
  obtain ⟨h0, ⟨_, h⟩ | ⟨g, cap, rest, h1, h2, h3, h4, h5⟩⟩ := h
  · omega
  · refine ⟨g, cap, rest, h1, h2, ?_⟩
    rw [List.getElem?_append_left (by rw [icells_len]; exact hi)]
    simp [icells, hi]

theorem zero_int : (Builtin.zeroCells (Value.int .i64 0).cells 1).toList = [.int .i64 0] := by kernel_rfl

theorem IDelete_c {sv : Value} {l : List Int} {i : Nat} (h : Own w T.i64_2 1 sv l.length (icells l)) (hi : i < l.length) (hf : l.length ≤ 1000000)
    (k : ∀ v' w', Own w' T.i64_2 1 v' (l.length - 1) (icells (l.eraseIdx i)) → Frm (rowA sv) w w' → v'.ownBlock = sv.ownBlock → K v' w') :
    call Pg F.slices_Delete_int_int [sv, int i, int ((i + 1 : Nat) : Int)] K w := by
  obtain ⟨g, cap, rest, rfl, hg, hc1, hc2, hlen⟩ := h.parts (by omega)
  have lg := lt_of hg
  have hpl := icells_len l
  have hlen' : (icells l).length + rest.length = cap * 1 := by rw [← List.length_append]; exact hlen
  refine slices_Delete_int_int_call ?_
  unfold slices_Delete_int_int
  refine run_i s_len_sl ?_
  refine run_i (p_sl_lhm (SliceC.get) (by omega) (by omega) (by omega) (by omega) _) ?_
  refine run_i (p_eql _) ?_
  have e1 : decide ((i : Int) = ((i + 1 : Nat) : Int)) = false := decide_eq_false (by omega)
  simp only [e1]
  refine cn_fi ?_
  refine run_i s_len_sl ?_
  refine rnT_i (fun w => p_sl_h (SliceC.get) (by omega) (by omega) w) ?_
  refine rnT_i (fun w => p_sl_l (SliceC.get) (by omega) (by omega) w) ?_
  simp only [Int.toNat_natCast]
  rw [sliced_at (show 0 < cap by omega)]
  simp only [Nat.zero_mul, Nat.zero_add, Nat.sub_zero, Nat.add_zero]
  obtain ⟨news, hnews⟩ : ∃ news, news = icells (l.drop (i + 1)) := ⟨_, rfl⟩
  have hnl : news.length = (l.length - (i + 1)) * 1 := by rw [hnews, icells_len, List.length_drop]; omega
  have hno : ∀ u ∈ news, u.oneCell' = true := by
    rw [hnews]; exact icells_one _
  have hid : icells (l.drop (i + 1)) = (icells l).drop (i + 1) := by simp [icells]
  have hsrc : ∃ o c, sliced (some ⟨g, 0, none⟩) (i + 1) l.length cap 1 = .slice (some ⟨g, o, none⟩) (l.length - (i + 1)) c ∧ CellsAt w.drew g o news := by
    by_cases hcap : i + 1 = cap
    · refine ⟨0, 0, ?_, _, _, _, hg, ?_⟩
      · rw [← hcap, sliced_end]
      · have : news = [] := List.eq_nil_of_length_eq_zero (by omega)
        rw [this]; rfl
    · refine ⟨_, _, sliced_at (by omega), _, _, _, hg, ?_⟩
      rw [hnews, hid, Nat.mul_one, Nat.zero_add, List.length_drop, List.drop_append_of_le_length (by omega), List.take_append_of_le_length (by rw [List.length_drop]; omega), List.take_of_length_le (by rw [List.length_drop]; omega)]
  obtain ⟨o, c, es, hca⟩ := hsrc
  rw [es]
  refine run_i (r_appendR (w := w.drew) hg hca hnl hno (by omega) (by rw [hnl]; omega)) ?_
  refine ⟨trivial, ?_⟩
  have hu1 : (upd' (icells l ++ rest) (i * 1) news).length = cap * 1 := by rw [upd'_len (by omega)]; omega
  refine run_i s_len_sl ?_
  have e2 : i + (l.length - (i + 1)) = l.length - 1 := by omega
  rw [e2]
  refine run_i (p_sl_lh (SliceC.get) (by omega) (by omega) (by omega) _) ?_
  simp only [Int.toNat_natCast]
  rw [sliced_at (show l.length - 1 < cap by omega)]
  have e3 : l.length - (l.length - 1) = 1 := by omega
  rw [e3]
  refine run_i (r_clear (hp_put_same lg) (by omega) (by rw [zero_int]; decide) (by rw [hu1]; omega)) ?_
  rw [zero_int]
  refine lv_i ?_
  refine k (.slice (some ⟨g, 0, none⟩) (l.length - 1) cap) _ (Own.mk' (hp_put_same (by rw [sz_put]; exact lg)) ?_ (by omega) hc2 ?_) ?_ rfl
  · rw [Nat.zero_add, upd'_take (by rw [hu1]; omega)]
    have e4 : (l.length - 1) * 1 = i * 1 + news.length := by omega
    rw [e4, upd'_take2 (by omega), List.take_append_of_le_length (by omega), hnews]
    simp [icells, List.eraseIdx_eq_take_drop_succ]
  · rw [upd'_len, hu1]
    rw [hu1]
    show 0 + (l.length - 1) * 1 + 1 ≤ cap * 1
    omega
  · exact ((((Frm.refl w).drew).put_may _ (fun _ _ => rfl)).put_may _ (fun _ _ => rfl))

theorem IIndex_c {sv : Value} {l : List Int} {x : Int} (h : Own w T.i64_2 1 sv l.length (icells l)) (hf : l.length ≤ 1000000)
    (k1 : x ∉ l → K (int (-1)) w) (k2 : ∀ i : Nat, (hi : i < l.length) → l[i] = x → (∀ j, j < i → (hj : j < l.length) → l[j] ≠ x) → K (int i) w) :
    call Pg F.slices_Index_int_int [sv, int x] K w := by
  obtain ⟨sa, sc, rfl⟩ := h.shape
  refine slices_Index_int_int_call ?_
  unfold slices_Index_int_int
  refine run_i s_len_sl ?_
  refine Lp_inv (slices_Index_int_int_l2_mono K) (fun st w' => w' = w ∧ ∃ i : Nat, i ≤ l.length ∧ st = ([], .slice sa l.length sc, int x, int l.length, int i) ∧ ∀ j, j < i → (hj : j < l.length) → l[j] ≠ x)
    (fun st _ => match st.2.2.2.2 with | .int _ k => (l.length - k).toNat | _ => 0) ⟨rfl, 0, by omega, rfl, fun j hj _ => by omega⟩ ?_
  rintro st w' ⟨rfl, i, hi, rfl, hno⟩
  unfold slices_Index_int_int_l2
  refine run_i (p_lss _) ?_
  refine cnd_dec (fun hc => ?_) (fun hc => ?_)
  · have hil : i < l.length := by omega
    obtain ⟨g, cap, rest, ev, hg, hv⟩ := iown_cell h rfl hil
    cases ev
    refine run_i (s_index (by omega) (by omega)) ?_
    refine run_i (s_load (cellAt_l hg (by simpa using hv))) ?_
    refine run_i (p_eql _) ?_
    refine cnd_dec (fun he => ?_) (fun he => ?_)
    · skip
      exact k2 i hil he.symm hno
    · have e1 : IntKind.i64.wrap ((i : Int) + 1) = ((i + 1 : Nat) : Int) := by rw [w64 (by omega) (by omega)]; omega
      refine run_i (p_add _) ?_
      rw [e1]
      refine ⟨⟨rfl, i + 1, by omega, rfl, ?_⟩, ?_⟩
      · intro j hj hj'
        by_cases e : j = i
        · subst e; exact fun h => he h.symm
        · exact hno j (by omega) hj'
      · first | omega | (simp only; omega)
  · have : i = l.length := by omega
    subst this
    unfold slices_Index_int_int_j1
    skip
    refine k1 (fun hm => ?_)
    obtain ⟨j, hj, e⟩ := List.mem_iff_getElem.1 hm
    exact hno j hj hj e

/-- A list of ints, in cell o of the struct in block b. -/
structure ListAt (w : World) (b o : Nat) (c : List Value) (Ty : TypeId) (uv : Value) (l : List Int) : Prop where
  at_ : w.heap[b]? = some (.cells c.toArray Ty (0, 0))
  cell : c[o]? = some uv
  tag : Ty ≠ T.i64_2
  own : Own w T.i64_2 1 uv l.length (icells l)
  few : l.length ≤ 1000000

theorem ListAt.ne {b o : Nat} {c : List Value} {Ty : TypeId} {sv : Value} {l : List Int} (h : ListAt w b o c Ty sv l) : sv.ownBlock ≠ some b := by
  intro e
  obtain ⟨l', hl⟩ := h.own.block e
  have h2 := h.at_
  rw [hl] at h2
  cases h2
  exact h.tag rfl
theorem ListAt.qt {w' : World} {b o : Nat} {c : List Value} {Ty : TypeId} {sv : Value} {l : List Int} (h : ListAt w b o c Ty sv l) (q : Qt w w') : ListAt w' b o c Ty sv l :=
  ⟨q.all h.at_, h.cell, h.tag, h.own.qt q, h.few⟩

theorem erase_at {l : List Int} {x : Int} {i : Nat} (hi : i < l.length) (he : l[i] = x) (hno : ∀ j, j < i → (hj : j < l.length) → l[j] ≠ x) : l.erase x = l.eraseIdx i := by
  induction l generalizing i with
  | nil => simp at hi
  | cons y l ih =>
    cases i with
    | zero => simp at he; subst he; simp
    | succ i =>
      have hy : y ≠ x := hno 0 (by omega) (by simp)
      rw [List.erase_cons_tail (by simpa using hy), List.eraseIdx_cons_succ]
      rw [ih (by simpa using hi) (by simpa using he) (fun j hj hj' => by have := hno (j + 1) (by omega) (by simpa using hj'); simpa using this)]

theorem Drop_c {b o : Nat} {c : List Value} {Ty : TypeId} {sv : Value} {l : List Int} {x : Int} (h : ListAt w b o c Ty sv l)
    (k : ∀ sv' w' r, ListAt w' b o (c.set o sv') Ty sv' (l.erase x) → Frm (omapA b sv) w w' → sv'.ownBlock = sv.ownBlock → K r w') :
    call Pg F.order_Recent_int_Drop [.pointer (some ⟨b, o, none⟩), int x] K w := by
  have hb := h.at_
  have lb := lt_of hb
  have hol : o < c.length := (List.getElem?_eq_some_iff.1 h.cell).1
  have hfew := h.few
  refine order_Recent_int_Drop_call ?_
  unfold order_Recent_int_Drop
  refine run_i (p_nil _) ?_
  refine run_i s_field ?_
  refine run_i (s_load (cellAt_l hb (by simpa using h.cell))) ?_
  refine IIndex_c h.own h.few (fun hn => ?_) (fun i hi he hno => ?_)
  · refine run_i (p_geq _) ?_
    refine cn_fi ?_
    unfold order_Recent_int_Drop_j1
    refine run_i (p_geq _) ?_
    refine lv_i ?_
    refine k sv w _ ?_ (.refl w) rfl
    rw [List.erase_of_not_mem hn]
    have e : c.set o sv = c := by
      apply List.ext_getElem?
      intro j
      rw [List.getElem?_set]
      by_cases hj : o = j
      · subst hj; rw [if_pos rfl, if_pos hol, h.cell]
      · rw [if_neg hj]
    rw [e]
    exact h
  · have e1 : IntKind.i64.wrap ((i : Int) + 1) = ((i + 1 : Nat) : Int) := by rw [w64 (by omega) (by omega)]; omega
    have e2 : decide ((0 : Int) ≤ (i : Int)) = true := decide_eq_true (by omega)
    refine run_i (p_geq _) ?_
    simp only [e2]
    refine cn_ti ?_
    refine run_i (p_nil _) ?_
    refine run_i s_field ?_
    refine run_i (s_load (cellAt_l hb (by simpa using h.cell))) ?_
    refine run_i (p_add _) ?_
    rw [e1]
    refine IDelete_c h.own hi h.few (fun sv' w3 ho3 f3 hb3 => ?_)
    have hb3' : w3.heap[b]? = some (.cells c.toArray Ty (0, 0)) := f3.keep _ _ hb (fun e => h.ne e)
    have lb3 := lt_of hb3'
    obtain ⟨sa', sc', rfl⟩ := ho3.shape
    refine run_i (p_nil _) ?_
    refine run_i s_field ?_
    refine runU_i (s_store hb3' rfl (by simp <;> omega)) ?_
    unfold order_Recent_int_Drop_j1
    refine run_i (p_geq _) ?_
    refine lv_i ?_
    have hlen : (l.eraseIdx i).length = l.length - 1 := by rw [List.length_eraseIdx, if_pos hi]
    rw [erase_at hi he hno] at k
    refine k (.slice sa' (l.length - 1) sc') _ _ ⟨?_, ?_, h.tag, ?_, by omega⟩ ?_ hb3
    · exact hp_put_same lb3
    · simp [hol]
    · rw [hlen]
      refine ho3.keep (fun g l' hg hl' => put_other hl' ?_)
      rw [hb3] at hg
      intro e
      subst e
      exact h.ne hg
    · exact (f3.mono (fun _ _ _ ha => .inr ha)).put_may _ (fun _ _ => .inl rfl)

theorem Use_c {b o : Nat} {c : List Value} {Ty : TypeId} {sv : Value} {l : List Int} {x : Int} (h : ListAt w b o c Ty sv l) (hf : l.length < 1000000)
    (k : ∀ sv' w', ListAt w' b o (c.set o sv') Ty sv' (l.erase x ++ [x]) → Frm (omapA b sv) w w' → (sv'.ownBlock = sv.ownBlock ∨ ∃ nb, sv'.ownBlock = some nb ∧ w.heap.size ≤ nb) → K (.tuple #[]) w') :
    call Pg F.order_Recent_int_Use [.pointer (some ⟨b, o, none⟩), int x] K w := by
  have hol : o < c.length := (List.getElem?_eq_some_iff.1 h.cell).1
  refine order_Recent_int_Use_call ?_
  unfold order_Recent_int_Use
  refine Drop_c h (fun sv1 w1 r h1 f1 hb1 => ?_)
  have hb := h1.at_
  have lb := lt_of hb
  have hle : (l.erase x).length ≤ l.length := List.length_erase_le
  refine run_i (p_nil _) ?_
  refine run_i s_field ?_
  refine run_i (s_load (cellAt_l hb (v := sv1) (by simp [hol]))) ?_
  refine run_i (bslice_of (cells := [int x]) (by decide) (by decide) (by kernel_rfl)) ?_
  have q2 : Qt w1 (w1.alloc (.cells [int x].toArray T.i64_2)) := (Frm.refl _).alloc _
  refine r_append (SliceC.get).und (ElC.get) (by decide) (h1.own.qt q2) (m := 1) (news := [int x]) rfl (CellsAt.cell ⟨_, _, _, hp_alloc_new, rfl⟩) (by simp [Value.oneCell']) (by simp [maxLen]; omega) (by omega) (fun sv3 w3 ho3 hgr _ hb3 => ?_)
  have f3 : Frm (rowA sv1) (w1.alloc (.cells [int x].toArray T.i64_2)) w3 := .of_grown hgr (fun g o hg _ => hg)
  have hb3' : w3.heap[b]? = some (.cells (c.set o sv1).toArray Ty (0, 0)) := f3.keep _ _ (old hb) (fun e => h1.ne e)
  have lb3 := lt_of hb3'
  obtain ⟨sa', sc', rfl⟩ := ho3.shape
  refine run_i (p_nil _) ?_
  refine run_i s_field ?_
  refine runU_i (s_store hb3' rfl (by simp <;> omega)) ?_
  refine lv_i ?_
  have hs1 := f1.size
  have hlen : (l.erase x ++ [x]).length = (l.erase x).length + 1 := by simp
  have hnb : (Value.slice sa' ((l.erase x).length + 1) sc').ownBlock ≠ some b := by
    intro e
    rcases hb3 with hb3 | hb3
    · rw [e] at hb3; exact h1.ne hb3.symm
    · rw [e] at hb3
      have e2 : b = (w1.alloc (.cells [int x].toArray T.i64_2)).heap.size := Option.some.inj hb3
      rw [sz_alloc] at e2
      omega
  refine k (.slice sa' ((l.erase x).length + 1) sc') _ ⟨?_, ?_, h.tag, ?_, by omega⟩ ?_ ?_
  · have := hp_put_same (w := w3) (b := b) (o := .cells ((c.set o sv1).set (o + 0) (.slice sa' ((l.erase x).length + 1) sc')).toArray Ty (0, 0)) lb3
    rw [this]
    simp
  · simp [hol]
  · rw [hlen]
    have : icells (l.erase x ++ [x]) = icells (l.erase x) ++ [int x] := by simp [icells]
    rw [this]
    exact ho3.keep (fun g l' hg hl' => put_other hl' (fun e => by subst e; exact hnb hg))
  · refine ((f1.trans' ((Frm.of_qt q2).trans' f3 (A := rowA sv1) (fun _ _ _ h => h)) (fun k' o' _ hA hR => hA (.inr ?_))).put_may _ (fun _ _ => .inl rfl))
    rw [← hb1]; exact hR
  · rcases hb3 with hb3 | hb3
    · exact .inl (hb3.trans hb1)
    · refine .inr ⟨_, hb3, ?_⟩
      rw [sz_alloc]; omega
end Go.Sx
end

section
/- The rows of the seat: the wrap, the witness, what is laid. -/
set_option linter.unusedVariables false
set_option linter.unusedSimpArgs false
set_option maxRecDepth 100000
namespace Go.Sx
open Go Go.RowKit

/-- The wrap of a row that lists variables, the world's shape kept. -/
theorem lift_shaped {H : Type} {enc : TypeId × Value → H} {a : Assume} {C : Checked} {os : Os} {f : FuncId} {fn : Func} {s : ChangeSpec} {conds : List PathCond} {apart fresh handsOn again : Bool} {X : World → Array Value → Prop}
    (hX : ∀ (w w' : World) (args : Array Value), w.heap = w'.heap → X w args → X w' args)
    (own : ownKnob C.prog.godebug = none) (started : os.Started) (noInit : C.prog.inits.idxOf? f = none) (hfn : C.prog.funcs[f]? = some fn)
    (witness : ∃ (w : World) (tape : Tape) (i : Input), w.os = os ∧ (w.forCall tape i).Shaped C.prog ∧ i.vars = [] ∧ Input.okWide C.prog (w.forCall tape i) .any w.heap.size f i ∧
      ((s.pre enc C.prog fn conds apart (w.forCall tape i).memory i.args ∧ X (w.forCall tape i).memory i.args) ∧ sizedMet enc C.prog fn (OpenSpec.ofChange s) apart (w.forCall tape i).memory i.args) ∧ a.holds C.prog (lone (Frame.enter C.prog f i.args .normal) [] (w.forCall tape i)))
    (contract : ∀ (W : World) (base : Nat) (args : Array Value) (ds gs : List (DataW H)) (before : List MemPlace),
      (∀ (j : Nat) t v, fn.params[j]? = some t → args[j]? = some v → Value.okWide C.prog W .any base t v) →
      DataW.Whole enc C.prog fn.params.toList s.vars apart W args.toList ds gs before →
      (DataW.weightsEach C.prog (fn.params.toList ++ s.plain.varTypes C.prog) (ds ++ gs)).all (· ≤ reachBytes) = true → X W args → W.ShapedOpen C.prog →
      Calls C.prog f args W fun e W' => ∃ v, e = .returned v ∧ s.post enc C.prog fn apart fresh handsOn again W args v W') :
    ReturnsInHanded a C os f .any (fun w args => (s.pre enc C.prog fn conds apart w args ∧ X w args) ∧ sizedMet enc C.prog fn (OpenSpec.ofChange s) apart w args) (s.post enc C.prog fn apart fresh handsOn again) := by
  refine returnsInHanded_of_calls own started noInit witness ?_
  intro w tape i _ hsh _ hok hpre _
  obtain ⟨_, _, _, fn', hfn', _, _, _, _, hval⟩ := hok
  obtain rfl : fn' = fn := Option.some.inj (hfn'.symm.trans hfn)
  obtain ⟨⟨⟨ds, gs, before, hw, _⟩, hx⟩, hz⟩ := hpre
  refine (contract (w.forCall tape i) w.heap.size i.args ds gs before hval (DataW.Whole.of_heap (w' := w.forCall tape i) (by rfl) hw) (hz.weights hw) (hX _ _ _ (by rfl) hx) hsh).mono fun e W' ⟨v, he, hp⟩ => ?_
  subst he
  exact ChangeSpec.post_blind hp
end Go.Sx

namespace Go.Proofs.YtbpcalmbefkpgaaGreatDoor
open Go.ChangeShapes Go.WideShapes Go.RowKit Go.Sx

abbrev laid10 : List (String × DataW Unit) := [("concordance/sum.turns", Rows.laid_concordance_sum_turns), ("unicode/utf8.acceptRanges", Rows.laid_unicode_utf8_acceptRanges), ("unicode/utf8.first", Rows.laid_unicode_utf8_first)]

theorem own10 : ownKnob Tryz.prog.godebug = none := by kernel_rfl
theorem laidOut10 : laidOutB Tryz.prog = true := by kernel_rfl
theorem gTurns : Tryz.prog.globalNamed "concordance/sum.turns" = some 0 := by kernel_rfl
theorem tTurns : (Tryz.prog.globals[0]?).map (·.type) = some T.a16_u32 := by kernel_rfl
theorem uTurns : Tryz.prog.underlying T.a16_u32 = some (.array 16 T.u32) := by kernel_rfl
theorem uU32 : Tryz.prog.underlying T.u32 = some (.int .u32) := by kernel_rfl
theorem cU32 : Tryz.prog.cellsOf T.u32 = 1 := by kernel_rfl
theorem cTurns : Tryz.prog.cellsOf T.a16_u32 = 16 := by kernel_rfl
theorem noHandles10 : (laid10.all fun x => x.2.handleName?.isNone) = true := by kernel_rfl
theorem rowTurns : ((((begin Tryz.prog (fun _ _ => 0) default).world.heap[0]?).bind Obj.row?).map (·.2)) = some T.a16_u32 := by kernel_rfl
theorem sizeGlobals : decide (0 < Tryz.prog.globals.size) = true := by kernel_rfl

/-- The table of checksums, as it is laid. -/
theorem glob_of_laid {W : World} (h : laidMetH Tryz.prog laid10 W) (hs : W.ShapedOpen Tryz.prog) : Glob W := by
  rw [MakeChecks.laidMetH_plain _ _ _ noHandles10] at h
  obtain ⟨g, t, cs, fuel, p, h1, h2, h3, h4⟩ := Lib.laidMet.reads h (n := "concordance/sum.turns") (d := Rows.laid_concordance_sum_turns) (List.mem_cons_self ..)
  obtain rfl : g = 0 := Option.some.inj (h1.symm.trans gTurns)
  obtain rfl : t = T.a16_u32 := Option.some.inj (h2.symm.trans tTurns)
  have hc : cs.toList = turnsL.map (Value.int .u32) := Lib.cells_of_tab (zs := turnsL) uTurns uU32 cU32 cTurns h4
  obtain ⟨z, hz⟩ : ∃ z, ((begin Tryz.prog (fun _ _ => 0) default).world.heap[0]?).bind Obj.row? = some (z, T.a16_u32) := by
    have := rowTurns
    cases hb : ((begin Tryz.prog (fun _ _ => 0) default).world.heap[0]?).bind Obj.row? with
    | none => rw [hb] at this; cases this
    | some x => rw [hb] at this; obtain ⟨a, b⟩ := x; simp at this; exact ⟨a, by rw [this]⟩
  obtain ⟨cs', hh, _⟩ := hs.1 0 z T.a16_u32 (of_decide_eq_true sizeGlobals) hz
  have : cs' = cs := by
    unfold World.var? at h3
    rw [gTurns] at h3
    simp only [Option.bind_some] at h3
    rw [hh] at h3
    simpa using h3
  subst this
  refine ⟨(0, 0), ?_⟩
  rw [hh, ← hc]
theorem spotless {w : World} {a : Addr} {v : Value} (h : w.cell? a = some v) : a.spot = none ∧ cellAt (w.heap[a.block]?) a.off = some v := by
  unfold World.cell? at h
  unfold cellAt
  split at h
  · rename_i c t f hc
    split at h
    · cases h
    · rename_i hs
      rw [hc]
      exact ⟨by simpa using hs, h⟩
  · cases h

/-- A slice of numbers that comes in. -/
theorem ar_of_ints {H : Type} {enc : TypeId × Value → H} {P : Program} {w : World} {base : Nat} {sp : Nat → Bool} {held : Bool} {t e : TypeId} {v : Value} {d : DataW H} {p : List MemPlace} (ht : P.underlying t = some (.slice e)) (he : P.underlying e = some (.int .i64)) (hc : P.cellsOf e = 1)
    {r : Reach} {b0 : Nat} (hval : Value.okWide P w r b0 t v) (h : DataW.Trod enc P w base sp held t v d p) : ∃ l : List Int, Ar w 1 v l.length (icells l) := by
  obtain ⟨fuel, h⟩ := h
  obtain ⟨a0, len0, cap0, rfl⟩ := WideShapes.okWide_slice ht hval
  rcases open_ints ht he hc h with ⟨h1, _⟩ | ⟨a, len, cap, zs, h1, _, _, _, hlen, _, hcell, _⟩
  · simp [Value.cells] at h1; obtain ⟨rfl, rfl, rfl⟩ := h1
    exact ⟨[], rfl, none, 0, rfl, fun h => absurd h (by simp)⟩
  · simp [Value.cells] at h1; obtain ⟨rfl, rfl, rfl⟩ := h1
    have hle : len0 ≤ zs.length := by rw [hlen]; split <;> omega
    have htl : (zs.take len0).length = len0 := by rw [List.length_take]; omega
    refine ⟨zs.take len0, by simp [icells], some a, cap0, by rw [htl], fun h => ?_⟩
    rw [htl] at h ⊢
    have h0 := spotless (hcell 0 (by omega))
    refine ⟨a.block, a.off, ?_, fun j hj => ?_⟩
    · have : a.spot = none := by have := h0.1; simpa [Addr.add] using this
      cases a; simp_all
    · have hj' : j < len0 := by omega
      have hjl : j < zs.length := by omega
      have h2 := (spotless (hcell j hjl)).2
      have e1 : (a.add j).block = a.block ∧ (a.add j).off = a.off + j := by
        unfold Addr.add; split
        · subst_vars; exact ⟨rfl, rfl⟩
        · exact ⟨rfl, rfl⟩
      rw [e1.1, e1.2] at h2
      rw [h2]
      simp [icells, List.getElem?_take, hj', hjl]

theorem uSl : Tryz.prog.underlying T.s_i64 = some (.slice T.i64_2) := by kernel_rfl
theorem uI : Tryz.prog.underlying T.i64_2 = some (.int .i64) := by kernel_rfl
theorem uB : Tryz.prog.underlying T.bool = some .bool := by kernel_rfl
theorem cI : Tryz.prog.cellsOf T.i64_2 = 1 := by kernel_rfl
theorem rSl : Tryz.prog.readableRec T.s_i64 = true := by kernel_rfl
theorem wSl : T.s_i64 < Tryz.prog.types.size := of_decide_eq_true (by kernel_rfl)

end Go.Proofs.YtbpcalmbefkpgaaGreatDoor
end

section
/- Lists of what was used last: told, the oldest first. -/
set_option linter.unusedVariables false
set_option linter.unusedSimpArgs false
set_option maxRecDepth 100000
namespace Go.Sx
open Go Go.RowKit
variable {K : Value → World → Prop} {w : World}

theorem IClone_c {sv : Value} {l : List Int} (h : Rd w T.i64_2 1 sv l.length (icells l)) (hf : l.length ≤ 1000000)
    (k : ∀ v' w', Own w' T.i64_2 1 v' l.length (icells l) → Qt w w' → (∀ g, v'.ownBlock = some g → w.heap.size ≤ g) → K v' w') : call Pg F.slices_Clone_int_int [sv] K w := by
  obtain ⟨sa, sc, rfl⟩ := h.shape
  refine slices_Clone_int_int_call ?_
  unfold slices_Clone_int_int
  refine run_i s_sl_eql ?_
  cases sa with
  | none =>
    refine cn_ti ?_
    refine lv_i ?_
    have hl : l.length = 0 := by
      obtain ⟨_, a, cap, e1, _, hr⟩ := h
      cases e1
      by_cases h0 : 0 < l.length
      · obtain ⟨_, _, _, _, e, _⟩ := hr h0
        cases e
      · omega
    refine k _ _ ⟨by simp [icells_len], .inl ⟨rfl, hl⟩⟩ (.refl _) (fun g hg => by cases hg)
  | some sa =>
    refine cn_fi ?_
    refine run_i s_build0 ?_
    refine s_append (by decide) (by decide) (.empty hp_alloc_new) (h.qt ((Frm.refl w).alloc _)) (icells_one l) (by omega) (fun v' w' ho hfr hb _ => ?_)
    refine lv_i ?_
    refine k v' w' (by simpa using ho) ?_ ?_
    · exact ((Frm.refl w).alloc _).trans' hfr (fun b o hb _ e => by have := lt_of hb; have e2 : w.heap.size = b := Option.some.inj e; omega)
    · intro g hg
      rcases hb with e | e
      · rw [e] at hg; cases hg; exact Nat.le_refl _
      · rw [e] at hg; cases hg; rw [sz_alloc]; omega

theorem Oldest_c {b o : Nat} {c : List Value} {Ty : TypeId} {sv : Value} {l : List Int} (h : ListAt w b o c Ty sv l)
    (k : ∀ p lv w', w'.heap[p]? = some (.cells [lv].toArray T.s_i64 (0, 0)) → w.heap.size ≤ p → Own w' T.i64_2 1 lv l.length (icells l) → (∀ g, lv.ownBlock = some g → w.heap.size ≤ g) → Qt w w' → K (.func (.func F.order_Recent_int_Oldest_c1) ⟨[]⟩ ⟨[.pointer (some ⟨p, 0, none⟩)]⟩) w') :
    call Pg F.order_Recent_int_Oldest [.pointer (some ⟨b, o, none⟩)] K w := by
  have hb := h.at_
  refine order_Recent_int_Oldest_call ?_
  unfold order_Recent_int_Oldest
  refine run_i (p_nil _) ?_
  refine run_i s_field ?_
  refine run_i (s_load (cellAt_l hb (by simpa using h.cell))) ?_
  refine IClone_c (.of_own h.own) h.few (fun v' w1 ho q hg => ?_)
  obtain ⟨sa, sc, rfl⟩ := ho.shape
  have hs := q.size
  refine run_i s_alloc ?_
  refine runU_i (s_store hp_alloc_new rfl (by simp <;> omega)) ?_
  refine run_i rfl ?_
  refine lv_i ?_
  refine k w1.heap.size _ _ ?_ hs ?_ hg ((q.alloc _).put_new _ hs)
  · exact (hp_put_same (lt_of hp_alloc_new))
  · exact ho.keep (fun g l' hg' hl' => put_other (old hl') (by have := lt_of hl'; omega))

/-- The closure that tells a list, the oldest first: what holds ahead of each. -/
theorem oldest_c1 {y lv : Value} {p : Nat} {l : List Int} (I : Nat → World → Prop) (hf : l.length ≤ 1000000) (hI : I 0 w)
    (hcell : w.heap[p]? = some (.cells [lv].toArray T.s_i64 (0, 0))) (hown : ∀ i w, I i w → Own w T.i64_2 1 lv l.length (icells l))
    (step : ∀ i w, (hi : i < l.length) → I i w → ∀ K' : Value → World → Prop, (∀ w', I (i + 1) w' → K' (.bool true) w') → (∀ w', K (.tuple #[]) w' → K' (.bool false) w') → callV Pg y [int l[i]] K' w)
    (done : ∀ w, I l.length w → K (.tuple #[]) w) : callS Pg F.order_Recent_int_Oldest_c1 [y, .pointer (some ⟨p, 0, none⟩)] K w := by
  refine order_Recent_int_Oldest_c1_callS ?_
  unfold order_Recent_int_Oldest_c1
  obtain ⟨sa, sc, rfl⟩ := (hown 0 w hI).shape
  refine run_i (s_load (cellAt_l hcell rfl)) ?_
  refine run_i s_len_sl ?_
  refine Lp_inv (order_Recent_int_Oldest_c1_l1_mono K) (fun st w' => ∃ i : Nat, i ≤ l.length ∧ st = ([], y, .slice sa l.length sc, int l.length, int i) ∧ I i w')
    (fun st _ => match st.2.2.2.2 with | .int _ k => (l.length - k).toNat | _ => 0) ⟨0, by omega, rfl, hI⟩ ?_
  rintro st w' ⟨i, hi, rfl, hI⟩
  unfold order_Recent_int_Oldest_c1_l1
  refine run_i (p_lss _) ?_
  refine cnd_dec (fun hc => ?_) (fun hc => ?_)
  · have hil : i < l.length := by omega
    obtain ⟨g, cap, rest, ev, hg, hv⟩ := iown_cell (hown i w' hI) rfl hil
    cases ev
    refine run_i (s_index (by omega) (by omega)) ?_
    refine run_i (s_load (cellAt_l hg (by simpa using hv))) ?_
    refine step i w' hil hI _ ?_ ?_
    · intro w2 h2
      have e1 : IntKind.i64.wrap ((i : Int) + 1) = ((i + 1 : Nat) : Int) := by rw [w64 (by omega) (by omega)]; omega
      refine run_i (p_not _) ?_
      refine cn_fi ?_
      refine run_i (p_add _) ?_
      rw [e1]
      refine ⟨⟨i + 1, by omega, rfl, h2⟩, ?_⟩
      first | omega | (simp only; omega)
    · intro w2 h2
      refine run_i (p_not _) ?_
      refine cn_ti ?_
      exact h2
  · have : i = l.length := by omega
    subst this
    skip
    exact done w' hI
end Go.Sx
end

section
/- Pools: what they stand for; asked. -/
set_option linter.unusedVariables false
set_option linter.unusedSimpArgs false
set_option maxRecDepth 100000
namespace Go.Sx
open Go Go.RowKit
variable {K : Value → World → Prop} {w : World}

structure Frame1 where
  bytes : Text
  pins : Int
  dirty : Bool
  blk : Nat

structure PoolS where
  frames : Int
  held : List (Int × Frame1)
  used : List Int

def ptrs (h : List (Int × Frame1)) : List (Int × Value) := h.map fun x => (x.1, .pointer (some ⟨x.2.blk, 0, none⟩))
def pget (h : List (Int × Frame1)) (n : Int) : Option Frame1 := (h.find? fun x => decide (x.1 = n)).map Prod.snd
theorem ptrs_len (h : List (Int × Frame1)) : (ptrs h).length = h.length := by simp [ptrs]
theorem mget_ptrs (h : List (Int × Frame1)) (n : Int) : mget' (ptrs h) n = (pget h n).map fun f => .pointer (some ⟨f.blk, 0, none⟩) := by
  unfold mget' pget ptrs
  induction h with
  | nil => rfl
  | cons x h ih =>
    by_cases e : x.1 = n
    · simp [e]
    · simp only [List.map_cons, List.find?_cons, e, decide_false]
      exact ih
theorem pget_mem {h : List (Int × Frame1)} {n : Int} {f : Frame1} (hg : pget h n = some f) : (n, f) ∈ h := by
  unfold pget at hg
  cases hf : h.find? (fun x => decide (x.1 = n)) with
  | none => rw [hf] at hg; cases hg
  | some x =>
    rw [hf] at hg
    have h1 := List.mem_of_find?_eq_some hf
    have h2 := List.find?_some hf
    simp at h2 hg
    obtain ⟨a, b⟩ := x
    simp at h2 hg
    subst h2 hg
    exact h1

def fcells (f : Frame1) : List Value := [str f.bytes, int f.pins, .bool f.dirty]
def pcell (av fl hv uv : Value) (p : PoolS) : List Value := [av, int p.frames, fl, hv, uv]

structure PoolRep (w : World) (b : Nat) (av fl hv uv : Value) (p : PoolS) : Prop where
  map : MapAt w b 3 (pcell av fl hv uv p) T.pool_Pool hv (ptrs p.held)
  list : ListAt w b 4 (pcell av fl hv uv p) T.pool_Pool uv p.used
  frs : ∀ x ∈ p.held, w.heap[x.2.blk]? = some (.cells (fcells x.2).toArray T.pool_frame (0, 0))
  uniq : ∀ x ∈ p.held, ∀ y ∈ p.held, x.2.blk = y.2.blk → x.1 = y.1

theorem PoolRep.qt {w' : World} {b : Nat} {av fl hv uv : Value} {p : PoolS} (h : PoolRep w b av fl hv uv p) (q : Qt w w') : PoolRep w' b av fl hv uv p :=
  ⟨h.map.qt q, h.list.qt q, fun x hx => q.all (h.frs x hx), h.uniq⟩

/-- what a pool's acts may turn -/
def poolA (uv : Value) (k : Nat) (o : Obj) : Prop := tag o = some T.pool_Pool ∨ tag o = some T.pool_frame ∨ tag o = some T.order_pair_int_pool_frame ∨ uv.ownBlock = some k

theorem pool_New_c {av fl : Value} {n : Int} {ab : Addr} {fn : Fn} {f1 f2 : Array Value} (ha : av = .pointer (some ab)) (hfl : fl = .func fn f1 f2) (h0 : 1 ≤ n) (h1 : n ≤ 64)
    (k : ∀ b w', PoolRep w' b av fl (.slice none 0 0) (.slice none 0 0) ⟨n, [], []⟩ → Qt w w' → w.heap.size ≤ b → K (.tuple #[.pointer (some ⟨b, 0, none⟩), int 0]) w') :
    call Pg F.pool_New [av, int n, fl] K w := by
  subst ha hfl
  have e1 : decide (n < 1) = false := decide_eq_false (by omega)
  have e2 : decide (64 < n) = false := decide_eq_false (by omega)
  refine pool_New_call ?_
  unfold pool_New
  refine run_i s_ptr_eql ?_
  refine gc_ffi ?_
  refine run_i s_fun_eql ?_
  unfold pool_New_g1
  refine pk_fi ?_
  refine gc_ffi ?_
  refine run_i (p_lss _) ?_
  simp only [e1]
  unfold pool_New_g2
  refine pk_fi ?_
  refine gc_ffi ?_
  refine run_i (p_gtr _) ?_
  simp only [e2]
  unfold pool_New_g3
  refine pk_fi ?_
  refine cn_fi ?_
  refine run_i (build_of (cells := #[.pointer (some ab), int n, .func fn f1 f2, .slice none 0 0, .slice none 0 0]) (by kernel_rfl) _) ?_
  refine run_i s_box ?_
  refine lv_i ?_
  refine k w.heap.size _ ⟨⟨hp_alloc_new, rfl, by decide, .nil, fun i j _ hj => by simp [ptrs] at hj, by simp [ptrs], by simp [ptrs]⟩, ⟨hp_alloc_new, rfl, by decide, .nil, by simp⟩, by simp, by simp⟩ ((Frm.refl w).alloc _) (Nat.le_refl _)

theorem PoolRep.get {b : Nat} {av fl hv uv : Value} {p : PoolS} {n : Int} (h : PoolRep w b av fl hv uv p)
    (k : ∀ w', Qt w w' → K (match pget p.held n with | some f => .tuple #[.pointer (some ⟨f.blk, 0, none⟩), .bool true] | none => .tuple #[.pointer none, .bool false]) w') :
    call Pg F.order_Map_int_pool_frame_Get [.pointer (some ⟨b, 3, none⟩), int n] K w := by
  refine Get_c h.map.map (fun w' q => ?_)
  have := k w' q
  rw [mget_ptrs]
  cases hg : pget p.held n with
  | none => rw [hg] at this; exact this
  | some f => rw [hg] at this; exact this

theorem pool_Has_c {b : Nat} {av fl hv uv : Value} {p : PoolS} {n : Int} (h : PoolRep w b av fl hv uv p) (k : ∀ w', Qt w w' → K (.bool (pget p.held n).isSome) w') :
    call Pg F.pool_Pool_Has [.pointer (some ⟨b, 0, none⟩), int n] K w := by
  refine pool_Pool_Has_call ?_
  unfold pool_Pool_Has
  refine run_i s_ptr_eql ?_
  refine cn_fi ?_
  refine run_i (p_nil _) ?_
  refine run_i s_field ?_
  refine h.get (fun w' q => ?_)
  have := k w' q
  cases hg : pget p.held n with
  | none => rw [hg] at this; (refine run_i (s_extract rfl) ?_; refine run_i (s_extract rfl) ?_; refine lv_i ?_); exact this
  | some f => rw [hg] at this; (refine run_i (s_extract rfl) ?_; refine run_i (s_extract rfl) ?_; refine lv_i ?_); exact this

theorem pool_pinned_c {b : Nat} {av fl hv uv : Value} {p : PoolS} {n : Int} (h : PoolRep w b av fl hv uv p)
    (k1 : ∀ w' f, Qt w w' → pget p.held n = some f → f.pins ≠ 0 → K (.tuple #[.pointer (some ⟨f.blk, 0, none⟩), int 0]) w')
    (k2 : ∀ w', Qt w w' → (∀ f, pget p.held n = some f → f.pins = 0) → K (.tuple #[.pointer none, int 17]) w') :
    call Pg F.pool_Pool_pinned [.pointer (some ⟨b, 0, none⟩), int n] K w := by
  refine pool_Pool_pinned_call ?_
  unfold pool_Pool_pinned
  refine run_i s_ptr_eql ?_
  refine cn_fi ?_
  refine run_i (p_nil _) ?_
  refine run_i s_field ?_
  refine h.get (fun w' q => ?_)
  cases hg : pget p.held n with
  | none =>
    refine run_i (s_extract rfl) ?_
    refine run_i (s_extract rfl) ?_
    refine run_i (p_not _) ?_
    refine gc_tfi ?_
    unfold pool_Pool_pinned_g1
    refine pk_ti ?_
    refine cn_ti ?_
    refine lv_i ?_
    exact k2 w' q (fun f hf => by rw [hg] at hf; cases hf)
  | some f =>
    have hf := q.all (h.frs _ (pget_mem hg))
    refine run_i (s_extract rfl) ?_
    refine run_i (s_extract rfl) ?_
    refine run_i (p_not _) ?_
    refine gc_ffi ?_
    refine run_i (p_nil _) ?_
    refine run_i s_field ?_
    refine run_i (s_load (cellAt_l (by assumption) rfl)) ?_
    refine run_i (p_eql _) ?_
    unfold pool_Pool_pinned_g1
    by_cases hp0 : f.pins = 0 <;> simp only [hp0, decide_true, decide_false, gc_tt, gc_tf, gc_ft, gc_ff, pk_t, pk_f, cn_t, cn_f, Bool.not_true, Bool.not_false]
    · exact k2 w' q (fun f' hf' => by rw [hg] at hf'; cases hf'; exact hp0)
    · exact k1 w' f q hg hp0
end Go.Sx
end

section
/- Pools: changed. -/
set_option linter.unusedVariables false
set_option linter.unusedSimpArgs false
set_option maxRecDepth 100000
namespace Go.Sx
open Go Go.RowKit
variable {K : Value → World → Prop} {w : World}

theorem Own.put {e size n b : Nat} {v : Value} {xs : List Value} {ob o : Obj} (h : Own w e size v n xs) (hb : w.heap[b]? = some ob) (ht : tag ob ≠ some e) : Own (w.putObj b o) e size v n xs :=
  h.keep fun g l hg hl => put_other hl fun e' => by subst e'; rw [hb] at hl; cases hl; exact ht rfl

theorem MapAt.put {b b2 o : Nat} {c : List Value} {Ty : TypeId} {sv : Value} {l : List (Int × Value)} {ob o2 : Obj} (h : MapAt w b o c Ty sv l) (hb : w.heap[b2]? = some ob) (h1 : Go.Sx.tag ob ≠ some Ty) (h2 : Go.Sx.tag ob ≠ some T.order_pair_int_pool_frame) : MapAt (w.putObj b2 o2) b o c Ty sv l :=
  ⟨put_other h.at_ fun e => by subst e; rw [h.at_] at hb; cases hb; exact h1 rfl, h.cell, h.tag, h.own.put hb h2, h.sorted, h.one, h.few⟩
theorem ListAt.put {b b2 o : Nat} {c : List Value} {Ty : TypeId} {sv : Value} {l : List Int} {ob o2 : Obj} (h : ListAt w b o c Ty sv l) (hb : w.heap[b2]? = some ob) (h1 : Go.Sx.tag ob ≠ some Ty) (h2 : Go.Sx.tag ob ≠ some T.i64_2) : ListAt (w.putObj b2 o2) b o c Ty sv l :=
  ⟨put_other h.at_ fun e => by subst e; rw [h.at_] at hb; cases hb; exact h1 rfl, h.cell, h.tag, h.own.put hb h2, h.few⟩

def setF (h : List (Int × Frame1)) (n : Int) (f : Frame1) : List (Int × Frame1) := h.map fun x => if x.1 = n then (x.1, f) else x

theorem sorted_inj {h : List (Int × Frame1)} (hs : Sorted (ptrs h)) {x y : Int × Frame1} (hx : x ∈ h) (hy : y ∈ h) (e : x.1 = y.1) : x = y := by
  obtain ⟨i, hi, rfl⟩ := List.mem_iff_getElem.1 hx
  obtain ⟨j, hj, rfl⟩ := List.mem_iff_getElem.1 hy
  have hk : ∀ k (hk : k < h.length), ((ptrs h)[k]'(by rw [ptrs_len]; exact hk)).1 = (h[k]).1 := by intro k hk; simp [ptrs]
  rcases Nat.lt_trichotomy i j with h1 | h1 | h1
  · have := hs i j h1 (by rw [ptrs_len]; exact hj)
    rw [hk i hi, hk j hj] at this; omega
  · subst h1; rfl
  · have := hs j i h1 (by rw [ptrs_len]; exact hi)
    rw [hk i hi, hk j hj] at this; omega

theorem ptrs_setF {h : List (Int × Frame1)} {n : Int} {f f' : Frame1} (hs : Sorted (ptrs h)) (hg : pget h n = some f) (hb : f'.blk = f.blk) : ptrs (setF h n f') = ptrs h := by
  unfold ptrs setF
  rw [List.map_map]
  apply List.map_congr_left
  intro x hx
  simp only [Function.comp]
  by_cases e : x.1 = n
  · have := sorted_inj hs hx (pget_mem hg) e
    subst this
    simp [hb]
  · simp [e]

theorem PoolRep.put {b : Nat} {av fl hv uv : Value} {p : PoolS} {n : Int} {f f' : Frame1} (h : PoolRep w b av fl hv uv p) (hg : pget p.held n = some f) (hb : f'.blk = f.blk) :
    PoolRep (w.putObj f.blk (.cells (fcells f').toArray T.pool_frame (0, 0))) b av fl hv uv { p with held := setF p.held n f' } := by
  have hf : w.heap[f.blk]? = some (.cells (fcells f).toArray T.pool_frame (0, 0)) := h.frs _ (pget_mem hg)
  have lf := lt_of hf
  have hs := h.map.sorted
  refine ⟨?_, h.list.put hf (by simp only [tag]; decide) (by simp only [tag]; decide), ?_, ?_⟩
  · rw [ptrs_setF hs hg hb]
    exact h.map.put hf (by simp only [tag]; decide) (by simp only [tag]; decide)
  · intro x hx
    simp only [setF, List.mem_map] at hx
    obtain ⟨y, hy, rfl⟩ := hx
    by_cases e : y.1 = n
    · simp only [e, if_true]
      rw [hb]
      exact hp_put_same lf
    · simp only [e, if_false]
      refine put_other (h.frs y hy) (fun e2 => ?_)
      exact e (h.uniq y hy _ (pget_mem hg) e2)
  · have key : ∀ x ∈ setF p.held n f', ∃ y ∈ p.held, y.1 = x.1 ∧ y.2.blk = x.2.blk := by
      intro x hx
      simp only [setF, List.mem_map] at hx
      obtain ⟨y, hy, rfl⟩ := hx
      by_cases e : y.1 = n
      · have := sorted_inj hs hy (pget_mem hg) e
        subst this
        exact ⟨_, hy, by simp, by simp [hb]⟩
      · exact ⟨_, hy, by simp [e], by simp [e]⟩
    intro x hx y hy e
    obtain ⟨x', hx', e1, e2⟩ := key x hx
    obtain ⟨y', hy', e3, e4⟩ := key y hy
    rw [← e1, ← e3]
    exact h.uniq x' hx' y' hy' (by rw [e2, e4]; exact e)

theorem wrapP {a : Int} (h0 : -9223372036854775808 ≤ a) (h1 : a < 9223372036854775808) : IntKind.i64.wrap a = a := by
  unfold IntKind.wrap; simp [IntKind.bits, IntKind.signed]; omega

theorem pool_Unpin_c {b : Nat} {av fl hv uv : Value} {p : PoolS} {n : Int} (h : PoolRep w b av fl hv uv p) (hr : ∀ x ∈ p.held, 0 ≤ x.2.pins ∧ x.2.pins < 1000000)
    (k1 : ∀ w' f, pget p.held n = some f → f.pins ≠ 0 → PoolRep w' b av fl hv uv { p with held := setF p.held n { f with pins := f.pins - 1 } } → Frm (poolA uv) w w' → K (int 0) w')
    (k2 : ∀ w', Qt w w' → (∀ f, pget p.held n = some f → f.pins = 0) → K (int 17) w') :
    call Pg F.pool_Pool_Unpin [.pointer (some ⟨b, 0, none⟩), int n] K w := by
  refine pool_Pool_Unpin_call ?_
  unfold pool_Pool_Unpin
  refine pool_pinned_c h (fun w' f q hg hp0 => ?_) (fun w' q hno => ?_)
  · have h' := h.qt q
    have hf := h'.frs _ (pget_mem hg)
    have hf2 : w'.heap[f.blk]? = some (.cells [str f.bytes, int f.pins, .bool f.dirty].toArray T.pool_frame (0, 0)) := hf
    have hpr : 0 ≤ f.pins ∧ f.pins < 1000000 := hr _ (pget_mem hg)
    have ew : IntKind.i64.wrap (f.pins - 1) = f.pins - 1 := wrapP (by omega) (by omega)
    refine run_i (s_extract rfl) ?_
    refine run_i (s_extract rfl) ?_
    refine run_i (p_eql _) ?_
    refine cn_ti ?_
    refine run_i (p_nil _) ?_
    refine run_i s_field ?_
    refine run_i (s_load (cellAt_l hf2 rfl)) ?_
    refine run_i (p_sub _) ?_
    refine run_i (p_nil _) ?_
    refine run_i s_field ?_
    refine runU_i (s_store hf2 rfl (by simp <;> omega)) ?_
    unfold pool_Pool_Unpin_j1
    refine lv_i ?_
    rw [ew]
    refine k1 _ f hg hp0 (h'.put (f' := { f with pins := f.pins - 1 }) hg rfl) ?_
    exact (Frm.of_qt q).put_may _ (fun ob hob => by
      have := h.frs _ (pget_mem hg)
      rw [this] at hob
      cases hob
      exact .inr (.inl rfl))
  · refine run_i (s_extract rfl) ?_
    refine run_i (s_extract rfl) ?_
    refine run_i (p_eql _) ?_
    refine cn_fi ?_
    unfold pool_Pool_Unpin_j1
    refine lv_i ?_
    exact k2 w' q hno
end Go.Sx
end

section
/- Ranges over functions: the loop's own record put aside. -/
set_option linter.unusedVariables false
set_option linter.unusedSimpArgs false
namespace Go.Sx
open Go Go.RowKit
variable {P : Program} {w : World}

/-- what tells its things one by one to a 'yield' -/
def Tells (P : Program) (gf : FuncId) (cap : List Value) (n : Nat) (arg : Nat → List Value) (rd : World → Prop) : Prop :=
  ∀ (J : Nat → World → Prop) (K : Value → World → Prop) (y : Value) (w : World), J 0 w → (∀ i w, J i w → rd w) → (∀ i w w', J i w → Qt w w' → J i w') →
    (∀ i w, i < n → J i w → ∀ K' : Value → World → Prop, (∀ w', J (i + 1) w' → K' (.bool true) w') → (∀ w', K (.tuple #[]) w' → K' (.bool false) w') → callV P y (arg i) K' w) →
    (∀ w, J n w → K (.tuple #[]) w) → callS P gf (y :: cap) K w

theorem Rng_of {gf : FuncId} {cap : List Value} {n np : Nat} {arg : Nat → List Value} {rd : World → Prop} (ht : Tells P gf cap n arg rd) (hnp : ∀ i, (arg i).length = np)
    {R : List Value → (Option Code → World → Prop) → World → Prop} {after : Option Code → List Deferred → World → Prop} {ds : List Deferred}
    (I : Nat → World → Prop) (X : Code → World → Prop)
    (h0 : ∀ w', Qt w w' → I 0 w') (hrd : ∀ i w', I i w' → rd w')
    (hI : ∀ i w1 w2 ob, I i w1 → w1.heap[w.heap.size + 1]? = some ob → tag ob = none → Frm (fun k _ => k = w.heap.size + 1) w1 w2 → I i w2) (hX : ∀ j w1 w2 ob, X j w1 → w1.heap[w.heap.size + 1]? = some ob → tag ob = none → Frm (fun k _ => k = w.heap.size + 1) w1 w2 → X j w2)
    (step : ∀ i, i < n → ∀ w1 (ob : Obj) (B : Option Code → World → Prop), I i w1 → tag ob = none → w1.heap[w.heap.size + 1]? = some ob → w1.heap[w.heap.size]? = some (.deferred (some [])) →
      (∀ w2, I (i + 1) w2 → w2.heap[w.heap.size + 1]? = some ob → w2.heap[w.heap.size]? = some (.deferred (some [])) → B none w2) →
      (∀ j w2, X j w2 → w2.heap[w.heap.size + 1]? = some ob → w2.heap[w.heap.size]? = some (.deferred (some [])) → B (some j) w2) → R (arg i) B w1)
    (done : ∀ w2, I n w2 → w2.heap[w.heap.size]? = some (.deferred (some [])) → after none ({ target := .collected w.heap.size, args := #[] } :: ds) w2)
    (out : ∀ j w2, X j w2 → w2.heap[w.heap.size]? = some (.deferred (some [])) → after (some j) ({ target := .collected w.heap.size, args := #[] } :: ds) w2) :
    Rng P (.func (.func gf) ⟨[]⟩ ⟨cap⟩) np (fun args beg B w => beg (fun w => R args B w) w) after ds w := by
  refine ⟨gf, cap, rfl, fun lp hlp y hy H => ?_⟩
  have htag : ∀ st j, tag (lp st j) = none := by
    obtain ⟨rec, hlp⟩ := hlp
    intro st j; rw [hlp]; rfl
  have put : ∀ (w1 : World) (o : Obj), Frm (fun k _ => k = w.heap.size + 1) w1 (w1.putObj (w.heap.size + 1) o) := fun w1 o => (Frm.refl w1).put_may _ (fun _ _ => rfl)
  have putD : ∀ (w1 : World) (o : Obj), w1.heap[w.heap.size]? = some (.deferred (some [])) → (w1.putObj (w.heap.size + 1) o).heap[w.heap.size]? = some (.deferred (some [])) := fun w1 o h => put_other h (by omega)
  refine ht (fun i w1 => I i w1 ∧ w1.heap[w.heap.size + 1]? = some (lp .ready none) ∧ w1.heap[w.heap.size]? = some (.deferred (some []))) _ y _ ?_ ?_ ?_ ?_ ?_
  · refine ⟨h0 _ (((Frm.refl w).alloc _).alloc _), ?_, old hp_alloc_new⟩
    have : w.heap.size + 1 = (w.alloc (.deferred (some []))).heap.size := by rw [sz_alloc]
    rw [this]
    exact hp_alloc_new
  · rintro i w1 ⟨h1, _⟩
    exact hrd _ _ h1
  · rintro i w1 w2 ⟨h1, h2, h3⟩ q
    exact ⟨hI _ _ _ _ h1 h2 (htag _ _) (.of_qt q), q.all h2, q.all h3⟩
  · rintro i w1 hi ⟨h1, h2, h3⟩ K' kt kf
    refine H _ _ _ (hnp i) h2 ⟨h2, ?_⟩
    have l2 := lt_of h2
    refine step i hi _ (lp .busy none) _ (hI _ _ _ _ h1 h2 (htag _ _) (put _ _)) (htag _ _) (hp_put_same l2) (putD _ _ h3) ?_ ?_
    · intro w2 g1 g2 g3
      exact ⟨g2, kt _ ⟨hI _ _ _ _ g1 g2 (htag _ _) (put _ _), hp_put_same (lt_of g2), putD _ _ g3⟩⟩
    · intro j w2 g1 g2 g3
      refine ⟨g2, kf _ ⟨.done, some j, by simp, hp_put_same (lt_of g2), ?_⟩⟩
      exact out j _ (hX _ _ _ _ (hX _ _ _ _ g1 g2 (htag _ _) (put _ _)) (hp_put_same (lt_of g2)) (htag _ _) (put _ _)) (putD _ _ (putD _ _ g3))
  · rintro w1 ⟨h1, h2, h3⟩
    refine ⟨.ready, none, by simp, h2, ?_⟩
    exact done _ (hI _ _ _ _ h1 h2 (htag _ _) (put _ _)) (putD _ _ h3)

theorem lv_coll {D : Nat} {ds : List Deferred} {K : World → Prop} (h : w.heap[D]? = some (.deferred (some []))) (k : leaveW P ds K (w.putObj D (.deferred none))) : leaveW P ({ target := .collected D, args := #[] } :: ds) K w := ⟨h, k⟩
end Go.Sx
end

section
/- Maps in order, told pair by pair. -/
set_option linter.unusedVariables false
set_option linter.unusedSimpArgs false
set_option maxRecDepth 100000
namespace Go.Sx
open Go Go.RowKit
variable {K : Value → World → Prop} {w : World}

theorem PClone_c {sv : Value} {l : List (Int × Value)} (h : Rd w T.order_pair_int_pool_frame 2 sv l.length (pcells l)) (h1 : ∀ x ∈ l, x.2.oneCell' = true) (hf : l.length ≤ 1000000)
    (k : ∀ v' w', Own w' T.order_pair_int_pool_frame 2 v' l.length (pcells l) → Qt w w' → K v' w') : call Pg F.slices_Clone_rder_pair_int_pool_frame [sv] K w := by
  obtain ⟨sa, sc, rfl⟩ := h.shape
  refine slices_Clone_rder_pair_int_pool_frame_call ?_
  unfold slices_Clone_rder_pair_int_pool_frame
  refine run_i s_sl_eql ?_
  cases sa with
  | none =>
    refine cn_ti ?_
    refine lv_i ?_
    have hl : l.length = 0 := by
      obtain ⟨_, a, cap, e1, _, hr⟩ := h
      cases e1
      by_cases h0 : 0 < l.length
      · obtain ⟨_, _, _, _, e, _⟩ := hr h0
        cases e
      · omega
    exact k _ _ ⟨pcells_len l, .inl ⟨rfl, hl⟩⟩ (.refl _)
  | some sa =>
    refine cn_fi ?_
    refine run_i s_build0 ?_
    refine s_append (by decide) (by decide) (.empty hp_alloc_new) (h.qt ((Frm.refl w).alloc _)) (pcells_one h1) (by omega) (fun v' w' ho hfr hb _ => ?_)
    refine lv_i ?_
    refine k v' w' (by simpa using ho) ?_
    exact ((Frm.refl w).alloc _).trans' hfr (fun b o hb _ e => by have := lt_of hb; have e2 : w.heap.size = b := Option.some.inj e; omega)

theorem All_c {b o : Nat} {sv : Value} {l : List (Int × Value)} (h : IsMap w b o sv l)
    (k : ∀ p lv w', w'.heap[p]? = some (.cells [lv].toArray T.s_order_pair_int_pool_frame (0, 0)) → w.heap.size ≤ p → Rd w' T.order_pair_int_pool_frame 2 lv l.length (pcells l) → Qt w w' →
      K (.func (.func F.order_each_int_pool_frame_c1) ⟨[]⟩ ⟨[.pointer (some ⟨p, 0, none⟩)]⟩) w') :
    call Pg F.order_Map_int_pool_frame_All [.pointer (some ⟨b, o, none⟩)] K w := by
  obtain ⟨c, Ty, hb, hc⟩ := h.at_
  refine order_Map_int_pool_frame_All_call ?_
  unfold order_Map_int_pool_frame_All
  refine run_i (p_nil _) ?_
  refine run_i s_field ?_
  refine run_i (s_load (cellAt_l hb (by simpa using hc))) ?_
  refine order_each_int_pool_frame_call ?_
  unfold order_each_int_pool_frame
  refine PClone_c (.of_own h.own) h.one h.few (fun v' w1 ho q => ?_)
  obtain ⟨sa, sc, rfl⟩ := ho.shape
  have hs := q.size
  refine run_i s_alloc ?_
  refine runU_i (s_store hp_alloc_new rfl (by simp <;> omega)) ?_
  refine run_i rfl ?_
  refine lv_i ?_
  refine lv_i ?_
  refine k w1.heap.size (.slice sa l.length sc) _ ?_ hs ?_ ((q.alloc _).put_new _ hs)
  · exact (hp_put_same (lt_of hp_alloc_new))
  · refine Rd.of_own (ho.keep (fun g l' hg' hl' => put_other (old hl') (by have := lt_of hl'; omega)))

theorem pairs_tell {p : Nat} {lv : Value} {l : List (Int × Value)} (hf : l.length ≤ 1000000) (h1 : ∀ x ∈ l, x.2.oneCell' = true) :
    Tells Pg F.order_each_int_pool_frame_c1 [.pointer (some ⟨p, 0, none⟩)] l.length (fun i => [int (l.getD i (0, undef)).1, (l.getD i (0, undef)).2])
      (fun w => w.heap[p]? = some (.cells [lv].toArray T.s_order_pair_int_pool_frame (0, 0)) ∧ Rd w T.order_pair_int_pool_frame 2 lv l.length (pcells l)) := by
  intro J K y w h0 hrd hq step done
  refine order_each_int_pool_frame_c1_callS ?_
  unfold order_each_int_pool_frame_c1
  obtain ⟨hp, hr⟩ := hrd _ _ h0
  obtain ⟨sa, sc, rfl⟩ := hr.shape
  refine run_i (s_load (cellAt_l hp rfl)) ?_
  refine run_i s_len_sl ?_
  refine Lp_inv (order_each_int_pool_frame_c1_l1_mono K) (fun st w' => ∃ i : Nat, i ≤ l.length ∧ st = ([], y, .slice sa l.length sc, int l.length, int i) ∧ J i w')
    (fun st _ => match st.2.2.2.2 with | .int _ k => (l.length - k).toNat | _ => 0) ⟨0, by omega, rfl, h0⟩ ?_
  rintro st w' ⟨i, hi, rfl, hJ⟩
  unfold order_each_int_pool_frame_c1_l1
  refine run_i (p_lss _) ?_
  refine cnd_dec (fun hc => ?_) (fun hc => ?_)
  · have hil : i < l.length := by omega
    obtain ⟨hp, hr⟩ := hrd _ _ hJ
    refine hr.loadA (us := [int (l[i]).1, (l[i]).2]) (by decide) hil ?_ SliceC.get AggC.get rfl ?_
    · have e := pcells_get l i hil
      apply List.ext_getElem?
      intro j
      rw [List.getElem?_take, List.getElem?_drop]
      match j with
      | 0 => simpa using e.1
      | 1 => simpa using e.2
      | j + 2 => rw [if_neg (by omega)]; rfl
    have hone := h1 _ (List.getElem_mem hil)
    refine run_i s_alloc ?_
    refine runU_i (s_storeW hp_alloc_new rfl (by
      intro v hv
      simp only [List.mem_cons, List.not_mem_nil, or_false] at hv
      rcases hv with rfl | rfl
      · rfl
      · exact hone) rfl) ?_
    refine run_i s_field ?_
    refine run_i (s_load (cellAt_l (hp_put_same (lt_of hp_alloc_new)) rfl)) ?_
    refine run_i s_field ?_
    refine run_i (s_load (cellAt_l (hp_put_same (lt_of hp_alloc_new)) rfl)) ?_
    have e0 : l.getD i (0, undef) = l[i] := by simp [List.getD, hil]
    have q : Qt w' ((w'.alloc (.cells [int 0, .pointer none].toArray T.order_pair_int_pool_frame)).putObj w'.heap.size (.cells [int (l[i]).1, (l[i]).2].toArray T.order_pair_int_pool_frame (0, 0))) := by (refine (((Frm.refl _).alloc _).put_new _ (by first | omega | (simp only [sz_alloc, sz_put, sz_drew]; omega) | (first | omega | (simp only [sz_alloc, sz_put, sz_drew] at *; omega)))))
    have := step i _ hil (hq _ _ _ hJ q)
    simp only [e0] at this
    refine this _ ?_ ?_
    · intro w2 h2
      refine run_i (p_not _) ?_
      refine cn_fi ?_
      refine run_i (p_addI (by omega) (by omega) _) ?_
      refine ⟨⟨i + 1, by omega, rfl, h2⟩, ?_⟩
      first | omega | (simp only; omega)
    · intro w2 h2
      refine run_i (p_not _) ?_
      refine cn_ti ?_
      exact h2
  · have : i = l.length := by omega
    subst this
    skip
    exact done w' hJ
end Go.Sx
end

section
/- Pools: the pages that are held, and those that are dirty. -/
set_option linter.unusedVariables false
set_option linter.unusedSimpArgs false
set_option maxRecDepth 100000
namespace Go.Sx
open Go Go.RowKit
variable {K : Value → World → Prop} {w : World}

def keysOf (h : List (Int × Frame1)) : List Int := h.map Prod.fst
def dirtyOf (h : List (Int × Frame1)) : List Int := (h.filter fun x => x.2.dirty).map Prod.fst

theorem dirtyOf_snoc (h : List (Int × Frame1)) (x : Int × Frame1) : dirtyOf (h ++ [x]) = dirtyOf h ++ (if x.2.dirty then [x.1] else []) := by
  unfold dirtyOf
  rw [List.filter_append, List.map_append]
  cases hx : x.2.dirty <;> simp [List.filter_cons, hx]

/-- x = append(x, n), numbers. -/
theorem push_i {x : Int} {v : Value} {c o n ty : Nat} {cl : List Value} {l : List Int} {Tc : TypeId} (hc : w.heap[c]? = some (.cells cl.toArray Tc (0, 0))) (hv : cl[o]? = some v) (hT : T.i64_2 ≠ Tc) (ho : Own w T.i64_2 1 v n (icells l)) (hn : n < 1000000) {K : World → Prop}
    (k : ∀ v' w', w'.heap[c]? = some (.cells (cl.set o v').toArray Tc (0, 0)) → Own w' T.i64_2 1 v' (n + 1) (icells (l ++ [x])) → (∀ g, v'.ownBlock = some g → v.ownBlock = some g ∨ w.heap.size ≤ g) → Frm (fun b _ => b = c ∨ v.ownBlock = some b) w w' → K w') :
    run Pg (Instr.loadAt T.s_i64 (.pointer (some ⟨c, o, none⟩))) (fun t1 w => run Pg (Instr.buildSlice T.s_i64 1 #[(0, int x)]) (fun t2 w => run Pg (Builtin.append_ #[T.s_i64, T.s_i64] ty #[t1, t2]) (fun t3 w => runU Pg (Instr.storeAt T.s_i64 (.pointer (some ⟨c, o, none⟩)) t3) K w) w) w) w := by
  refine s_push (e := T.i64_2) (size := 1) (bytes := 8) (z := .int .i64 0) (l := [int x]) (by decide) (by decide) (by decide) (by kernel_rfl) rfl (by simp [Value.oneCell']) hc hv hT ho hn (fun v' w' h1 h2 h3 h4 => k v' w' h1 ?_ h3 h4)
  have e : icells (l ++ [x]) = icells l ++ [int x] := by simp [icells]
  rw [e]; exact h2

/-- what a round of Held keeps -/
structure HeldI (W : World) (ca cd : Nat) (h : List (Int × Frame1)) (i : Nat) (w : World) : Prop where
  frm : Frm (fun k _ => k = ca ∨ k = cd) W w
  ex : ∃ va vd, w.heap[ca]? = some (.cells [va].toArray T.s_i64 (0, 0)) ∧ w.heap[cd]? = some (.cells [vd].toArray T.s_i64 (0, 0)) ∧
    Own w T.i64_2 1 va i (icells (keysOf (h.take i))) ∧ Own w T.i64_2 1 vd (dirtyOf (h.take i)).length (icells (dirtyOf (h.take i))) ∧
    (∀ g, va.ownBlock = some g → W.heap.size ≤ g) ∧ (∀ g, vd.ownBlock = some g → W.heap.size ≤ g) ∧ (∀ g, va.ownBlock = some g → vd.ownBlock ≠ some g)

theorem HeldI.frm' {W w1 w2 : World} {ca cd : Nat} {h : List (Int × Frame1)} {i L : Nat} (hi : HeldI W ca cd h i w1) (q : Frm (fun k _ => k = L) w1 w2) (h1 : ca ≠ L) (h2 : cd ≠ L) (hL : W.heap.size ≤ L) (hn : ∀ l, w1.heap[L]? ≠ some (.cells l T.i64_2 (0, 0))) : HeldI W ca cd h i w2 := by
  obtain ⟨f, va, vd, a1, a2, a3, a4, a5, a6, a7⟩ := hi
  refine ⟨f.trans' q (fun k o hk hA e => ?_), va, vd, q.keep _ _ a1 (fun e => h1 e), q.keep _ _ a2 (fun e => h2 e), ?_, ?_, a5, a6, a7⟩
  · have := lt_of hk; omega
  · exact a3.keep (fun g l hg hl => q.keep _ _ hl (fun e => by subst e; exact hn _ hl))
  · exact a4.keep (fun g l hg hl => q.keep _ _ hl (fun e => by subst e; exact hn _ hl))

set_option maxHeartbeats 1000000 in
theorem pool_Held_c {b : Nat} {av fl hv uv : Value} {p : PoolS} (h : PoolRep w b av fl hv uv p)
    (k : ∀ w' va vd, Own w' T.i64_2 1 va p.held.length (icells (keysOf p.held)) → Own w' T.i64_2 1 vd (dirtyOf p.held).length (icells (dirtyOf p.held)) →
      (∀ g, va.ownBlock = some g → w.heap.size ≤ g) → (∀ g, vd.ownBlock = some g → w.heap.size ≤ g) → Qt w w' → K (.tuple #[va, vd]) w') :
    call Pg F.pool_Pool_Held [.pointer (some ⟨b, 0, none⟩)] K w := by
  refine pool_Pool_Held_call ?_
  unfold pool_Pool_Held
  refine run_i s_alloc ?_
  refine run_i s_alloc ?_
  refine run_i s_ptr_eql ?_
  refine cn_fi ?_
  refine run_i (p_nil _) ?_
  refine run_i s_field ?_
  obtain ⟨ca, hca⟩ : ∃ ca, ca = w.heap.size := ⟨_, rfl⟩
  obtain ⟨cd, hcd⟩ : ∃ cd, cd = (w.alloc (.cells [.slice none 0 0].toArray T.s_i64)).heap.size := ⟨_, rfl⟩
  have ecd : cd = ca + 1 := by rw [hcd, hca, sz_alloc]
  obtain ⟨W0, hW0⟩ : ∃ W0, W0 = (w.alloc (.cells [.slice none 0 0].toArray T.s_i64)).alloc (.cells [.slice none 0 0].toArray T.s_i64) := ⟨_, rfl⟩
  rw [← hca, ← hcd, ← hW0]
  have q0 : Qt w W0 := by rw [hW0]; (refine (((Frm.refl _).alloc _).alloc _))
  have ga : W0.heap[ca]? = some (.cells [.slice none 0 0].toArray T.s_i64 (0, 0)) := by rw [hW0, hca]; (exact (old hp_alloc_new))
  have gd : W0.heap[cd]? = some (.cells [.slice none 0 0].toArray T.s_i64 (0, 0)) := by rw [hW0, hcd]; (exact hp_alloc_new)
  have hr0 := h.qt q0
  refine All_c hr0.map.map (fun pp lv W hpp hppl hrd q1 => ?_)
  have hlen := ptrs_len p.held
  rw [hlen] at hrd
  have hfew : p.held.length ≤ 1000000 := by have := h.map.few; rw [hlen] at this; exact this
  have s0 := q0.size
  have s1 := q1.size
  have ga1 := q1.all ga
  have gd1 := q1.all gd
  have lp1 := lt_of hpp
  have la1 := lt_of ga
  have ld1 := lt_of gd
  have hcell : ∀ i (hi : i < p.held.length), (ptrs p.held).getD i (0, undef) = ((p.held[i]).1, .pointer (some ⟨(p.held[i]).2.blk, 0, none⟩)) := by
    intro i hi
    simp [ptrs, List.getD, hi]
  have fin : ∀ w2 : World, HeldI W ca cd p.held p.held.length w2 → w2.heap[W.heap.size]? = some (.deferred (some [])) →
      rn Pg (fun w' => w' = w2.drew) (Instr.loadAt T.s_i64 (.pointer (some ⟨ca, 0, none⟩))) (fun t28 w => rn Pg (fun w' => w' = w) (Instr.loadAt T.s_i64 (.pointer (some ⟨cd, 0, none⟩))) (fun t29 w =>
        leaveW Pg [{ target := .collected W.heap.size, args := #[] }] (fun w => K (.tuple #[t28, t29]) w) w) w) w2.drew := by
    rintro w2 ⟨f, va, vd, a1, a2, a3, a4, a5, a6, a7⟩ hD
    obtain ⟨xa, na, rfl⟩ := a3.shape
    obtain ⟨xd, nd, rfl⟩ := a4.shape
    rw [List.take_length] at a3 a4
    refine rnR_i (s_load (cellAt_l (drew_at a1) rfl)) ?_
    refine rnR_i (s_load (cellAt_l (drew_at a2) rfl)) ?_
    refine lv_coll hD ?_
    refine lv_i ?_
    rw [List.take_length]
    refine k _ _ _ ?_ ?_ (fun g hg => ?_) (fun g hg => ?_) ?_
    · exact a3.keep (fun g l hg hl => put_other (drew_at hl) (fun e => by subst e; rw [hl] at hD; cases hD))
    · exact a4.keep (fun g l hg hl => put_other (drew_at hl) (fun e => by subst e; rw [hl] at hD; cases hD))
    · have := a5 g hg; omega
    · have := a6 g (by rw [List.take_length]; exact hg); omega
    · have f1 : Frm (fun _ _ => False) w w2 := (q0.trans q1).trans' f (fun k o hk _ e => by have := lt_of hk; omega)
      refine ((f1.drew).put_new _ (by first | omega | (simp only [sz_alloc, sz_put, sz_drew]; omega) | (have := q0.size; have := q1.size; have := f.size; have := f1.size; first | omega | (simp only [sz_alloc, sz_put, sz_drew] at *; omega))))
  refine Rng_of (pairs_tell (l := ptrs p.held) (lv := lv) (p := pp) (by rw [hlen]; exact hfew) h.map.one) (fun i => rfl) (HeldI W ca cd p.held) (fun _ _ => False) ?_ ?_ ?_ ?_ ?_ ?_ ?_
  · intro w' q
    refine ⟨.of_qt q, .slice none 0 0, .slice none 0 0, q.all ga1, q.all gd1, .nil, .nil, (fun g hg => by cases hg), (fun g hg => by cases hg), (fun g hg => by cases hg)⟩
  · rintro i w' hi
    have f := hi.frm
    refine ⟨f.keep _ _ hpp (fun e => by omega), ?_⟩
    rw [hlen]
    refine hrd.keep' (fun g l fz hn hg _ => f.keep _ _ hg (fun e => ?_))
    rcases e with e | e <;> subst e
    · rw [ga1] at hg; cases hg
    · rw [gd1] at hg; cases hg
  · rintro i w1 w2 ob hi hob ht q
    have := hi.frm.size
    exact hi.frm' (L := W.heap.size + 1) q (by omega) (by omega) (by omega) (fun l hl => by rw [hob] at hl; cases hl; cases ht)
  · intro j w1 w2 ob hf; exact hf.elim
  · rw [hlen]
    intro i hi w1 ob B hI ht hL hD kB _
    obtain ⟨f, va, vd, a1, a2, a3, a4, a5, a6, a7⟩ := hI
    rw [hcell i hi]
    dsimp only [List.headD_cons, List.tail_cons]
    have hx : p.held[i] ∈ p.held := List.getElem_mem hi
    have hfr0 := hr0.frs _ hx
    have lf := lt_of hfr0
    have hfr : w1.heap[(p.held[i]).2.blk]? = some (.cells [str (p.held[i]).2.bytes, int (p.held[i]).2.pins, .bool (p.held[i]).2.dirty].toArray T.pool_frame (0, 0)) := f.keep _ _ (q1.all hfr0) (fun e => by
      rcases e with e | e
      · have := lt_of (h.frs _ hx)
        omega
      · have := lt_of (h.frs _ hx)
        omega)
    obtain ⟨xa, na, rfl⟩ := a3.shape
    obtain ⟨xd, nd, rfl⟩ := a4.shape
    have ek : keysOf (p.held.take (i + 1)) = keysOf (p.held.take i) ++ [(p.held[i]).1] := by unfold keysOf; rw [take_snoc' hi, List.map_append]; rfl
    have ed := dirtyOf_snoc (p.held.take i) p.held[i]
    rw [← take_snoc' hi] at ed
    have hsz := f.size
    have hnT : ∀ g l, w1.heap[g]? = some (.cells l T.i64_2 (0, 0)) → g ≠ ca ∧ g ≠ cd ∧ g ≠ W.heap.size ∧ g ≠ W.heap.size + 1 := by
      intro g l hg
      refine ⟨fun e => ?_, fun e => ?_, fun e => ?_, fun e => ?_⟩ <;> subst e
      · rw [a1] at hg; cases hg
      · rw [a2] at hg; cases hg
      · rw [hD] at hg; cases hg
      · rw [hL] at hg; cases hg; cases ht
    have ba : ∀ g, (Value.slice xa i na).ownBlock = some g → g ≠ ca ∧ g ≠ cd ∧ g ≠ W.heap.size ∧ g ≠ W.heap.size + 1 := fun g hg => by
      obtain ⟨l, hl⟩ := a3.block hg
      exact hnT g _ hl
    have bd : ∀ g, (Value.slice xd (dirtyOf (p.held.take i)).length nd).ownBlock = some g → g ≠ ca ∧ g ≠ cd ∧ g ≠ W.heap.size ∧ g ≠ W.heap.size + 1 := fun g hg => by
      obtain ⟨l, hl⟩ := a4.block hg
      exact hnT g _ hl
    refine push_i a1 rfl (by decide) a3 (by omega) (fun va' w2 c1 o1 hb1 f1 => ?_)
    have hL2 := f1.keep _ _ hL (fun e => by rcases e with e | e; omega; exact (ba _ e).2.2.2 rfl)
    have hD2 := f1.keep _ _ hD (fun e => by rcases e with e | e; omega; exact (ba _ e).2.2.1 rfl)
    have a22 := f1.keep _ _ a2 (fun e => by rcases e with e | e; omega; exact (ba _ e).2.1 rfl)
    have hfr2 := f1.keep _ _ hfr (fun e => by
      rcases e with e | e
      · have := lt_of (h.frs _ hx); omega
      · have := a5 _ e; omega)
    have a42 : Own w2 T.i64_2 1 (.slice xd (dirtyOf (p.held.take i)).length nd) (dirtyOf (p.held.take i)).length (icells (dirtyOf (p.held.take i))) := a4.frm f1 (fun g l hg e => by
      rcases e with e | e
      · exact (bd _ hg).1 e
      · exact a7 _ e hg)
    have F2 : Frm (fun k _ => k = ca ∨ k = cd) W w2 := f.trans' f1 (fun g o hg hA e => by
      rcases e with e | e
      · exact hA (.inl e)
      · have := a5 _ e; have := lt_of hg; omega)
    have o1' : Own w2 T.i64_2 1 va' (i + 1) (icells (keysOf (p.held.take (i + 1)))) := by rw [ek]; exact o1
    have hv1 : ∀ g, va'.ownBlock = some g → W.heap.size ≤ g := fun g hg => by
      rcases hb1 g hg with e | e
      · exact a5 _ e
      · omega
    have hdis : ∀ g, va'.ownBlock = some g → (Value.slice xd (dirtyOf (p.held.take i)).length nd).ownBlock ≠ some g := fun g hg e' => by
      rcases hb1 g hg with e | e
      · exact a7 _ e e'
      · obtain ⟨l, hl⟩ := a4.block e'
        have := lt_of hl
        omega
    refine run_i (p_nil _) ?_
    refine run_i s_field ?_
    refine run_i (s_load (cellAt_l hfr2 rfl)) ?_
    cases hdy : (p.held[i]).2.dirty with
    | false =>
      rw [hdy] at ed
      refine cn_fi ?_
      have ed' : dirtyOf (p.held.take (i + 1)) = dirtyOf (p.held.take i) := by rw [ed]; simp
      exact kB _ ⟨F2, va', .slice xd (dirtyOf (p.held.take i)).length nd, c1, a22, o1', by rw [ed']; exact a42, hv1, a6, hdis⟩ hL2 hD2
    | true =>
      rw [hdy] at ed
      refine cn_ti ?_
      have ed' : dirtyOf (p.held.take (i + 1)) = dirtyOf (p.held.take i) ++ [(p.held[i]).1] := by rw [ed]; rfl
      have hdl : (dirtyOf (p.held.take i)).length ≤ i := by
        unfold dirtyOf
        rw [List.length_map]
        refine Nat.le_trans (List.length_filter_le _ _) ?_
        rw [List.length_take]; omega
      refine push_i (o := 0) a22 rfl (by decide) a42 (by omega) (fun vd' w3 c2 o2 hb2 f2 => ?_)
      have hnd := a42
      have b2 : ∀ g, (Value.slice xd (dirtyOf (p.held.take i)).length nd).ownBlock = some g → g ≠ ca ∧ g ≠ W.heap.size ∧ g ≠ W.heap.size + 1 ∧ va'.ownBlock ≠ some g := fun g hg => ⟨(bd g hg).1, (bd g hg).2.2.1, (bd g hg).2.2.2, fun e => hdis g e hg⟩
      have hsz2 := F2.size
      refine kB _ ⟨F2.trans' f2 (fun g o hg hA e => ?_), va', vd', f2.keep _ _ c1 (fun e => ?_), c2, o1'.frm f2 (fun g l hg e => ?_), ?_, hv1, fun g hg => ?_, fun g hg e => ?_⟩ (f2.keep _ _ hL2 (fun e => ?_)) (f2.keep _ _ hD2 (fun e => ?_))
      · rcases e with e | e
        · exact hA (.inr e)
        · have := a6 _ e; have := lt_of hg; omega
      · rcases e with e | e
        · omega
        · exact (b2 _ e).1 rfl
      · rcases e with e | e
        · obtain ⟨l2, hl2⟩ := o1'.block hg
          subst e
          rw [a22] at hl2
          cases hl2
        · exact hdis _ hg e
      · rw [ed', List.length_append]
        exact o2
      · rcases hb2 g hg with e | e
        · exact a6 _ e
        · omega
      · rcases hb2 g e with e' | e'
        · exact hdis _ hg e'
        · obtain ⟨l2, hl2⟩ := o1'.block hg
          have := lt_of hl2
          omega
      · rcases e with e | e
        · omega
        · exact (b2 _ e).2.2.1 rfl
      · rcases e with e | e
        · omega
        · exact (b2 _ e).2.1 rfl
  · intro w2 hI hD
    rw [hlen] at hI
    dsimp only [jumpN]
    exact fin _ hI hD
  · intro j w2 hf; exact hf.elim
end Go.Sx
end

section
/- Pools: pages go. -/
set_option linter.unusedVariables false
set_option linter.unusedSimpArgs false
set_option maxRecDepth 100000
namespace Go.Sx
open Go Go.RowKit
variable {K : Value → World → Prop} {w : World}

theorem own_ne {e e' size size' n n' : Nat} {v v' : Value} {xs xs' : List Value} (h : Own w e size v n xs) (h' : Own w e' size' v' n' xs') (hne : e ≠ e') {g : Nat} (hg : v.ownBlock = some g) : v'.ownBlock ≠ some g := by
  intro hg'
  obtain ⟨l, hl⟩ := h.block hg
  obtain ⟨l', hl'⟩ := h'.block hg'
  rw [hl] at hl'
  cases hl'
  exact hne rfl
theorem own_ne2 {e size n : Nat} {v : Value} {xs : List Value} {b : Nat} {c : List Value} {Ty : TypeId} (h : Own w e size v n xs) (hb : w.heap[b]? = some (.cells c.toArray Ty (0, 0))) (hne : e ≠ Ty) : v.ownBlock ≠ some b := by
  intro hg
  obtain ⟨l, hl⟩ := h.block hg
  rw [hl] at hb
  cases hb
  exact hne rfl

theorem PoolRep.keepFr {w1 : World} {b : Nat} {av fl hv uv : Value} {p : PoolS} (h : PoolRep w b av fl hv uv p) (f : Frm (omapA b hv) w w1) : ∀ x ∈ p.held, w1.heap[x.2.blk]? = some (.cells (fcells x.2).toArray T.pool_frame (0, 0)) := by
  intro x hx
  have hf := h.frs x hx
  refine f.keep _ _ hf ?_
  rintro (e | e)
  · have := h.map.at_
    rw [← e, hf] at this
    have h2 : T.pool_frame = T.pool_Pool := by injection this with h1; injection h1
    exact absurd h2 (by decide)
  · exact own_ne2 h.map.own hf (by decide) e

theorem PoolRep.afterMap {w1 : World} {b : Nat} {av fl hv uv hv1 : Value} {p : PoolS} {held1 : List (Int × Frame1)} (h : PoolRep w b av fl hv uv p) (m : MapAt w1 b 3 (pcell av fl hv1 uv p) T.pool_Pool hv1 (ptrs held1)) (f : Frm (omapA b hv) w w1)
    (hfr : ∀ x ∈ held1, w1.heap[x.2.blk]? = some (.cells (fcells x.2).toArray T.pool_frame (0, 0))) (hu : ∀ x ∈ held1, ∀ y ∈ held1, x.2.blk = y.2.blk → x.1 = y.1) : PoolRep w1 b av fl hv1 uv { p with held := held1 } := by
  refine ⟨m, ⟨m.at_, rfl, by decide, ?_, h.list.few⟩, hfr, hu⟩
  refine h.list.own.frm f (fun g l hg => ?_)
  rintro (e | e)
  · subst e; exact h.list.ne hg
  · exact own_ne h.list.own h.map.own (by decide) hg e

theorem PoolRep.afterList {w1 : World} {b : Nat} {av fl hv uv uv1 : Value} {p : PoolS} {used1 : List Int} (h : PoolRep w b av fl hv uv p) (m : ListAt w1 b 4 (pcell av fl hv uv1 p) T.pool_Pool uv1 used1) (f : Frm (omapA b uv) w w1) : PoolRep w1 b av fl hv uv1 { p with used := used1 } := by
  refine ⟨⟨m.at_, rfl, by decide, ?_, h.map.sorted, h.map.one, h.map.few⟩, m, ?_, h.uniq⟩
  · refine h.map.own.frm f (fun g l hg => ?_)
    rintro (e | e)
    · subst e; exact h.map.ne hg
    · exact own_ne h.map.own h.list.own (by decide) hg e
  · intro x hx
    have hf := h.frs x hx
    refine f.keep _ _ hf ?_
    rintro (e | e)
    · have := h.map.at_
      rw [← e, hf] at this
      have h2 : T.pool_frame = T.pool_Pool := by injection this with h1; injection h1
      exact absurd h2 (by decide)
    · exact own_ne2 h.list.own hf (by decide) e

theorem PoolRep.frmMap {w1 : World} {b : Nat} {av fl hv uv : Value} {p : PoolS} (h : PoolRep w b av fl hv uv p) (f : Frm (omapA b hv) w w1) : Frm (poolA uv) w w1 := by
  refine f.mono (fun k o hk ha => ?_)
  rcases ha with e | e
  · have := h.map.at_
    rw [← e, hk] at this
    cases this
    exact .inl rfl
  · obtain ⟨l, hl⟩ := h.map.own.block e
    rw [hk] at hl
    cases hl
    exact .inr (.inr (.inl rfl))
theorem PoolRep.frmList {w1 : World} {b : Nat} {av fl hv uv : Value} {p : PoolS} (h : PoolRep w b av fl hv uv p) (f : Frm (omapA b uv) w w1) : Frm (poolA uv) w w1 := by
  refine f.mono (fun k o hk ha => ?_)
  rcases ha with e | e
  · have := h.map.at_
    rw [← e, hk] at this
    cases this
    exact .inl rfl
  · exact .inr (.inr (.inr e))

def delF (h : List (Int × Frame1)) (n : Int) : List (Int × Frame1) := h.filter fun x => !decide (x.1 = n)

theorem erase_del {h : List (Int × Frame1)} (hs : Sorted (ptrs h)) {i : Nat} {n : Int} (hi : i < h.length) (he : (h[i]).1 = n) : h.eraseIdx i = delF h n := by
  have e : h = h.take i ++ h[i] :: h.drop (i + 1) := by simp
  have k1 : ∀ x ∈ h.take i, x.1 ≠ n := by
    intro x hx hn
    obtain ⟨j, hj, rfl⟩ := List.mem_iff_getElem.1 hx
    rw [List.length_take] at hj
    rw [List.getElem_take] at hn
    have := hs j i (by omega) (by rw [ptrs_len]; exact hi)
    simp only [ptrs, List.getElem_map] at this
    omega
  have k2 : ∀ x ∈ h.drop (i + 1), x.1 ≠ n := by
    intro x hx hn
    obtain ⟨j, hj, rfl⟩ := List.mem_iff_getElem.1 hx
    rw [List.length_drop] at hj
    rw [List.getElem_drop] at hn
    have := hs i (i + 1 + j) (by omega) (by rw [ptrs_len]; omega)
    simp only [ptrs, List.getElem_map] at this
    omega
  rw [List.eraseIdx_eq_take_drop_succ]
  unfold delF
  conv => rhs; rw [e]
  rw [List.filter_append, List.filter_cons]
  simp only [he, decide_true, Bool.not_true]
  rw [List.filter_eq_self.2 (fun x hx => by simpa using k1 x hx), if_neg (by simp), List.filter_eq_self.2 (fun x hx => by simpa using k2 x hx)]

end Go.Sx
end

section
/- Covers: what may move. -/
set_option linter.unusedVariables false
set_option linter.unusedSimpArgs false
set_option maxRecDepth 100000
namespace Go.Sx
open Go Go.RowKit

/-- A cover of blocks. -/
abbrev Cov := Nat → Prop

/-- The heap moves within a cover, which takes in nothing old. -/
structure Mv (w : World) (E : Cov) (w' : World) (E' : Cov) : Prop where
  frm : Frm (fun k _ => E k) w w'
  grow : ∀ k, E' k → E k ∨ w.heap.size ≤ k

section
variable {w w1 w2 : World} {E E1 E2 F : Cov}
theorem Mv.refl : Mv w E w E := ⟨.refl _, fun _ h => .inl h⟩
theorem Mv.trans (h : Mv w E w1 E1) (h' : Mv w1 E1 w2 E2) : Mv w E w2 E2 :=
  ⟨h.frm.trans' h'.frm fun k o hk hn hE => (h.grow k hE).elim hn fun hs => by have := lt_of hk; omega,
   fun k hE => (h'.grow k hE).elim (fun h1 => h.grow k h1) fun hs => .inr (by have := h.frm.size; omega)⟩
theorem Mv.of_qt (h : Qt w w1) : Mv w E w1 E := ⟨.of_qt h, fun _ h => .inl h⟩
theorem Mv.frmx (h : Frm (fun k _ => E k) w w1) : Mv w E w1 E := ⟨h, fun _ h => .inl h⟩
/-- what is not covered stays, uncovered. -/
theorem Mv.keep (h : Mv w E w1 E1) {k : Nat} {o : Obj} (hk : w.heap[k]? = some o) (hE : ¬ E k) : w1.heap[k]? = some o := h.frm.keep _ _ hk hE
theorem Mv.out (h : Mv w E w1 E1) {k : Nat} (hk : k < w.heap.size) (hE : ¬ E k) : ¬ E1 k := fun h1 => (h.grow k h1).elim hE fun hs => by omega
theorem Mv.size (h : Mv w E w1 E1) : w.heap.size ≤ w1.heap.size := h.frm.size
theorem Mv.le (h : Mv w E w1 E1) (hF : ∀ k, E k → F k) : Frm (fun k _ => F k) w w1 := h.frm.mono fun k o _ hE => hF k hE
/-- beside something else that stays -/
theorem Mv.left (h : Mv w E w1 E1) : Mv w (fun k => E k ∨ F k) w1 (fun k => E1 k ∨ F k) :=
  ⟨h.frm.mono fun k o _ hE => .inl hE, fun k h1 => h1.elim (fun h1 => (h.grow k h1).imp .inl id) (fun h1 => .inl (.inr h1))⟩
theorem Mv.right (h : Mv w E w1 E1) : Mv w (fun k => F k ∨ E k) w1 (fun k => F k ∨ E1 k) :=
  ⟨h.frm.mono fun k o _ hE => .inr hE, fun k h1 => h1.elim (fun h1 => .inl (.inl h1)) (fun h1 => (h.grow k h1).imp .inr id)⟩
theorem Mv.congr {E' E1' : Cov} (h : Mv w E w1 E1) (h0 : ∀ k, E k ↔ E' k) (h1 : ∀ k, E1 k ↔ E1' k) : Mv w E' w1 E1' :=
  ⟨h.frm.mono fun k o _ hE => (h0 k).1 hE, fun k hk => (h.grow k ((h1 k).2 hk)).imp (h0 k).1 id⟩
/-- in the end nothing old has moved -/
theorem Mv.done (h : Mv w1 E w2 E2) (q : Qt w w1) (hE : ∀ k, E k → w.heap.size ≤ k) : Qt w w2 :=
  q.trans' h.frm fun k o hk _ h1 => by have := hE k h1; have := lt_of hk; omega
theorem Own.mv {e size n : Nat} {v : Value} {xs : List Value} (h : Own w e size v n xs) (m : Mv w E w1 E1) (hE : ∀ g, v.ownBlock = some g → ¬ E g) : Own w1 e size v n xs :=
  h.keep fun g l hg hl => m.keep hl (hE g hg)
theorem Rd.mv {e size n : Nat} {v : Value} {xs : List Value} (h : Rd w e size v n xs) (m : Mv w E w1 E1) (hE : ∀ g o n cap, v = .slice (some ⟨g, o, none⟩) n cap → ¬ E g) : Rd w1 e size v n xs :=
  h.keep' fun g l fz hn hl ⟨o, cap, hv⟩ => m.keep hl (hE _ _ _ _ hv)
theorem Glob.mv (h : Glob w) (m : Mv w E w1 E1) (hE : ¬ E 0) : Glob w1 := by
  obtain ⟨fz, h⟩ := h; exact ⟨fz, m.keep h hE⟩
end
end Go.Sx
end
