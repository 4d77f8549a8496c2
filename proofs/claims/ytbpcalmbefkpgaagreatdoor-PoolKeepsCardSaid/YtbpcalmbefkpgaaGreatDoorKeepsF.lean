/- Part 6 of the proof: ZP, SxCl, SxCm, SxL1, SxHale, SxKeep, ZN, SxRef9, ZE, SxBld, SxEnc, SxEnc2, SxEnc3, SxL3, SxL4. -/
import Derived.Lib.AppendStr
import Derived.Lib.UnsafeStr
import Derived.Lib.Builder
import Derived.Test.YtbpcalmbefkpgaaGreatDoorKeepsA
import Derived.Test.YtbpcalmbefkpgaaGreatDoorKeepsB
import Derived.Test.YtbpcalmbefkpgaaGreatDoorKeepsC
import Derived.Test.YtbpcalmbefkpgaaGreatDoorKeepsD
import Derived.Test.YtbpcalmbefkpgaaGreatDoorKeepsE
set_option linter.unusedVariables false
set_option linter.unusedSimpArgs false

section
set_option maxRecDepth 100000
set_option linter.unusedVariables false
namespace Go.Sx
open Go
/-- concordance/concordancelaw10.PoolPins -/
noncomputable def concordancelaw10_PoolPins_body : Code := (Go.Proofs.Tryz.f3.body).getD .skip

def concordancelaw10_PoolPins_g4 (K : Value → World → Prop) (ds : List Deferred) (x123 : Value) (x126 : Value) (w : World) : Prop :=
  pickV x123 x126 (.bool false) (fun t127_1 w =>
  leaveW Pg ds (fun w => K t127_1 w) w) w

theorem concordancelaw10_PoolPins_g4_eq (K : Value → World → Prop) : opsG (op1W Pg) (rOps (cL (cR (cR (cR (cR (cR (cR (cR (cR concordancelaw10_PoolPins_body)))))))))).toList ((groups (rOps (cL (cR (cR (cR (cR (cR (cR (cR (cR concordancelaw10_PoolPins_body)))))))))).toList).drop 6) 17 (W Pg (cR (cR (cR (cR (cR (cR (cR (cR (cR concordancelaw10_PoolPins_body))))))))) false (retQ Pg [.tmp 4] K)) = (fun s w => concordancelaw10_PoolPins_g4 K s.ds (s.f 123) (s.f 126) w) :=
  by kernel_rfl

def concordancelaw10_PoolPins_g3 (K : Value → World → Prop) (ds : List Deferred) (x9 : Value) (x118 : Value) (x121 : Value) (w : World) : Prop :=
  pickV x118 x121 (.bool false) (fun t122_2 w =>
  gcond t122_2 true (
  call Pg F.pool_Pool_Has [x9, (.int .i64 0)] (fun t125_3 w =>
  run Pg (Op.unary .not t125_3) (fun t126_4 w =>
  concordancelaw10_PoolPins_g4 K ds t122_2 t126_4 w) w) w) (
  concordancelaw10_PoolPins_g4 K ds t122_2 undef w)) w

theorem concordancelaw10_PoolPins_g3_eq (K : Value → World → Prop) : opsG (op1W Pg) (rOps (cL (cR (cR (cR (cR (cR (cR (cR (cR concordancelaw10_PoolPins_body)))))))))).toList ((groups (rOps (cL (cR (cR (cR (cR (cR (cR (cR (cR concordancelaw10_PoolPins_body)))))))))).toList).drop 4) 12 (W Pg (cR (cR (cR (cR (cR (cR (cR (cR (cR concordancelaw10_PoolPins_body))))))))) false (retQ Pg [.tmp 4] K)) = (fun s w => concordancelaw10_PoolPins_g3 K s.ds (s.f 9) (s.f 118) (s.f 121) w) :=
  Eq.trans (eqPlain (eqGrd (concordancelaw10_PoolPins_g4_eq K))) (by kernel_rfl)

def concordancelaw10_PoolPins_g2 (K : Value → World → Prop) (ds : List Deferred) (x9 : Value) (x113 : Value) (x116 : Value) (w : World) : Prop :=
  pickV x113 x116 (.bool false) (fun t117_5 w =>
  gcond t117_5 true (
  call Pg F.pool_Pool_Evict [x9, (.int .i64 0)] (fun t120_6 w =>
  run Pg (binS .eql 25 true t120_6 (.int .i64 0)) (fun t121_7 w =>
  concordancelaw10_PoolPins_g3 K ds x9 t117_5 t121_7 w) w) w) (
  concordancelaw10_PoolPins_g3 K ds x9 t117_5 undef w)) w

theorem concordancelaw10_PoolPins_g2_eq (K : Value → World → Prop) : opsG (op1W Pg) (rOps (cL (cR (cR (cR (cR (cR (cR (cR (cR concordancelaw10_PoolPins_body)))))))))).toList ((groups (rOps (cL (cR (cR (cR (cR (cR (cR (cR (cR concordancelaw10_PoolPins_body)))))))))).toList).drop 2) 7 (W Pg (cR (cR (cR (cR (cR (cR (cR (cR (cR concordancelaw10_PoolPins_body))))))))) false (retQ Pg [.tmp 4] K)) = (fun s w => concordancelaw10_PoolPins_g2 K s.ds (s.f 9) (s.f 113) (s.f 116) w) :=
  Eq.trans (eqPlain (eqGrd (concordancelaw10_PoolPins_g3_eq K))) (by kernel_rfl)

def concordancelaw10_PoolPins_j1 (K : Value → World → Prop) (ds : List Deferred) (x9 : Value) (w : World) : Prop :=
  call Pg F.pool_Pool_Unpin [x9, (.int .i64 0)] (fun t111_8 w =>
  run Pg (binS .eql 25 true t111_8 (.int .i64 0)) (fun t112_9 w =>
  gcond t112_9 true (
  call Pg F.pool_Pool_Unpin [x9, (.int .i64 0)] (fun t115_10 w =>
  run Pg (binS .eql 25 true t115_10 (.int .i64 17)) (fun t116_11 w =>
  concordancelaw10_PoolPins_g2 K ds x9 t112_9 t116_11 w) w) w) (
  concordancelaw10_PoolPins_g2 K ds x9 t112_9 undef w)) w) w

theorem concordancelaw10_PoolPins_j1_eq (K : Value → World → Prop) : W Pg (cR (cR (cR (cR (cR (cR (cR (cR concordancelaw10_PoolPins_body)))))))) false (retQ Pg [.tmp 4] K) = (fun s w => concordancelaw10_PoolPins_j1 K s.ds (s.f 9) w) :=
  Eq.trans (eqSeqL (eqReg (rd := false) (id := 22) (ops := rOps (cL (cR (cR (cR (cR (cR (cR (cR (cR concordancelaw10_PoolPins_body)))))))))) (by kernel_rfl) (eqPlain (eqGrd (concordancelaw10_PoolPins_g2_eq K))))) (by kernel_rfl)

def concordancelaw10_PoolPins_g10 (K : Value → World → Prop) (X1 : List Deferred × Value × Value × Value × Value → World → Prop) (ds : List Deferred) (x0 : Value) (x1 : Value) (x9 : Value) (x13 : Value) (x105 : Value) (x108 : Value) (w : World) : Prop :=
  pickV x105 (.bool true) x108 (fun t109_12 w =>
  cnd t109_12 (
  leaveW Pg ds (fun w => K (.bool false) w) w) (
  run Pg (binS .add 3 true x13 (.int .i64 1)) (fun t55_13 w =>
  X1 (ds, x0, x1, x9, t55_13) w) w)) w

theorem concordancelaw10_PoolPins_g10_eq (K : Value → World → Prop) (X1 : List Deferred × Value × Value × Value × Value → World → Prop) : opsG (op1W Pg) (rOps (cL (cR (cR (cR (cR (cR (cB (cL (cR (cB (cB (cR (cL (cR (cR (cR (cR (cR (cR (cR concordancelaw10_PoolPins_body))))))))))))))))))))).toList ((groups (rOps (cL (cR (cR (cR (cR (cR (cB (cL (cR (cB (cB (cR (cL (cR (cR (cR (cR (cR (cR (cR concordancelaw10_PoolPins_body))))))))))))))))))))).toList).drop 4) 13 (W Pg (cR (cR (cR (cR (cR (cR (cB (cL (cR (cB (cB (cR (cL (cR (cR (cR (cR (cR (cR (cR concordancelaw10_PoolPins_body)))))))))))))))))))) false (blockP 1 (thenP (W Pg (cR (cR (cB (cB (cR (cL (cR (cR (cR (cR (cR (cR (cR concordancelaw10_PoolPins_body))))))))))))) false (thenP (fun s w => X1 (s.ds, s.f 0, s.f 1, s.f 9, s.f 13) w) (blockP 0 (thenP (fun s w => concordancelaw10_PoolPins_j1 K s.ds (s.f 9) w) (retQ Pg [.tmp 4] K))))) (thenP (fun s w => X1 (s.ds, s.f 0, s.f 1, s.f 9, s.f 13) w) (blockP 0 (thenP (fun s w => concordancelaw10_PoolPins_j1 K s.ds (s.f 9) w) (retQ Pg [.tmp 4] K))))))) = (fun s w => concordancelaw10_PoolPins_g10 K X1 s.ds (s.f 0) (s.f 1) (s.f 9) (s.f 13) (s.f 105) (s.f 108) w) :=
  by kernel_rfl

def concordancelaw10_PoolPins_g9 (K : Value → World → Prop) (X1 : List Deferred × Value × Value × Value × Value → World → Prop) (ds : List Deferred) (x0 : Value) (x1 : Value) (x9 : Value) (x13 : Value) (x99 : Value) (x103 : Value) (w : World) : Prop :=
  pickV x99 (.bool true) x103 (fun t104_14 w =>
  gcond t104_14 false (
  call Pg F.pool_Pool_Evict [x9, (.int .i64 0)] (fun t107_15 w =>
  run Pg (binS .neq 25 true t107_15 (.int .i64 10)) (fun t108_16 w =>
  concordancelaw10_PoolPins_g10 K X1 ds x0 x1 x9 x13 t104_14 t108_16 w) w) w) (
  concordancelaw10_PoolPins_g10 K X1 ds x0 x1 x9 x13 t104_14 undef w)) w

theorem concordancelaw10_PoolPins_g9_eq (K : Value → World → Prop) (X1 : List Deferred × Value × Value × Value × Value → World → Prop) : opsG (op1W Pg) (rOps (cL (cR (cR (cR (cR (cR (cB (cL (cR (cB (cB (cR (cL (cR (cR (cR (cR (cR (cR (cR concordancelaw10_PoolPins_body))))))))))))))))))))).toList ((groups (rOps (cL (cR (cR (cR (cR (cR (cB (cL (cR (cB (cB (cR (cL (cR (cR (cR (cR (cR (cR (cR concordancelaw10_PoolPins_body))))))))))))))))))))).toList).drop 2) 8 (W Pg (cR (cR (cR (cR (cR (cR (cB (cL (cR (cB (cB (cR (cL (cR (cR (cR (cR (cR (cR (cR concordancelaw10_PoolPins_body)))))))))))))))))))) false (blockP 1 (thenP (W Pg (cR (cR (cB (cB (cR (cL (cR (cR (cR (cR (cR (cR (cR concordancelaw10_PoolPins_body))))))))))))) false (thenP (fun s w => X1 (s.ds, s.f 0, s.f 1, s.f 9, s.f 13) w) (blockP 0 (thenP (fun s w => concordancelaw10_PoolPins_j1 K s.ds (s.f 9) w) (retQ Pg [.tmp 4] K))))) (thenP (fun s w => X1 (s.ds, s.f 0, s.f 1, s.f 9, s.f 13) w) (blockP 0 (thenP (fun s w => concordancelaw10_PoolPins_j1 K s.ds (s.f 9) w) (retQ Pg [.tmp 4] K))))))) = (fun s w => concordancelaw10_PoolPins_g9 K X1 s.ds (s.f 0) (s.f 1) (s.f 9) (s.f 13) (s.f 99) (s.f 103) w) :=
  Eq.trans (eqPlain (eqGrd (concordancelaw10_PoolPins_g10_eq K X1))) (by kernel_rfl)

def concordancelaw10_PoolPins_j8 (K : Value → World → Prop) (X1 : List Deferred × Value × Value × Value × Value → World → Prop) (ds : List Deferred) (x0 : Value) (x1 : Value) (x9 : Value) (x13 : Value) (w : World) : Prop :=
  call Pg F.pool_Pool_Held [x9] (fun t93_17 w =>
  run Pg (Instr.extract t93_17 0) (fun t94_18 w =>
  run Pg (Instr.extract t93_17 1) (fun t95_19 w =>
  call Pg F.pool_Pool_Has [x9, (.int .i64 0)] (fun t97_20 w =>
  run Pg (Op.unary .not t97_20) (fun t98_21 w =>
  gcond t98_21 false (
  run Pg (Builtin.len_ #[22] 3 #[t94_18]) (fun t101_22 w =>
  run Pg (binS .gtr 3 false t101_22 x1) (fun t103_23 w =>
  concordancelaw10_PoolPins_g9 K X1 ds x0 x1 x9 x13 t98_21 t103_23 w) w) w) (
  concordancelaw10_PoolPins_g9 K X1 ds x0 x1 x9 x13 t98_21 undef w)) w) w) w) w) w

theorem concordancelaw10_PoolPins_j8_eq (K : Value → World → Prop) (X1 : List Deferred × Value × Value × Value × Value → World → Prop) : W Pg (cR (cR (cR (cR (cB (cL (cR (cB (cB (cR (cL (cR (cR (cR (cR (cR (cR (cR concordancelaw10_PoolPins_body)))))))))))))))))) false (blockP 1 (thenP (W Pg (cR (cR (cB (cB (cR (cL (cR (cR (cR (cR (cR (cR (cR concordancelaw10_PoolPins_body))))))))))))) false (thenP (fun s w => X1 (s.ds, s.f 0, s.f 1, s.f 9, s.f 13) w) (blockP 0 (thenP (fun s w => concordancelaw10_PoolPins_j1 K s.ds (s.f 9) w) (retQ Pg [.tmp 4] K))))) (thenP (fun s w => X1 (s.ds, s.f 0, s.f 1, s.f 9, s.f 13) w) (blockP 0 (thenP (fun s w => concordancelaw10_PoolPins_j1 K s.ds (s.f 9) w) (retQ Pg [.tmp 4] K)))))) = (fun s w => concordancelaw10_PoolPins_j8 K X1 s.ds (s.f 0) (s.f 1) (s.f 9) (s.f 13) w) :=
  Eq.trans (eqSeq (eqSeqL (eqReg (rd := false) (id := 20) (ops := rOps (cL (cR (cR (cR (cR (cR (cB (cL (cR (cB (cB (cR (cL (cR (cR (cR (cR (cR (cR (cR concordancelaw10_PoolPins_body))))))))))))))))))))) (by kernel_rfl) (eqPlain (eqGrd (concordancelaw10_PoolPins_g9_eq K X1)))))) (by kernel_rfl)

def concordancelaw10_PoolPins_g11 (K : Value → World → Prop) (X1 : List Deferred × Value × Value × Value × Value → World → Prop) (ds : List Deferred) (x0 : Value) (x1 : Value) (x9 : Value) (x13 : Value) (x85 : Value) (x89 : Value) (w : World) : Prop :=
  pickV x85 x89 (.bool false) (fun t90_24 w =>
  cnd t90_24 (
  leaveW Pg ds (fun w => K (.bool false) w) w) (
  concordancelaw10_PoolPins_j8 K X1 ds x0 x1 x9 x13 w)) w

theorem concordancelaw10_PoolPins_g11_eq (K : Value → World → Prop) (X1 : List Deferred × Value × Value × Value × Value → World → Prop) : opsG (op1W Pg) (rOps (cL (cL (cR (cR (cR (cB (cL (cR (cB (cB (cR (cL (cR (cR (cR (cR (cR (cR (cR concordancelaw10_PoolPins_body)))))))))))))))))))).toList ((groups (rOps (cL (cL (cR (cR (cR (cB (cL (cR (cB (cB (cR (cL (cR (cR (cR (cR (cR (cR (cR concordancelaw10_PoolPins_body)))))))))))))))))))).toList).drop 2) 7 (W Pg (cR (cL (cR (cR (cR (cB (cL (cR (cB (cB (cR (cL (cR (cR (cR (cR (cR (cR (cR concordancelaw10_PoolPins_body))))))))))))))))))) false (thenP (fun s w => concordancelaw10_PoolPins_j8 K X1 s.ds (s.f 0) (s.f 1) (s.f 9) (s.f 13) w) (blockP 1 (thenP (W Pg (cR (cR (cB (cB (cR (cL (cR (cR (cR (cR (cR (cR (cR concordancelaw10_PoolPins_body))))))))))))) false (thenP (fun s w => X1 (s.ds, s.f 0, s.f 1, s.f 9, s.f 13) w) (blockP 0 (thenP (fun s w => concordancelaw10_PoolPins_j1 K s.ds (s.f 9) w) (retQ Pg [.tmp 4] K))))) (thenP (fun s w => X1 (s.ds, s.f 0, s.f 1, s.f 9, s.f 13) w) (blockP 0 (thenP (fun s w => concordancelaw10_PoolPins_j1 K s.ds (s.f 9) w) (retQ Pg [.tmp 4] K)))))))) = (fun s w => concordancelaw10_PoolPins_g11 K X1 s.ds (s.f 0) (s.f 1) (s.f 9) (s.f 13) (s.f 85) (s.f 89) w) :=
  by kernel_rfl

def concordancelaw10_PoolPins_j7 (K : Value → World → Prop) (X1 : List Deferred × Value × Value × Value × Value → World → Prop) (ds : List Deferred) (x0 : Value) (x1 : Value) (x9 : Value) (x13 : Value) (x14 : Value) (x16 : Value) (w : World) : Prop :=
  run Pg (binS .eql 25 true x16 (.int .i64 0)) (fun t84_25 w =>
  gcond t84_25 true (
  call Pg F.pool_Pool_Unpin [x9, x14] (fun t88_26 w =>
  run Pg (binS .neq 25 true t88_26 (.int .i64 0)) (fun t89_27 w =>
  concordancelaw10_PoolPins_g11 K X1 ds x0 x1 x9 x13 t84_25 t89_27 w) w) w) (
  concordancelaw10_PoolPins_g11 K X1 ds x0 x1 x9 x13 t84_25 undef w)) w

theorem concordancelaw10_PoolPins_j7_eq (K : Value → World → Prop) (X1 : List Deferred × Value × Value × Value × Value → World → Prop) : W Pg (cR (cR (cR (cB (cL (cR (cB (cB (cR (cL (cR (cR (cR (cR (cR (cR (cR concordancelaw10_PoolPins_body))))))))))))))))) false (blockP 1 (thenP (W Pg (cR (cR (cB (cB (cR (cL (cR (cR (cR (cR (cR (cR (cR concordancelaw10_PoolPins_body))))))))))))) false (thenP (fun s w => X1 (s.ds, s.f 0, s.f 1, s.f 9, s.f 13) w) (blockP 0 (thenP (fun s w => concordancelaw10_PoolPins_j1 K s.ds (s.f 9) w) (retQ Pg [.tmp 4] K))))) (thenP (fun s w => X1 (s.ds, s.f 0, s.f 1, s.f 9, s.f 13) w) (blockP 0 (thenP (fun s w => concordancelaw10_PoolPins_j1 K s.ds (s.f 9) w) (retQ Pg [.tmp 4] K)))))) = (fun s w => concordancelaw10_PoolPins_j7 K X1 s.ds (s.f 0) (s.f 1) (s.f 9) (s.f 13) (s.f 14) (s.f 16) w) :=
  Eq.trans ((eqSeq (concordancelaw10_PoolPins_j8_eq K X1)).trans (eqSeqL (eqReg (rd := false) (id := 17) (ops := rOps (cL (cL (cR (cR (cR (cB (cL (cR (cB (cB (cR (cL (cR (cR (cR (cR (cR (cR (cR concordancelaw10_PoolPins_body)))))))))))))))))))) (by kernel_rfl) (eqPlain (eqGrd (concordancelaw10_PoolPins_g11_eq K X1)))))) (by kernel_rfl)

def concordancelaw10_PoolPins_g14 (K : Value → World → Prop) (X1 : List Deferred × Value × Value × Value × Value → World → Prop) (ds : List Deferred) (x0 : Value) (x1 : Value) (x9 : Value) (x13 : Value) (x14 : Value) (x16 : Value) (x75 : Value) (x81 : Value) (w : World) : Prop :=
  pickV x75 (.bool true) x81 (fun t82_28 w =>
  cnd t82_28 (
  leaveW Pg ds (fun w => K (.bool false) w) w) (
  concordancelaw10_PoolPins_j7 K X1 ds x0 x1 x9 x13 x14 x16 w)) w

theorem concordancelaw10_PoolPins_g14_eq (K : Value → World → Prop) (X1 : List Deferred × Value × Value × Value × Value → World → Prop) : opsG (op1W Pg) (rOps (cL (cL (cR (cR (cB (cL (cR (cB (cB (cR (cL (cR (cR (cR (cR (cR (cR (cR concordancelaw10_PoolPins_body))))))))))))))))))).toList ((groups (rOps (cL (cL (cR (cR (cB (cL (cR (cB (cB (cR (cL (cR (cR (cR (cR (cR (cR (cR concordancelaw10_PoolPins_body))))))))))))))))))).toList).drop 4) 12 (W Pg (cR (cL (cR (cR (cB (cL (cR (cB (cB (cR (cL (cR (cR (cR (cR (cR (cR (cR concordancelaw10_PoolPins_body)))))))))))))))))) false (thenP (fun s w => concordancelaw10_PoolPins_j7 K X1 s.ds (s.f 0) (s.f 1) (s.f 9) (s.f 13) (s.f 14) (s.f 16) w) (blockP 1 (thenP (W Pg (cR (cR (cB (cB (cR (cL (cR (cR (cR (cR (cR (cR (cR concordancelaw10_PoolPins_body))))))))))))) false (thenP (fun s w => X1 (s.ds, s.f 0, s.f 1, s.f 9, s.f 13) w) (blockP 0 (thenP (fun s w => concordancelaw10_PoolPins_j1 K s.ds (s.f 9) w) (retQ Pg [.tmp 4] K))))) (thenP (fun s w => X1 (s.ds, s.f 0, s.f 1, s.f 9, s.f 13) w) (blockP 0 (thenP (fun s w => concordancelaw10_PoolPins_j1 K s.ds (s.f 9) w) (retQ Pg [.tmp 4] K)))))))) = (fun s w => concordancelaw10_PoolPins_g14 K X1 s.ds (s.f 0) (s.f 1) (s.f 9) (s.f 13) (s.f 14) (s.f 16) (s.f 75) (s.f 81) w) :=
  by kernel_rfl

def concordancelaw10_PoolPins_g13 (K : Value → World → Prop) (X1 : List Deferred × Value × Value × Value × Value → World → Prop) (ds : List Deferred) (x0 : Value) (x1 : Value) (x9 : Value) (x13 : Value) (x14 : Value) (x16 : Value) (x75 : Value) (x78 : Value) (x80 : Value) (w : World) : Prop :=
  gcond x75 false (
  pickV x78 x80 (.bool false) (fun t81_29 w =>
  concordancelaw10_PoolPins_g14 K X1 ds x0 x1 x9 x13 x14 x16 x75 t81_29 w) w) (
  concordancelaw10_PoolPins_g14 K X1 ds x0 x1 x9 x13 x14 x16 x75 undef w)

theorem concordancelaw10_PoolPins_g13_eq (K : Value → World → Prop) (X1 : List Deferred × Value × Value × Value × Value → World → Prop) : opsG (op1W Pg) (rOps (cL (cL (cR (cR (cB (cL (cR (cB (cB (cR (cL (cR (cR (cR (cR (cR (cR (cR concordancelaw10_PoolPins_body))))))))))))))))))).toList ((groups (rOps (cL (cL (cR (cR (cB (cL (cR (cB (cB (cR (cL (cR (cR (cR (cR (cR (cR (cR concordancelaw10_PoolPins_body))))))))))))))))))).toList).drop 3) 11 (W Pg (cR (cL (cR (cR (cB (cL (cR (cB (cB (cR (cL (cR (cR (cR (cR (cR (cR (cR concordancelaw10_PoolPins_body)))))))))))))))))) false (thenP (fun s w => concordancelaw10_PoolPins_j7 K X1 s.ds (s.f 0) (s.f 1) (s.f 9) (s.f 13) (s.f 14) (s.f 16) w) (blockP 1 (thenP (W Pg (cR (cR (cB (cB (cR (cL (cR (cR (cR (cR (cR (cR (cR concordancelaw10_PoolPins_body))))))))))))) false (thenP (fun s w => X1 (s.ds, s.f 0, s.f 1, s.f 9, s.f 13) w) (blockP 0 (thenP (fun s w => concordancelaw10_PoolPins_j1 K s.ds (s.f 9) w) (retQ Pg [.tmp 4] K))))) (thenP (fun s w => X1 (s.ds, s.f 0, s.f 1, s.f 9, s.f 13) w) (blockP 0 (thenP (fun s w => concordancelaw10_PoolPins_j1 K s.ds (s.f 9) w) (retQ Pg [.tmp 4] K)))))))) = (fun s w => concordancelaw10_PoolPins_g13 K X1 s.ds (s.f 0) (s.f 1) (s.f 9) (s.f 13) (s.f 14) (s.f 16) (s.f 75) (s.f 78) (s.f 80) w) :=
  Eq.trans (eqGrd (concordancelaw10_PoolPins_g14_eq K X1)) (by kernel_rfl)

def concordancelaw10_PoolPins_g12 (K : Value → World → Prop) (X1 : List Deferred × Value × Value × Value × Value → World → Prop) (ds : List Deferred) (x0 : Value) (x1 : Value) (x9 : Value) (x13 : Value) (x14 : Value) (x16 : Value) (x75 : Value) (x78 : Value) (w : World) : Prop :=
  gcond x78 true (
  run Pg (binS .neq 25 true x16 (.int .i64 10)) (fun t80_30 w =>
  concordancelaw10_PoolPins_g13 K X1 ds x0 x1 x9 x13 x14 x16 x75 x78 t80_30 w) w) (
  concordancelaw10_PoolPins_g13 K X1 ds x0 x1 x9 x13 x14 x16 x75 x78 undef w)

theorem concordancelaw10_PoolPins_g12_eq (K : Value → World → Prop) (X1 : List Deferred × Value × Value × Value × Value → World → Prop) : opsG (op1W Pg) (rOps (cL (cL (cR (cR (cB (cL (cR (cB (cB (cR (cL (cR (cR (cR (cR (cR (cR (cR concordancelaw10_PoolPins_body))))))))))))))))))).toList ((groups (rOps (cL (cL (cR (cR (cB (cL (cR (cB (cB (cR (cL (cR (cR (cR (cR (cR (cR (cR concordancelaw10_PoolPins_body))))))))))))))))))).toList).drop 2) 9 (W Pg (cR (cL (cR (cR (cB (cL (cR (cB (cB (cR (cL (cR (cR (cR (cR (cR (cR (cR concordancelaw10_PoolPins_body)))))))))))))))))) false (thenP (fun s w => concordancelaw10_PoolPins_j7 K X1 s.ds (s.f 0) (s.f 1) (s.f 9) (s.f 13) (s.f 14) (s.f 16) w) (blockP 1 (thenP (W Pg (cR (cR (cB (cB (cR (cL (cR (cR (cR (cR (cR (cR (cR concordancelaw10_PoolPins_body))))))))))))) false (thenP (fun s w => X1 (s.ds, s.f 0, s.f 1, s.f 9, s.f 13) w) (blockP 0 (thenP (fun s w => concordancelaw10_PoolPins_j1 K s.ds (s.f 9) w) (retQ Pg [.tmp 4] K))))) (thenP (fun s w => X1 (s.ds, s.f 0, s.f 1, s.f 9, s.f 13) w) (blockP 0 (thenP (fun s w => concordancelaw10_PoolPins_j1 K s.ds (s.f 9) w) (retQ Pg [.tmp 4] K)))))))) = (fun s w => concordancelaw10_PoolPins_g12 K X1 s.ds (s.f 0) (s.f 1) (s.f 9) (s.f 13) (s.f 14) (s.f 16) (s.f 75) (s.f 78) w) :=
  Eq.trans (eqGrd (concordancelaw10_PoolPins_g13_eq K X1)) (by kernel_rfl)

def concordancelaw10_PoolPins_j6 (K : Value → World → Prop) (X1 : List Deferred × Value × Value × Value × Value → World → Prop) (ds : List Deferred) (x0 : Value) (x1 : Value) (x9 : Value) (x13 : Value) (w : World) : Prop :=
  run Pg (Instr.indexAt 22 x0 x13) (fun t58_31 w =>
  run Pg (Instr.loadAt 3 t58_31) (fun t59_32 w =>
  run Pg (binS .rem 3 true t59_32 (.int .i64 7)) (fun t60_33 w =>
  run Pg (binS .add 3 true t60_33 (.int .i64 7)) (fun t61_34 w =>
  run Pg (binS .rem 3 true t61_34 (.int .i64 7)) (fun t62_35 w =>
  run Pg (binS .add 3 true (.int .i64 1) t62_35) (fun t63_36 w =>
  call Pg F.pool_Pool_Pin [x9, t63_36] (fun t67_37 w =>
  run Pg (Instr.extract t67_37 0) (fun t68_38 w =>
  run Pg (Instr.extract t67_37 1) (fun t69_39 w =>
  run Pg (binS .eql 25 true t69_39 (.int .i64 0)) (fun t71_40 w =>
  run Pg (binS .gtr 3 true x1 (.int .i64 1)) (fun t73_41 w =>
  run Pg (binS .neq 4 false t71_40 t73_41) (fun t74_42 w =>
  gcond t74_42 false (
  run Pg (binS .eql 3 true x1 (.int .i64 1)) (fun t77_43 w =>
  concordancelaw10_PoolPins_g12 K X1 ds x0 x1 x9 x13 t63_36 t69_39 t74_42 t77_43 w) w) (
  concordancelaw10_PoolPins_g12 K X1 ds x0 x1 x9 x13 t63_36 t69_39 t74_42 undef w)) w) w) w) w) w) w) w) w) w) w) w) w

theorem concordancelaw10_PoolPins_j6_eq (K : Value → World → Prop) (X1 : List Deferred × Value × Value × Value × Value → World → Prop) : W Pg (cR (cB (cB (cR (cL (cR (cR (cR (cR (cR (cR (cR concordancelaw10_PoolPins_body)))))))))))) false (thenP (fun s w => X1 (s.ds, s.f 0, s.f 1, s.f 9, s.f 13) w) (blockP 0 (thenP (fun s w => concordancelaw10_PoolPins_j1 K s.ds (s.f 9) w) (retQ Pg [.tmp 4] K)))) = (fun s w => concordancelaw10_PoolPins_j6 K X1 s.ds (s.f 0) (s.f 1) (s.f 9) (s.f 13) w) :=
  Eq.trans (eqSeqL (eqBlock (eqSeq (eqSeq ((eqSeq (concordancelaw10_PoolPins_j7_eq K X1)).trans (eqSeqL (eqReg (rd := false) (id := 15) (ops := rOps (cL (cL (cR (cR (cB (cL (cR (cB (cB (cR (cL (cR (cR (cR (cR (cR (cR (cR concordancelaw10_PoolPins_body))))))))))))))))))) (by kernel_rfl) (eqPlain (eqGrd (concordancelaw10_PoolPins_g12_eq K X1)))))))))) (by kernel_rfl)

def concordancelaw10_PoolPins_g15 (K : Value → World → Prop) (X1 : List Deferred × Value × Value × Value × Value → World → Prop) (ds : List Deferred) (x0 : Value) (x1 : Value) (x9 : Value) (x13 : Value) (x50 : Value) (x52 : Value) (w : World) : Prop :=
  pickV x50 x52 (.bool false) (fun t53_44 w =>
  cnd t53_44 (
  concordancelaw10_PoolPins_j6 K X1 ds x0 x1 x9 x13 w) (
  concordancelaw10_PoolPins_j1 K ds x9 w)) w

theorem concordancelaw10_PoolPins_g15_eq (K : Value → World → Prop) (X1 : List Deferred × Value × Value × Value × Value → World → Prop) : opsG (op1W Pg) (rOps (cL (cL (cB (cB (cR (cL (cR (cR (cR (cR (cR (cR (cR concordancelaw10_PoolPins_body)))))))))))))).toList ((groups (rOps (cL (cL (cB (cB (cR (cL (cR (cR (cR (cR (cR (cR (cR concordancelaw10_PoolPins_body)))))))))))))).toList).drop 2) 7 (W Pg (cR (cL (cB (cB (cR (cL (cR (cR (cR (cR (cR (cR (cR concordancelaw10_PoolPins_body))))))))))))) false (thenP (fun s w => concordancelaw10_PoolPins_j6 K X1 s.ds (s.f 0) (s.f 1) (s.f 9) (s.f 13) w) (thenP (fun s w => X1 (s.ds, s.f 0, s.f 1, s.f 9, s.f 13) w) (blockP 0 (thenP (fun s w => concordancelaw10_PoolPins_j1 K s.ds (s.f 9) w) (retQ Pg [.tmp 4] K)))))) = (fun s w => concordancelaw10_PoolPins_g15 K X1 s.ds (s.f 0) (s.f 1) (s.f 9) (s.f 13) (s.f 50) (s.f 52) w) :=
  by kernel_rfl

def concordancelaw10_PoolPins_l5 (K : Value → World → Prop) (X1 : List Deferred × Value × Value × Value × Value → World → Prop) (st : List Deferred × Value × Value × Value × Value) (w : World) : Prop :=
  run Pg (Builtin.len_ #[22] 3 #[st.2.1]) (fun t48_45 w =>
  run Pg (binS .lss 3 false st.2.2.2.2 t48_45) (fun t49_46 w =>
  gcond t49_46 true (
  run Pg (binS .lss 3 true st.2.2.2.2 (.int .i64 40)) (fun t52_47 w =>
  concordancelaw10_PoolPins_g15 K X1 st.1 st.2.1 st.2.2.1 st.2.2.2.1 st.2.2.2.2 t49_46 t52_47 w) w) (
  concordancelaw10_PoolPins_g15 K X1 st.1 st.2.1 st.2.2.1 st.2.2.2.1 st.2.2.2.2 t49_46 undef w)) w) w

theorem concordancelaw10_PoolPins_l5_eq (K : Value → World → Prop) (X1 : List Deferred × Value × Value × Value × Value → World → Prop) : W Pg (cB (cB (cR (cL (cR (cR (cR (cR (cR (cR (cR concordancelaw10_PoolPins_body))))))))))) false (thenP (fun s w => X1 (s.ds, s.f 0, s.f 1, s.f 9, s.f 13) w) (blockP 0 (thenP (fun s w => concordancelaw10_PoolPins_j1 K s.ds (s.f 9) w) (retQ Pg [.tmp 4] K)))) = (fun s w => concordancelaw10_PoolPins_l5 K X1 (s.ds, s.f 0, s.f 1, s.f 9, s.f 13) w) :=
  Eq.trans ((eqSeq (concordancelaw10_PoolPins_j6_eq K X1)).trans (eqSeqL (eqReg (rd := false) (id := 11) (ops := rOps (cL (cL (cB (cB (cR (cL (cR (cR (cR (cR (cR (cR (cR concordancelaw10_PoolPins_body)))))))))))))) (by kernel_rfl) (eqPlain (eqGrd (concordancelaw10_PoolPins_g15_eq K X1)))))) (by kernel_rfl)

theorem concordancelaw10_PoolPins_l5_mono (K : Value → World → Prop) : ∀ X Y : List Deferred × Value × Value × Value × Value → World → Prop, (∀ t w, X t w → Y t w) → ∀ t w, concordancelaw10_PoolPins_l5 K X t w → concordancelaw10_PoolPins_l5 K Y t w :=
  loop_mono (fun s : St => ((s.ds, s.f 0, s.f 1, s.f 9, s.f 13) : List Deferred × Value × Value × Value × Value)) (fun X1 => concordancelaw10_PoolPins_l5_eq K X1) (fun t => ⟨fun i => (bif Nat.beq i 0 then t.2.1 else (bif Nat.beq i 1 then t.2.2.1 else (bif Nat.beq i 9 then t.2.2.2.1 else (bif Nat.beq i 13 then t.2.2.2.2 else undef)))), t.1⟩) (fun _ => rfl)

def concordancelaw10_PoolPins (K : Value → World → Prop) (ds : List Deferred) (x0 : Value) (x1 : Value) (w : World) : Prop :=
  call Pg F.concordancelaw10_speaks [] (fun t19_48 w =>
  run Pg (Op.unary .not t19_48) (fun t20_49 w =>
  cnd t20_49 (
  leaveW Pg ds (fun w => K (.bool false) w) w) (
  run Pg (binS .and 3 true x1 (.int .i64 3)) (fun t22_50 w =>
  run Pg (binS .add 3 true (.int .i64 1) t22_50) (fun t23_51 w =>
  call Pg F.device_New [(.int .i64 40)] (fun t25_52 w =>
  run Pg (Instr.extract t25_52 0) (fun t26_53 w =>
  run Pg (Instr.extract t25_52 1) (fun t27_54 w =>
  call Pg F.twin_New [t26_53, (.int .i64 0), (.int .i64 2), (.int .i64 10), (.int .i64 8)] (fun t30_55 w =>
  run Pg (Instr.extract t30_55 0) (fun t31_56 w =>
  run Pg (Instr.extract t30_55 1) (fun t32_57 w =>
  call Pg F.pool_New [t31_56, t23_51, (.func (.func 11) #[] #[])] (fun t36_58 w =>
  run Pg (Instr.extract t36_58 0) (fun t37_59 w =>
  run Pg (Instr.extract t36_58 1) (fun t38_60 w =>
  call Pg F.pool_Pool_Pin [t37_59, (.int .i64 0)] (fun t41_61 w =>
  run Pg (Instr.extract t41_61 0) (fun t42_62 w =>
  run Pg (Instr.extract t41_61 1) (fun t43_63 w =>
  run Pg (binS .neq 25 true t43_63 (.int .i64 0)) (fun t45_64 w =>
  cnd t45_64 (
  leaveW Pg ds (fun w => K (.bool false) w) w) (
  Lp (concordancelaw10_PoolPins_l5 K) (ds, x0, t23_51, t37_59, (.int .i64 0)) w)) w) w) w) w) w) w) w) w) w) w) w) w) w) w) w)) w) w

theorem concordancelaw10_PoolPins_eq (K : Value → World → Prop) : W Pg concordancelaw10_PoolPins_body false (retQ Pg [.tmp 4] K) = (fun s w => concordancelaw10_PoolPins K s.ds (s.f 0) (s.f 1) w) :=
  Eq.trans (eqSeq (eqSeq (eqSeq (eqSeq (eqSeq (eqSeq (eqSeq ((eqSeq (concordancelaw10_PoolPins_j1_eq K)).trans (eqSeq (eqBlock (eqLoop (rd := false) (fun s : St => ((s.ds, s.f 0, s.f 1, s.f 9, s.f 13) : List Deferred × Value × Value × Value × Value)) (fun X1 => concordancelaw10_PoolPins_l5_eq K X1)))))))))))) (by kernel_rfl)

theorem concordancelaw10_PoolPins_ok : FnOk Pg F.concordancelaw10_PoolPins Go.Proofs.Tryz.f3 concordancelaw10_PoolPins_body 2 := ⟨Go.Proofs.Tryz.func3, by kernel_rfl, by kernel_rfl, by kernel_rfl, by kernel_rfl, by kernel_rfl⟩

theorem concordancelaw10_PoolPins_callS {K : Value → World → Prop} {x0 : Value} {x1 : Value} {w : World} (h : concordancelaw10_PoolPins K [] x0 x1 w) : callS Pg F.concordancelaw10_PoolPins [x0, x1] K w :=
  call_of_W concordancelaw10_PoolPins_ok (Eq.mpr (congrFun (congrFun (concordancelaw10_PoolPins_eq K) ⟨argFr [x0, x1], []⟩) w) h)

theorem concordancelaw10_PoolPins_call {K : Value → World → Prop} {x0 : Value} {x1 : Value} {w : World} (h : concordancelaw10_PoolPins K [] x0 x1 w) : call Pg F.concordancelaw10_PoolPins [x0, x1] K w := .inl (concordancelaw10_PoolPins_callS h)

/-- concordance/concordancelaw10.speaks -/
noncomputable def concordancelaw10_speaks_body : Code := (Go.Proofs.Tryz.f7.body).getD .skip

def concordancelaw10_speaks_g4 (K : Value → World → Prop) (ds : List Deferred) (x52 : Value) (x54 : Value) (w : World) : Prop :=
  pickV x52 x54 (.bool false) (fun t55_1 w =>
  leaveW Pg ds (fun w => K t55_1 w) w) w

theorem concordancelaw10_speaks_g4_eq (K : Value → World → Prop) : opsG (op1W Pg) (rOps (cL (cR (cR (cR (cR (cR (cR (cR (cR (cR concordancelaw10_speaks_body))))))))))).toList ((groups (rOps (cL (cR (cR (cR (cR (cR (cR (cR (cR (cR concordancelaw10_speaks_body))))))))))).toList).drop 8) 19 (W Pg (cR (cR (cR (cR (cR (cR (cR (cR (cR (cR concordancelaw10_speaks_body)))))))))) false (retQ Pg [.tmp 0] K)) = (fun s w => concordancelaw10_speaks_g4 K s.ds (s.f 52) (s.f 54) w) :=
  by kernel_rfl

def concordancelaw10_speaks_g3 (K : Value → World → Prop) (ds : List Deferred) (x5 : Value) (x48 : Value) (x50 : Value) (w : World) : Prop :=
  pickV x48 x50 (.bool false) (fun t51_2 w =>
  gcond t51_2 true (
  call Pg F.pool_Pool_Has [x5, (.int .i64 3)] (fun t54_3 w =>
  concordancelaw10_speaks_g4 K ds t51_2 t54_3 w) w) (
  concordancelaw10_speaks_g4 K ds t51_2 undef w)) w

theorem concordancelaw10_speaks_g3_eq (K : Value → World → Prop) : opsG (op1W Pg) (rOps (cL (cR (cR (cR (cR (cR (cR (cR (cR (cR concordancelaw10_speaks_body))))))))))).toList ((groups (rOps (cL (cR (cR (cR (cR (cR (cR (cR (cR (cR concordancelaw10_speaks_body))))))))))).toList).drop 6) 15 (W Pg (cR (cR (cR (cR (cR (cR (cR (cR (cR (cR concordancelaw10_speaks_body)))))))))) false (retQ Pg [.tmp 0] K)) = (fun s w => concordancelaw10_speaks_g3 K s.ds (s.f 5) (s.f 48) (s.f 50) w) :=
  Eq.trans (eqPlain (eqGrd (concordancelaw10_speaks_g4_eq K))) (by kernel_rfl)

def concordancelaw10_speaks_g2 (K : Value → World → Prop) (ds : List Deferred) (x5 : Value) (x43 : Value) (x46 : Value) (w : World) : Prop :=
  pickV x43 x46 (.bool false) (fun t47_4 w =>
  gcond t47_4 true (
  call Pg F.pool_Pool_Has [x5, (.int .i64 2)] (fun t50_5 w =>
  concordancelaw10_speaks_g3 K ds x5 t47_4 t50_5 w) w) (
  concordancelaw10_speaks_g3 K ds x5 t47_4 undef w)) w

theorem concordancelaw10_speaks_g2_eq (K : Value → World → Prop) : opsG (op1W Pg) (rOps (cL (cR (cR (cR (cR (cR (cR (cR (cR (cR concordancelaw10_speaks_body))))))))))).toList ((groups (rOps (cL (cR (cR (cR (cR (cR (cR (cR (cR (cR concordancelaw10_speaks_body))))))))))).toList).drop 4) 11 (W Pg (cR (cR (cR (cR (cR (cR (cR (cR (cR (cR concordancelaw10_speaks_body)))))))))) false (retQ Pg [.tmp 0] K)) = (fun s w => concordancelaw10_speaks_g2 K s.ds (s.f 5) (s.f 43) (s.f 46) w) :=
  Eq.trans (eqPlain (eqGrd (concordancelaw10_speaks_g3_eq K))) (by kernel_rfl)

def concordancelaw10_speaks_g1 (K : Value → World → Prop) (ds : List Deferred) (x5 : Value) (x38 : Value) (x41 : Value) (w : World) : Prop :=
  pickV x38 x41 (.bool false) (fun t42_6 w =>
  gcond t42_6 true (
  call Pg F.pool_Pool_Has [x5, (.int .i64 1)] (fun t45_7 w =>
  run Pg (Op.unary .not t45_7) (fun t46_8 w =>
  concordancelaw10_speaks_g2 K ds x5 t42_6 t46_8 w) w) w) (
  concordancelaw10_speaks_g2 K ds x5 t42_6 undef w)) w

theorem concordancelaw10_speaks_g1_eq (K : Value → World → Prop) : opsG (op1W Pg) (rOps (cL (cR (cR (cR (cR (cR (cR (cR (cR (cR concordancelaw10_speaks_body))))))))))).toList ((groups (rOps (cL (cR (cR (cR (cR (cR (cR (cR (cR (cR concordancelaw10_speaks_body))))))))))).toList).drop 2) 6 (W Pg (cR (cR (cR (cR (cR (cR (cR (cR (cR (cR concordancelaw10_speaks_body)))))))))) false (retQ Pg [.tmp 0] K)) = (fun s w => concordancelaw10_speaks_g1 K s.ds (s.f 5) (s.f 38) (s.f 41) w) :=
  Eq.trans (eqPlain (eqGrd (concordancelaw10_speaks_g2_eq K))) (by kernel_rfl)

def concordancelaw10_speaks (K : Value → World → Prop) (ds : List Deferred) (w : World) : Prop :=
  call Pg F.device_New [(.int .i64 40)] (fun t10_9 w =>
  run Pg (Instr.extract t10_9 0) (fun t11_10 w =>
  run Pg (Instr.extract t10_9 1) (fun t12_11 w =>
  call Pg F.twin_New [t11_10, (.int .i64 0), (.int .i64 2), (.int .i64 10), (.int .i64 8)] (fun t15_12 w =>
  run Pg (Instr.extract t15_12 0) (fun t16_13 w =>
  run Pg (Instr.extract t15_12 1) (fun t17_14 w =>
  call Pg F.pool_New [t16_13, (.int .i64 2), (.func (.func 32) #[] #[])] (fun t20_15 w =>
  run Pg (Instr.extract t20_15 0) (fun t21_16 w =>
  run Pg (Instr.extract t20_15 1) (fun t22_17 w =>
  run Pg (binS .neq 25 true t22_17 (.int .i64 0)) (fun t24_18 w =>
  cnd t24_18 (
  leaveW Pg ds (fun w => K (.bool false) w) w) (
  call Pg F.pool_Pool_Pin [t21_16, (.int .i64 1)] (fun t26_19 w =>
  call Pg F.pool_Pool_Pin [t21_16, (.int .i64 2)] (fun t28_20 w =>
  call Pg F.pool_Pool_Unpin [t21_16, (.int .i64 1)] (fun t30_21 w =>
  call Pg F.pool_Pool_Pin [t21_16, (.int .i64 3)] (fun t33_22 w =>
  run Pg (Instr.extract t33_22 0) (fun t34_23 w =>
  run Pg (Instr.extract t33_22 1) (fun t35_24 w =>
  run Pg (binS .eql 25 true t35_24 (.int .i64 0)) (fun t37_25 w =>
  gcond t37_25 true (
  run Pg (Builtin.len_ #[9] 3 #[t34_23]) (fun t40_26 w =>
  run Pg (binS .eql 3 true t40_26 (.int .i64 512)) (fun t41_27 w =>
  concordancelaw10_speaks_g1 K ds t21_16 t37_25 t41_27 w) w) w) (
  concordancelaw10_speaks_g1 K ds t21_16 t37_25 undef w)) w) w) w) w) w) w) w)) w) w) w) w) w) w) w) w) w) w

theorem concordancelaw10_speaks_eq (K : Value → World → Prop) : W Pg concordancelaw10_speaks_body false (retQ Pg [.tmp 0] K) = (fun s w => concordancelaw10_speaks K s.ds  w) :=
  Eq.trans (eqSeq (eqSeq (eqSeq (eqSeq (eqSeq (eqSeq (eqSeq (eqSeq (eqSeq (eqSeqL (eqReg (rd := false) (id := 10) (ops := rOps (cL (cR (cR (cR (cR (cR (cR (cR (cR (cR concordancelaw10_speaks_body))))))))))) (by kernel_rfl) (eqPlain (eqGrd (concordancelaw10_speaks_g1_eq K)))))))))))))) (by kernel_rfl)

theorem concordancelaw10_speaks_ok : FnOk Pg F.concordancelaw10_speaks Go.Proofs.Tryz.f7 concordancelaw10_speaks_body 0 := ⟨Go.Proofs.Tryz.func7, by kernel_rfl, by kernel_rfl, by kernel_rfl, by kernel_rfl, by kernel_rfl⟩

theorem concordancelaw10_speaks_callS {K : Value → World → Prop} {w : World} (h : concordancelaw10_speaks K []  w) : callS Pg F.concordancelaw10_speaks [] K w :=
  call_of_W concordancelaw10_speaks_ok (Eq.mpr (congrFun (congrFun (concordancelaw10_speaks_eq K) ⟨argFr [], []⟩) w) h)

theorem concordancelaw10_speaks_call {K : Value → World → Prop} {w : World} (h : concordancelaw10_speaks K []  w) : call Pg F.concordancelaw10_speaks [] K w := .inl (concordancelaw10_speaks_callS h)

/-- concordance/concordancelaw10.PoolPins$1 -/
noncomputable def concordancelaw10_PoolPins_c1_body : Code := (Go.Proofs.Tryz.f11.body).getD .skip

def concordancelaw10_PoolPins_c1 (K : Value → World → Prop) (ds : List Deferred) (w : World) : Prop :=
  leaveW Pg ds (fun w => K (.int .i64 0) w) w

theorem concordancelaw10_PoolPins_c1_eq (K : Value → World → Prop) : W Pg concordancelaw10_PoolPins_c1_body false (retQ Pg [.tmp 2] K) = (fun s w => concordancelaw10_PoolPins_c1 K s.ds  w) :=
  by kernel_rfl

theorem concordancelaw10_PoolPins_c1_ok : FnOk Pg F.concordancelaw10_PoolPins_c1 Go.Proofs.Tryz.f11 concordancelaw10_PoolPins_c1_body 1 := ⟨Go.Proofs.Tryz.func11, by kernel_rfl, by kernel_rfl, by kernel_rfl, by kernel_rfl, by kernel_rfl⟩

theorem concordancelaw10_PoolPins_c1_callS {K : Value → World → Prop} {x0 : Value} {w : World} (h : concordancelaw10_PoolPins_c1 K []  w) : callS Pg F.concordancelaw10_PoolPins_c1 [x0] K w :=
  call_of_W concordancelaw10_PoolPins_c1_ok (Eq.mpr (congrFun (congrFun (concordancelaw10_PoolPins_c1_eq K) ⟨argFr [x0], []⟩) w) h)

theorem concordancelaw10_PoolPins_c1_call {K : Value → World → Prop} {x0 : Value} {w : World} (h : concordancelaw10_PoolPins_c1 K []  w) : call Pg F.concordancelaw10_PoolPins_c1 [x0] K w := .inl (concordancelaw10_PoolPins_c1_callS h)

/-- concordance/concordancelaw10.speaks$1 -/
noncomputable def concordancelaw10_speaks_c1_body : Code := (Go.Proofs.Tryz.f32.body).getD .skip

def concordancelaw10_speaks_c1 (K : Value → World → Prop) (ds : List Deferred) (w : World) : Prop :=
  leaveW Pg ds (fun w => K (.int .i64 0) w) w

theorem concordancelaw10_speaks_c1_eq (K : Value → World → Prop) : W Pg concordancelaw10_speaks_c1_body false (retQ Pg [.tmp 2] K) = (fun s w => concordancelaw10_speaks_c1 K s.ds  w) :=
  by kernel_rfl

theorem concordancelaw10_speaks_c1_ok : FnOk Pg F.concordancelaw10_speaks_c1 Go.Proofs.Tryz.f32 concordancelaw10_speaks_c1_body 1 := ⟨Go.Proofs.Tryz.func32, by kernel_rfl, by kernel_rfl, by kernel_rfl, by kernel_rfl, by kernel_rfl⟩

theorem concordancelaw10_speaks_c1_callS {K : Value → World → Prop} {x0 : Value} {w : World} (h : concordancelaw10_speaks_c1 K []  w) : callS Pg F.concordancelaw10_speaks_c1 [x0] K w :=
  call_of_W concordancelaw10_speaks_c1_ok (Eq.mpr (congrFun (congrFun (concordancelaw10_speaks_c1_eq K) ⟨argFr [x0], []⟩) w) h)

theorem concordancelaw10_speaks_c1_call {K : Value → World → Prop} {x0 : Value} {w : World} (h : concordancelaw10_speaks_c1 K []  w) : call Pg F.concordancelaw10_speaks_c1 [x0] K w := .inl (concordancelaw10_speaks_c1_callS h)

end Go.Sx
end

section
/- Pools whose pages are clean; what the statements of layer 10 begin with. -/
set_option linter.unusedVariables false
set_option linter.unusedSimpArgs false
set_option maxRecDepth 100000
namespace Go.Sx
open Go Go.RowKit
variable {K : Value → World → Prop} {w : World}

/-- A log that takes all. -/
def okLog (f : FuncId) (h : ∀ x (K : Value → World → Prop) w, K (int 0) w → call Pg f [x] K w) : LogE := {
  τ := Unit
  J _ E _ := ∀ k, ¬ E k
  fl := .func (.func f) #[] #[]
  f _ _ := ((), 0)
  isFn := ⟨_, _, _, rfl⟩
  live h hk := absurd hk (h _)
  no0 h := h 0
  keep h _ _ := h
  call := by
    intro t E w n K hJ k
    exact h _ _ _ (k w E hJ .refl) }

/-! ### Pin, of clean pools -/
section
variable {e : PEnv} {s : e.σ} {p : PS} {n : Int}
theorem ppin_hit {f : FrT} (h : fget p.held n = some f) : ppin e s p n = (s, puse p n f, f.bytes, 0) := by unfold ppin; rw [h]
theorem ppin_room {Z : Text} (h : fget p.held n = none) (hl : (p.held.length : Int) < p.frames) (hr : e.rd s n = (Z, 0)) (hZ : WholeT Z) :
    ppin e s p n = (s, puse { p with held := fins p.held n ⟨Z, 0, false⟩ } n ⟨Z, 0, false⟩, Z, 0) := by
  unfold ppin pspace
  rw [h, if_pos hl]
  simp [hr, hZ]
theorem ppin_swap {Z : Text} {v : Int} {f : FrT} (h : fget p.held n = none) (hl : ¬ (p.held.length : Int) < p.frames) (hv : pvictim p = some v) (hf : fget p.held v = some f) (hd : f.dirty = false) (hr : e.rd s n = (Z, 0)) (hZ : WholeT Z) :
    ppin e s p n = (s, puse { p with held := fins (fdel p.held v) n ⟨Z, 0, false⟩, used := p.used.erase v } n ⟨Z, 0, false⟩, Z, 0) := by
  unfold ppin pspace
  rw [h, if_neg hl, hv]
  simp [pout, hf, hd, hr, hZ]
theorem ppin_full (h : fget p.held n = none) (hl : ¬ (p.held.length : Int) < p.frames) (hv : pvictim p = none) : ppin e s p n = (s, p, [], 10) := by
  unfold ppin pspace
  rw [h, if_neg hl, hv]
  simp
theorem pevict_clean {f : FrT} (h : fget p.held n = some f) (h0 : ¬ 0 < f.pins) (hd : f.dirty = false) : pevict e s p n = (s, { p with held := fdel p.held n, used := p.used.erase n }, 0) := by
  unfold pevict pout
  rw [h]
  simp [h0, hd, h]
theorem pevict_pinned {f : FrT} (h : fget p.held n = some f) (h0 : 0 < f.pins) : pevict e s p n = (s, p, 10) := by
  unfold pevict
  rw [h]
  simp [h0]
theorem punpin_at {f : FrT} (h : fget p.held n = some f) (h0 : ¬ f.pins = 0) : punpin p n = ({ p with held := fset p.held n { f with pins := f.pins - 1 } }, 0) := by
  unfold punpin; rw [h]; simp [h0]
theorem punpin_no {f : FrT} (h : fget p.held n = some f) (h0 : f.pins = 0) : punpin p n = (p, 17) := by
  unfold punpin; rw [h]; simp [h0]
end

/-- one that isn't pinned is found, if there is one. -/
theorem pvictim_some {p : PS} (hw : p.Wf) {n : Int} {f : FrT} (h : fget p.held n = some f) (h0 : f.pins = 0) : ∃ v g, pvictim p = some v ∧ fget p.held v = some g ∧ g.pins = 0 := by
  cases hv : pvictim p with
  | some v =>
    unfold pvictim at hv
    have := List.find?_some hv
    unfold free1P at this
    cases hg : fget p.held v with
    | none => rw [hg] at this; cases this
    | some g => rw [hg] at this; exact ⟨v, g, rfl, hg, by simpa using this⟩
  | none =>
    unfold pvictim at hv
    rw [List.find?_eq_none] at hv
    have hm : n ∈ p.used := (hw.same n).2 (by rw [h]; rfl)
    have := hv n hm
    unfold free1P at this
    rw [h] at this
    simp [h0] at this
theorem pvictim_none {p : PS} (h : ∀ n f, fget p.held n = some f → f.pins ≠ 0) : pvictim p = none := by
  unfold pvictim
  rw [List.find?_eq_none]
  intro n _
  unfold free1P
  cases hg : fget p.held n with
  | none => simp
  | some f => simpa using h n f hg

/-- A page of noughts. -/
def Z512 : Text := List.replicate 512 0
theorem Z512_whole : WholeT Z512 := ⟨by simp [Z512], .inl (fun b hb => (List.mem_replicate.1 hb).2)⟩

def dev0 (n : Int) : Dev := ⟨n, fun _ => none, [], false, 0, [], 0⟩
theorem dev0_two (n i : Int) : (dev0 n).two' i = (Z512, 0) := by
  unfold Dev.two' Dev.two Dev.read dev0
  simp [Z512]
theorem dev0_rest (n : Int) : Rest (dev0 n) n := ⟨by simp [dev0], fun _ => rfl, ⟨(fun i t h => by cases h), (fun x hx => by cases hx)⟩, by simp [dev0], rfl⟩

/-- the statements' area -/
def area10 : Area := ⟨0, 2, 10, 8⟩
theorem area10_ok : area10.Ok 40 := ⟨by decide, by decide, by decide, by decide, by decide, by decide, by decide, by decide, .inr (by decide)⟩

abbrev env10 (L : LogE) (av dv : Value) (hp : ∃ ab, av = .pointer (some ab)) : PEnv := areaEnv L av dv area10 40 area10_ok (by decide) hp

/-- A device, an area. -/
theorem begin10 {K : Value → Value → World → Prop} (hg : Glob w)
    (k : ∀ w' av dv E, (∃ ab, av = .pointer (some ab)) → TwinI w' av dv area10 (dev0 40) E → Glob w' → (∀ k, E k → w.heap.size ≤ k) → Qt w w' → K dv av w') :
    call Pg F.device_New [(.int .i64 40)] (fun t25 w => run Pg (Instr.extract t25 0) (fun t26 w => run Pg (Instr.extract t25 1) (fun t27 w =>
      call Pg F.twin_New [t26, (.int .i64 0), (.int .i64 2), (.int .i64 10), (.int .i64 8)] (fun t30 w => run Pg (Instr.extract t30 0) (fun t31 w => run Pg (Instr.extract t30 1) (fun t32 w =>
        K t26 t31 w) w) w) w) w) w) w := by
  refine device_New_c (by decide) (by decide) (fun b m w1 q1 hm hd hb => ?_)
  refine run_i (s_extract rfl) ?_
  refine run_i (s_extract rfl) ?_
  have hdv : IsDev w1 (.pointer (some ⟨b, 0, none⟩)) m (dev0 40) := ⟨b, _, _, rfl, hd⟩
  refine twin_New_c (a := area10) hdv (by decide) area10_ok (fun av w2 q2 har hfr => ?_)
  obtain ⟨ab, rfl, hab⟩ := har
  refine run_i (s_extract rfl) ?_
  refine run_i (s_extract rfl) ?_
  have hd2 := hd.qt q2
  have hs1 := q1.size
  have hs2 := q2.size
  have hfa := hfr _ rfl
  simp only at hfa
  have lb := lt_of hd.at_
  have lm : m < w1.heap.size := by obtain ⟨es, c, h, _⟩ := hd.map; exact lt_of h
  have hEd : ∀ k, devX b m (.slice none 0 0) (.slice none 0 0) k → w.heap.size ≤ k ∧ k < w1.heap.size := by
    rintro k (rfl | rfl | h | h)
    · exact ⟨hb, lb⟩
    · exact ⟨hm, lm⟩
    · cases h
    · cases h
  have hT : TwinI w2 (.pointer (some ⟨ab, 0, none⟩)) (.pointer (some ⟨b, 0, none⟩)) area10 (dev0 40) (fun k => k = ab ∨ devX b m (.slice none 0 0) (.slice none 0 0) k) :=
    ⟨ab, _, rfl, hab, ⟨b, m, _, _, rfl, hd2, rfl⟩, fun h => by have := hEd _ h; omega, rfl⟩
  refine k w2 _ _ _ ⟨_, rfl⟩ hT ((hg.qt q1).qt q2) (fun k hk => ?_) (q1.trans q2)
  rcases hk with h | h
  · omega
  · exact (hEd _ h).1

/-- with a log that takes all -/
theorem okEnv {f : FuncId} (h : ∀ x (K : Value → World → Prop) w, K (int 0) w → call Pg f [x] K w) {av dv : Value} (hp : ∃ ab, av = .pointer (some ab)) {d : Dev} {E : Cov}
    (hT : TwinI w av dv area10 d E) (hR : Rest d 40) (h0 : ¬ E 0) : (env10 (okLog f h) av dv hp).I (d, ()) (fun k => E k ∨ False) w :=
  ⟨_, _, hT, hR, fun _ h => h, fun k _ h => h, h0, rfl⟩
end Go.Sx
end

section
/- Pools whose pages are clean: Pin, Unpin. -/
set_option linter.unusedVariables false
set_option linter.unusedSimpArgs false
set_option maxRecDepth 100000
namespace Go.Sx
open Go Go.RowKit

theorem and_le (a : Int) {m : Int} (h0 : 0 ≤ m) (h1 : m < 2 ^ 62) : 0 ≤ bitv (fun _ x y => x &&& y) .i64 a m ∧ bitv (fun _ x y => x &&& y) .i64 a m ≤ m := by
  unfold bitv
  have e : (BitVec.ofInt IntKind.i64.bits m).toNat = m.toNat := by
    show (BitVec.ofInt 64 m).toNat = m.toNat
    rw [BitVec.toNat_ofInt]
    have : m % ((2 ^ 64 : Nat) : Int) = m := Int.emod_eq_of_lt h0 (by norm_cast; omega)
    rw [this]
  have e2 : (BitVec.ofInt IntKind.i64.bits a &&& BitVec.ofInt IntKind.i64.bits m).toNat ≤ m.toNat := by
    rw [BitVec.toNat_and, e]; exact Nat.and_le_right
  generalize (BitVec.ofInt IntKind.i64.bits a &&& BitVec.ofInt IntKind.i64.bits m).toNat = x at e2
  have hx : (x : Int) ≤ m := by omega
  rw [wrapI (by omega) (by omega)]
  omega

/-- All that is held is clean, each frame pinned once at most. -/
structure Cln (F : Int) (p : PS) : Prop where
  fr : p.frames = F
  wf : p.Wf
  len : (p.held.length : Int) ≤ F
  pg : ∀ n f, fget p.held n = some f → 0 ≤ n ∧ n < 8 ∧ f.bytes = Z512 ∧ f.dirty = false ∧ 0 ≤ f.pins ∧ f.pins ≤ 1

theorem Cln.ok {F : Int} {p : PS} (h : Cln F p) : p.Ok 8 1 := by
  refine ⟨fun n hn => (h.wf.same n).1 hn, fun x hx => ?_, fun x hx => ?_, h.wf.sorted, h.wf.nodup⟩
  · exact (h.pg _ _ (fget_of_mem h.wf.sorted hx)).2.2.2.2
  · have := h.pg _ _ (fget_of_mem h.wf.sorted hx)
    exact ⟨this.1, this.2.1, by rw [this.2.2.1]; exact Z512_whole⟩
theorem Cln.few {F : Int} {p : PS} (h : Cln F p) (hF : F ≤ 64) : p.Few := by
  have := h.len
  exact ⟨by omega, by rw [h.wf.len]; omega⟩

/-- of those that are held, what isn't pinned. -/
theorem cl_two {p : PS} (hw : p.Wf) (h2 : 2 ≤ p.held.length) (n : Int) : ∃ m f, fget p.held m = some f ∧ m ≠ n := by
  obtain ⟨held, hh⟩ : ∃ l, l = p.held := ⟨_, rfl⟩
  have hs := hw.sorted
  rw [← hh] at h2 hs ⊢
  match held, h2 with
  | x :: y :: l, _ =>
    have hlt : x.1 < y.1 := (List.pairwise_cons.1 hs).1 y (by simp)
    have hx := fget_of_mem hs (x := x) (by simp)
    have hy := fget_of_mem hs (x := y) (by simp)
    by_cases e : x.1 = n
    · exact ⟨_, _, hy, by omega⟩
    · exact ⟨_, _, hx, e⟩
theorem cl_one {p : PS} (hw : p.Wf) (h2 : p.held.length ≤ 1) {n m : Int} {f : FrT} (h : fget p.held n = some f) (hm : m ≠ n) : fget p.held m = none := by
  cases hg : fget p.held m with
  | none => rfl
  | some g =>
    have a := fget_mem h
    have b := fget_mem hg
    obtain ⟨held, hh⟩ : ∃ l, l = p.held := ⟨_, rfl⟩
    rw [← hh] at h2 a b
    match held, h2 with
    | [], _ => cases a
    | [x], _ =>
      simp at a b
      rw [← a] at b
      exact absurd (congrArg Prod.fst b) hm

/-- Pin takes it. -/
theorem cl_pin {e : PEnv} {s : e.σ} {p : PS} {F n : Int} (h : Cln F p) (hr : e.rd s n = (Z512, 0)) (h0 : 0 ≤ n) (h1 : n < 8) (hn : ∀ f, fget p.held n = some f → f.pins = 0)
    (hroom : (p.held.length : Int) < F ∨ (∃ m f, fget p.held m = some f ∧ f.pins = 0)) :
    ∃ p', ppin e s p n = (s, p', Z512, 0) ∧ Cln F p' ∧ (∃ f, fget p'.held n = some f ∧ f.pins = 1) ∧
      ∀ m, m ≠ n → fget p'.held m = fget p.held m ∨ (fget p'.held m = none ∧ ∃ f, fget p.held m = some f ∧ f.pins = 0) := by
  cases hg : fget p.held n with
  | some f =>
    have hf := h.pg _ _ hg
    have hp := hn _ hg
    refine ⟨puse p n f, by rw [ppin_hit hg, hf.2.2.1], ⟨h.fr, h.wf.use (by rw [hg]; rfl), by simp only [puse, fset_len]; exact h.len, fun m g hm => ?_⟩, ⟨{ f with pins := f.pins + 1 }, ?_, ?_⟩, fun m hm => .inl ?_⟩
    · simp only [puse, fget_fset] at hm
      split at hm
      · rename_i hmn
        rw [hg] at hm
        simp at hm
        subst hm hmn
        exact ⟨h0, h1, hf.2.2.1, hf.2.2.2.1, by simp only; omega, by simp only; omega⟩
      · exact h.pg _ _ hm
    · simp [puse, fget_fset, hg]
    · simp only; omega
    · simp [puse, fget_fset, hm]
  | none =>
    by_cases hl : (p.held.length : Int) < p.frames
    · have hl' := hl
      rw [h.fr] at hl'
      refine ⟨_, ppin_room hg hl hr Z512_whole, ⟨h.fr, h.wf.ins hg, by simp only [puse, fset_len, fins_len hg]; omega, fun m g hm => ?_⟩, ⟨⟨Z512, 1, false⟩, ?_, rfl⟩, fun m hm => .inl ?_⟩
      · simp only [puse, fget_fset, fget_fins h.wf.sorted hg] at hm
        split at hm
        · rename_i hmn
          simp at hm
          subst hm hmn
          exact ⟨h0, h1, rfl, rfl, by simp, by simp⟩
        · exact h.pg _ _ hm
      · simp [puse, fget_fset, fget_fins h.wf.sorted hg]
      · simp [puse, fget_fset, fget_fins h.wf.sorted hg, hm]
    · obtain ⟨m0, f0, hm0, hp0⟩ : ∃ m f, fget p.held m = some f ∧ f.pins = 0 := by
        rcases hroom with hr | hr
        · rw [h.fr] at hl; exact absurd hr hl
        · exact hr
      obtain ⟨v, g, hv, hvg, hvp⟩ := pvictim_some h.wf hm0 hp0
      have hvc := h.pg _ _ hvg
      have hw' := h.wf.del v
      have hg' : fget (fdel p.held v) n = none := by
        rw [fget_fdel]; split
        · rfl
        · exact hg
      have hl2 := fdel_len h.wf.sorted (n := v) (by rw [hvg]; rfl)
      have hl3 := h.len
      have hw3 : (puse { p with held := fins (fdel p.held v) n ⟨Z512, 0, false⟩, used := p.used.erase v } n ⟨Z512, 0, false⟩).Wf := hw'.ins (p := { p with held := fdel p.held v, used := p.used.erase v }) hg'
      refine ⟨_, ppin_swap hg hl hv hvg hvc.2.2.2.1 hr Z512_whole, ⟨h.fr, hw3, by simp only [puse, fset_len, fins_len hg']; omega, fun m g hm => ?_⟩, ⟨⟨Z512, 1, false⟩, ?_, rfl⟩, fun m hm => ?_⟩
      · simp only [puse, fget_fset, fget_fins hw'.sorted hg', fget_fdel] at hm
        split at hm
        · rename_i hmn
          simp at hm
          subst hm hmn
          exact ⟨h0, h1, rfl, rfl, by simp, by simp⟩
        · split at hm
          · cases hm
          · exact h.pg _ _ hm
      · simp [puse, fget_fset, fget_fins hw'.sorted hg']
      · by_cases hmv : m = v
        · subst hmv
          exact .inr ⟨by simp [puse, fget_fset, fget_fins hw'.sorted hg', fget_fdel, hm], g, hvg, hvp⟩
        · exact .inl (by simp [puse, fget_fset, fget_fins hw'.sorted hg', fget_fdel, hm, hmv])

/-- Unpin lets it go. -/
theorem cl_unpin {p : PS} {F n : Int} {f : FrT} (h : Cln F p) (hg : fget p.held n = some f) (h1 : f.pins = 1) :
    ∃ p', punpin p n = (p', 0) ∧ Cln F p' ∧ p'.held = fset p.held n { f with pins := 0 } := by
  have hf := h.pg _ _ hg
  refine ⟨{ p with held := fset p.held n { f with pins := 0 } }, by rw [punpin_at hg (by omega), h1]; rfl, ⟨h.fr, h.wf.set (by rw [hg]; rfl), by simp only [fset_len]; exact h.len, fun m g hm => ?_⟩, rfl⟩
  simp only [fget_fset] at hm
  split at hm
  · rename_i hmn
    rw [hg] at hm
    simp at hm
    subst hm hmn
    exact ⟨hf.1, hf.2.1, hf.2.2.1, hf.2.2.2.1, by simp, by simp⟩
  · exact h.pg _ _ hm

/-- Page 0 is pinned, and no other. -/
structure PinsI (F : Int) (p : PS) : Prop extends Cln F p where
  zero : ∃ f, fget p.held 0 = some f ∧ f.pins = 1
  rest : ∀ n f, fget p.held n = some f → n ≠ 0 → f.pins = 0

theorem pins_step {e : PEnv} {s : e.σ} {p : PS} {F n : Int} (h : PinsI F p) (hF : 2 ≤ F) (hr : e.rd s n = (Z512, 0)) (h0 : 1 ≤ n) (h1 : n < 8) :
    ∃ p1 p2, ppin e s p n = (s, p1, Z512, 0) ∧ punpin p1 n = (p2, 0) ∧ Cln F p1 ∧ PinsI F p2 := by
  obtain ⟨f0, hf0, hp0⟩ := h.zero
  have hroom : (p.held.length : Int) < F ∨ (∃ m f, fget p.held m = some f ∧ f.pins = 0) := by
    by_cases hl : (p.held.length : Int) < F
    · exact .inl hl
    · obtain ⟨m, f, hm, hne⟩ := cl_two h.wf (by omega) 0
      exact .inr ⟨m, f, hm, h.rest _ _ hm hne⟩
  obtain ⟨p1, e1, c1, ⟨f1, hg1, hp1⟩, k1⟩ := cl_pin h.toCln hr (by omega) h1 (fun f hf => h.rest _ _ hf (by omega)) hroom
  obtain ⟨p2, e2, c2, k2⟩ := cl_unpin c1 hg1 hp1
  refine ⟨p1, p2, e1, e2, c1, { c2 with zero := ?_, rest := ?_ }⟩
  · refine ⟨f0, ?_, hp0⟩
    rw [k2, fget_fset, if_neg (by omega)]
    rcases k1 0 (by omega) with h | ⟨_, f, h, hp⟩
    · rw [h]; exact hf0
    · rw [hf0] at h; cases h; omega
  · intro m g hm hm0
    rw [k2, fget_fset] at hm
    split at hm
    · rw [hg1] at hm
      simp at hm
      subst hm; rfl
    · rename_i hmn
      rcases k1 m hmn with h2 | ⟨h2, _⟩
      · rw [h2] at hm; exact h.rest _ _ hm hm0
      · rw [h2] at hm; cases hm
theorem pins_full {e : PEnv} {s : e.σ} {p : PS} {n : Int} (h : PinsI 1 p) (h0 : 1 ≤ n) : ppin e s p n = (s, p, [], 10) := by
  obtain ⟨f0, hf0, hp0⟩ := h.zero
  have hl := h.len
  have hne : p.held.length ≠ 0 := by
    intro h
    have := fget_mem hf0
    rw [List.length_eq_zero_iff.1 h] at this
    cases this
  have hno : ∀ m, m ≠ 0 → fget p.held m = none := fun m hm => cl_one h.wf (by omega) hf0 hm
  refine ppin_full (hno n (by omega)) (by rw [h.fr]; omega) (pvictim_none fun m f hm => ?_)
  by_cases hm0 : m = 0
  · subst hm0; rw [hf0] at hm; cases hm; omega
  · rw [hno m hm0] at hm; cases hm
theorem pins_first {e : PEnv} {s : e.σ} {F : Int} (h1 : 1 ≤ F) (hr : e.rd s 0 = (Z512, 0)) : ∃ p, ppin e s ⟨F, [], []⟩ 0 = (s, p, Z512, 0) ∧ PinsI F p := by
  have c : Cln F ⟨F, [], []⟩ := ⟨rfl, ⟨List.Pairwise.nil, fun n => by simp [fget], List.nodup_nil⟩, by simp; omega, fun n f h => by simp [fget] at h⟩
  obtain ⟨p, e1, c1, z, k⟩ := cl_pin (e := e) (s := s) c hr (by omega) (by omega) (fun f h => by simp [fget] at h) (.inl (by simp; omega))
  refine ⟨p, e1, { c1 with zero := z, rest := fun m f hm hm0 => ?_ }⟩
  rcases k m hm0 with h | ⟨h, _⟩
  · rw [h] at hm; simp [fget] at hm
  · rw [h] at hm; cases hm
end Go.Sx
end

section
/- Statements of layer 10: what each begins with; PoolPins. -/
set_option linter.unusedVariables false
set_option linter.unusedSimpArgs false
set_option maxRecDepth 100000
namespace Go.Sx
open Go Go.RowKit
variable {K : Value → World → Prop} {w : World}

theorem Cln.ok8 {F : Int} {p : PS} {e : PEnv} (h : Cln F p) (he : e.pages = 8) : p.Ok e.pages 1 := by rw [he]; exact h.ok

/-! ### speaks -/
def fz : FrT := ⟨Z512, 0, false⟩
def fo : FrT := ⟨Z512, 1, false⟩
section
variable {e : PEnv} {s : e.σ}
theorem sp1 (hr : e.rd s 1 = (Z512, 0)) : ppin e s ⟨2, [], []⟩ 1 = (s, ⟨2, [(1, fo)], [1]⟩, Z512, 0) := by
  rw [ppin_room rfl (by decide) hr Z512_whole]; rfl
theorem sp2 (hr : e.rd s 2 = (Z512, 0)) : ppin e s ⟨2, [(1, fo)], [1]⟩ 2 = (s, ⟨2, [(1, fo), (2, fo)], [1, 2]⟩, Z512, 0) := by
  rw [ppin_room rfl (by decide) hr Z512_whole]; rfl
theorem sp3 : punpin ⟨2, [(1, fo), (2, fo)], [1, 2]⟩ 1 = (⟨2, [(1, fz), (2, fo)], [1, 2]⟩, 0) := by
  rw [punpin_at (f := fo) rfl (by decide)]; rfl
theorem sp4 (hr : e.rd s 3 = (Z512, 0)) : ppin e s ⟨2, [(1, fz), (2, fo)], [1, 2]⟩ 3 = (s, ⟨2, [(2, fo), (3, fo)], [2, 3]⟩, Z512, 0) := by
  rw [ppin_swap (v := 1) (f := fz) rfl (by decide) rfl rfl rfl hr Z512_whole]; rfl
theorem spWf {p : PS} (h : p.held.Pairwise fun a b => a.1 < b.1) (hu : p.used = p.held.map Prod.fst) : p.Wf := by
  refine ⟨h, fun n => ?_, ?_⟩
  · rw [hu, fget_isSome]; simp
  · rw [hu, List.nodup_iff_pairwise_ne, List.pairwise_map]; exact h.imp (fun h => by omega)
theorem spCl {p : PS} (h : p.held.Pairwise fun a b => a.1 < b.1) (hu : p.used = p.held.map Prod.fst) (hf : p.frames = 2) (hl : p.held.length ≤ 2) (hx : ∀ x ∈ p.held, 0 ≤ x.1 ∧ x.1 < 8 ∧ (x.2 = fz ∨ x.2 = fo)) : Cln 2 p := by
  refine ⟨hf, spWf h hu, by omega, fun n f hg => ?_⟩
  obtain ⟨a, b, c⟩ := hx _ (fget_mem hg)
  rcases c with rfl | rfl
  · exact ⟨a, b, rfl, rfl, by decide, by decide⟩
  · exact ⟨a, b, rfl, rfl, by decide, by decide⟩
end

/-- each log of the statements that takes all -/
theorem okS (x : Value) (K : Value → World → Prop) (w : World) (h : K (int 0) w) : call Pg F.concordancelaw10_speaks_c1 [x] K w := by
  refine concordancelaw10_speaks_c1_call ?_
  unfold concordancelaw10_speaks_c1
  refine lv_i ?_
  exact h
theorem okP (x : Value) (K : Value → World → Prop) (w : World) (h : K (int 0) w) : call Pg F.concordancelaw10_PoolPins_c1 [x] K w := by
  refine concordancelaw10_PoolPins_c1_call ?_
  unfold concordancelaw10_PoolPins_c1
  refine lv_i ?_
  exact h

/-- A device, an area, a pool with a log that takes all. -/
theorem begin10ok {f : FuncId} (h : ∀ x (K : Value → World → Prop) w, K (int 0) w → call Pg f [x] K w) {fr : Int} (h1 : 1 ≤ fr) (h2 : fr ≤ 64) (hg : Glob w)
    (k : ∀ w' pv E (e : PEnv) (s : e.σ), e.pages = 8 → (∀ n, e.rd s n = (Z512, 0)) → Sys e w' pv E s ⟨fr, [], []⟩ → (∀ k, E k → w.heap.size ≤ k) → Qt w w' → K (.tuple #[pv, int 0]) w') :
    call Pg F.device_New [(.int .i64 40)] (fun t25 w => run Pg (Instr.extract t25 0) (fun t26 w => run Pg (Instr.extract t25 1) (fun t27 w =>
      call Pg F.twin_New [t26, (.int .i64 0), (.int .i64 2), (.int .i64 10), (.int .i64 8)] (fun t30 w => run Pg (Instr.extract t30 0) (fun t31 w => run Pg (Instr.extract t30 1) (fun t32 w =>
        call Pg F.pool_New [t31, int fr, .func (.func f) #[] #[]] K w) w) w) w) w) w) w := by
  refine begin10 hg (fun w1 av dv E1 hp hT hg1 hE1 q1 => ?_)
  have hI := okEnv h hp hT (dev0_rest 40) (fun h => by have := hE1 _ h; have := hg.lt; omega)
  refine @New_c _ w1 (env10 (okLog _ h) av dv hp) (dev0 40, ()) _ fr hI hg1 h1 h2 (fun pv w2 E2 hS q2 hE2 => ?_)
  refine k w2 pv E2 (env10 (okLog _ h) av dv hp) (dev0 40, ()) rfl (fun n => dev0_two _ _) hS (fun k hk => ?_) (q1.trans q2)
  have := q1.size
  rcases hE2 k hk with (h | h) | h
  · exact hE1 k h
  · exact h.elim
  · omega

theorem speaks10_c (hg : Glob w) (k : ∀ w', Qt w w' → K (.bool true) w') : call Pg F.concordancelaw10_speaks [] K w := by
  refine concordancelaw10_speaks_call ?_
  unfold concordancelaw10_speaks
  refine begin10ok okS (by decide) (by decide) hg (fun w2 pv E2 e s he hr hS hE2 q2 => ?_)
  refine run_i (s_extract rfl) ?_
  refine run_i (s_extract rfl) ?_
  refine run_i (p_neqF (by omega) _) ?_
  refine cn_fi ?_
  have c1 : Cln 2 ⟨2, [], []⟩ := spCl .nil rfl rfl (by decide) (fun x h => by cases h)
  have c2 : Cln 2 ⟨2, [(1, fo)], [1]⟩ := spCl (by simp) rfl rfl (by decide) (fun x h => by simp at h; subst h; exact ⟨by decide, by decide, .inr rfl⟩)
  have c3 : Cln 2 ⟨2, [(1, fo), (2, fo)], [1, 2]⟩ := spCl (by simp) rfl rfl (by decide) (fun x h => by simp at h; rcases h with rfl | rfl <;> exact ⟨by decide, by decide, .inr rfl⟩)
  have c4 : Cln 2 ⟨2, [(1, fz), (2, fo)], [1, 2]⟩ := spCl (by simp) rfl rfl (by decide) (fun x h => by simp at h; rcases h with rfl | rfl; exact ⟨by decide, by decide, .inl rfl⟩; exact ⟨by decide, by decide, .inr rfl⟩)
  refine Pin_c hS (c1.ok8 he) (by decide) (c1.few (by decide)) (by decide) (by omega) (fun w3 E3 hS m3 => ?_)
  rw [sp1 (hr 1)] at hS
  refine Pin_c hS (c2.ok8 he) (by decide) (c2.few (by decide)) (by decide) (by omega) (fun w4 E4 hS m4 => ?_)
  rw [sp2 (hr 2)] at hS
  refine Unpin_c hS (c3.ok8 he) (by decide) (fun w5 E5 hS m5 => ?_)
  rw [sp3] at hS
  refine Pin_c hS (c4.ok8 he) (by decide) (c4.few (by decide)) (by decide) (by omega) (fun w6 E6 hS m6 => ?_)
  rw [sp4 (hr 3)] at hS ⊢
  simp only at hS ⊢
  have q6 : Qt w w6 := (m3.trans (m4.trans (m5.trans m6))).done q2 hE2
  have hZ : Z512.length = 512 := by simp [Z512]
  refine run_i (s_extract rfl) ?_
  refine run_i (s_extract rfl) ?_
  refine run_i (p_eqlT (by omega) _) ?_
  refine gc_tti ?_
  refine run_i s_len_str ?_
  refine run_i (p_eqlT (by omega) _) ?_
  unfold concordancelaw10_speaks_g1
  refine pk_ti ?_
  refine gc_tti ?_
  refine Has_c hS (fun w7 q7 => ?_)
  have e1 : (fget [(2, fo), (3, fo)] 1).isSome = false := rfl
  have e2 : (fget [(2, fo), (3, fo)] 2).isSome = true := rfl
  have e3 : (fget [(2, fo), (3, fo)] 3).isSome = true := rfl
  simp only [e1]
  have hS := hS.qt q7
  refine run_i (p_not _) ?_
  unfold concordancelaw10_speaks_g2
  refine pk_ti ?_
  refine gc_tti ?_
  refine Has_c hS (fun w8 q8 => ?_)
  simp only [e2]
  have hS := hS.qt q8
  unfold concordancelaw10_speaks_g3
  refine pk_ti ?_
  refine gc_tti ?_
  refine Has_c hS (fun w9 q9 => ?_)
  simp only [e3]
  unfold concordancelaw10_speaks_g4
  refine pk_ti ?_
  refine lv_i ?_
  exact k w9 (q6.trans (q7.trans (q8.trans q9)))

/-! ### PoolPins -/
theorem Mv.fresh {w w1 w2 : World} {E E2 : Cov} (m : Mv w1 E w2 E2) (q : Qt w w1) (hE : ∀ k, E k → w.heap.size ≤ k) : ∀ k, E2 k → w.heap.size ≤ k := fun k hk => (m.grow k hk).elim (hE k) (fun h => by have := q.size; omega)
theorem mod7 (x : Int) : 0 ≤ ((x.tmod 7 + 7).tmod 7) ∧ ((x.tmod 7 + 7).tmod 7) < 7 := by
  have h1 := Int.tmod_lt_of_pos x (show (0 : Int) < 7 by decide)
  have h2 : -7 < x.tmod 7 := by
    have := Int.tmod_lt_of_pos (-x) (show (0 : Int) < 7 by decide)
    rw [Int.neg_tmod] at this; omega
  rw [Int.tmod_eq_emod_of_nonneg (by omega)]
  omega
theorem pins_shut {e : PEnv} {s : e.σ} {p : PS} {fr : Int} (h : PinsI fr p) : ∃ p1 p2, punpin p 0 = (p1, 0) ∧ punpin p1 0 = (p1, 17) ∧ pevict e s p1 0 = (s, p2, 0) ∧ Cln fr p1 ∧ fget p2.held 0 = none := by
  obtain ⟨f0, hf0, hp0⟩ := h.zero
  obtain ⟨p1, e1, c1, k1⟩ := cl_unpin h.toCln hf0 hp0
  have hg : fget p1.held 0 = some { f0 with pins := 0 } := by rw [k1, fget_fset, if_pos rfl, hf0]; rfl
  have hd := (h.pg _ _ hf0).2.2.2.1
  refine ⟨p1, _, e1, punpin_no hg rfl, pevict_clean hg (by simp) hd, c1, ?_⟩
  simp only
  rw [fget_fdel, if_pos rfl]

set_option maxHeartbeats 1000000 in
theorem PoolPins_c {lv : Value} {l : List Int} {a : Int} (hg : Glob w) (hl : Ar w 1 lv l.length (icells l)) (k : ∀ w', Qt w w' → K (.bool true) w') : callS Pg F.concordancelaw10_PoolPins [lv, int a] K w := by
  refine concordancelaw10_PoolPins_callS ?_
  unfold concordancelaw10_PoolPins
  refine speaks10_c hg (fun w1 q1 => ?_)
  have ha := and_le a (m := 3) (by decide) (by decide)
  refine run_i (p_not _) ?_
  refine cn_fi ?_
  refine run_i (p_and _) ?_
  refine run_i (p_addI (by omega) (by omega) _) ?_
  obtain ⟨fr, hfr⟩ : ∃ fr, fr = 1 + bitv (fun _ x y => x &&& y) .i64 a 3 := ⟨_, rfl⟩
  rw [← hfr]
  refine begin10ok okP (by omega) (by omega) (hg.qt q1) (fun w2 pv E2 e s he hr hS hE2 q2 => ?_)
  refine run_i (s_extract rfl) ?_
  refine run_i (s_extract rfl) ?_
  have hE2' : ∀ k, E2 k → w.heap.size ≤ k := fun k hk => by have := hE2 k hk; have := q1.size; omega
  have c0 : Cln fr ⟨fr, [], []⟩ := ⟨rfl, spWf .nil rfl, by simp; omega, fun n f h => by simp [fget] at h⟩
  obtain ⟨p3, e3, c3⟩ := pins_first (e := e) (s := s) (F := fr) (by omega) (hr 0)
  refine Pin_c hS (c0.ok8 he) (by decide) (c0.few (by omega)) (by decide) (by omega) (fun w3 E3 hS m3 => ?_)
  rw [e3] at hS ⊢
  simp only at hS ⊢
  refine run_i (s_extract rfl) ?_
  refine run_i (s_extract rfl) ?_
  refine run_i (p_neqF (by omega) _) ?_
  refine cn_fi ?_
  refine Lp_inv (concordancelaw10_PoolPins_l5_mono K) (fun st w' => ∃ (i : Nat) (E : Cov) (p : PS), st = ([], lv, int fr, pv, int i) ∧ i ≤ l.length ∧ i ≤ 40 ∧ Sys e w' pv E s p ∧ PinsI fr p ∧ (∀ k, E k → w.heap.size ≤ k) ∧ Qt w w')
    (fun st _ => match st.2.2.2.2 with | .int _ k => (40 - k).toNat | _ => 0) ⟨0, E3, p3, rfl, by omega, by omega, hS, c3, m3.fresh (q1.trans q2) hE2', m3.done (q1.trans q2) hE2'⟩ ?_
  rintro st w' ⟨i, E, p, rfl, hil, hi40, hS, hp, hE, q⟩
  obtain ⟨sa, sc, rfl⟩ := hl.shape
  have out : ∀ {w' : World} {E : Cov} {p : PS}, Sys e w' pv E s p → PinsI fr p → (∀ k, E k → w.heap.size ≤ k) → Qt w w' → concordancelaw10_PoolPins_j1 K [] pv w' := by
    intro w' E p hS hp hE q
    obtain ⟨p1, p2, u1, u2, u3, u4, u5⟩ := pins_shut (e := e) (s := s) hp
    unfold concordancelaw10_PoolPins_j1
    refine Unpin_c hS (hp.toCln.ok8 he) (by decide) (fun w4 E4 hS m4 => ?_)
    rw [u1] at hS ⊢
    simp only at hS ⊢
    refine run_i (p_eqlT (by omega) _) ?_
    refine gc_tti ?_
    refine Unpin_c hS (u4.ok8 he) (by decide) (fun w5 E5 hS m5 => ?_)
    rw [u2] at hS ⊢
    simp only at hS ⊢
    refine run_i (p_eqlT (by omega) _) ?_
    unfold concordancelaw10_PoolPins_g2
    refine pk_ti ?_
    refine gc_tti ?_
    refine Evict_c hS (u4.ok8 he) (fun w6 E6 hS m6 => ?_)
    rw [u3] at hS ⊢
    simp only at hS ⊢
    refine run_i (p_eqlT (by omega) _) ?_
    unfold concordancelaw10_PoolPins_g3
    refine pk_ti ?_
    refine gc_tti ?_
    refine Has_c hS (fun w7 q7 => ?_)
    rw [u5]
    simp only [Option.isSome_none]
    refine run_i (p_not _) ?_
    unfold concordancelaw10_PoolPins_g4
    refine pk_ti ?_
    refine lv_i ?_
    exact k w7 (((m4.trans (m5.trans m6)).done q hE).trans q7)
  by_cases h1 : (i : Int) < l.length
  · by_cases h2 : (i : Int) < 40
    · unfold concordancelaw10_PoolPins_l5
      simp only
      refine run_i s_len_sl ?_
      refine run_i (p_lssT (by omega) _) ?_
      refine gc_tti ?_
      refine run_i (p_lssT (by omega) _) ?_
      unfold concordancelaw10_PoolPins_g15
      refine pk_ti ?_
      refine cn_ti ?_
      unfold concordancelaw10_PoolPins_j6
      have hi : i < l.length := by omega
      refine (hl.qt q).load hi (u := int l[i]) (by simp [icells, hi]) SliceC.get PlainC.get rfl ?_
      have hm := mod7 l[i]
      refine run_i (p_rem (by omega) _) ?_
      refine run_i (p_add _) ?_
      refine run_i (p_rem (by omega) _) ?_
      refine run_i (p_add _) ?_
      have hm0 : -7 < l[i].tmod 7 ∧ l[i].tmod 7 < 7 := by
        have h1 := Int.tmod_lt_of_pos l[i] (show (0 : Int) < 7 by decide)
        have := Int.tmod_lt_of_pos (-l[i]) (show (0 : Int) < 7 by decide)
        rw [Int.neg_tmod] at this; omega
      rw [wrapI (a := l[i].tmod 7 + 7) (by omega) (by omega), wrapI (by omega) (by omega)]
      obtain ⟨n, hn⟩ : ∃ n, n = 1 + (l[i].tmod 7 + 7).tmod 7 := ⟨_, rfl⟩
      rw [← hn]
      have next : ∀ {w5 : World} {E5 : Cov} {p5 : PS}, Sys e w5 pv E5 s p5 → PinsI fr p5 → (∀ k, E5 k → w.heap.size ≤ k) → Qt w w5 → concordancelaw10_PoolPins_j8 K (fun s' w' => (∃ (i : Nat) (E : Cov) (p : PS), s' = ([], Value.slice sa l.length sc, int fr, pv, int i) ∧ i ≤ l.length ∧ i ≤ 40 ∧ Sys e w' pv E s p ∧ PinsI fr p ∧ (∀ k, E k → w.heap.size ≤ k) ∧ Qt w w') ∧ (match s'.2.2.2.2 with | .int _ k => (40 - k).toNat | _ => 0) < (40 - (i : Int)).toNat) [] (.slice sa l.length sc) (int fr) pv (int i) w5 := by
        intro w5 E5 p5 hS hp hE q
        unfold concordancelaw10_PoolPins_j8
        refine Held_c hS (fun w6 va vd ha hd _ _ q6 => ?_)
        have hS := hS.qt q6
        obtain ⟨va1, va2, rfl⟩ := (Rd.of_own ha).shape
        obtain ⟨f0, hf0, hp0⟩ := hp.zero
        refine run_i (s_extract rfl) ?_
        refine run_i (s_extract rfl) ?_
        refine Has_c hS (fun w7 q7 => ?_)
        rw [hf0]
        simp only [Option.isSome_some]
        have hS := hS.qt q7
        have hlen := hp.len
        have hkl : (keysP p5.held).length = p5.held.length := by simp [keysP]
        refine run_i (p_not _) ?_
        refine gc_ffi ?_
        refine run_i s_len_sl ?_
        refine run_i (p_gtrF (by omega) _) ?_
        unfold concordancelaw10_PoolPins_g9
        refine pk_fi ?_
        refine gc_ffi ?_
        refine Evict_c hS (hp.toCln.ok8 he) (fun w8 E8 hS m8 => ?_)
        rw [pevict_pinned hf0 (by omega)] at hS ⊢
        simp only at hS ⊢
        refine run_i (p_neqF (by omega) _) ?_
        unfold concordancelaw10_PoolPins_g10
        refine pk_fi ?_
        refine cn_fi ?_
        refine run_i (p_addI (by omega) (by omega) _) ?_
        have q8 := q.trans (q6.trans q7)
        refine ⟨⟨i + 1, E8, p5, rfl, by omega, by omega, hS, hp, m8.fresh q8 hE, m8.done q8 hE⟩, ?_⟩
        simp only
        omega
      by_cases hf1 : fr = 1
      · have hp1 : PinsI 1 p := hf1 ▸ hp
        refine Pin_c hS (hp.toCln.ok8 he) (by decide) (hp.toCln.few (by omega)) (by omega) (by omega) (fun w3 E3 hS m3 => ?_)
        rw [pins_full hp1 (by omega)] at hS ⊢
        simp only at hS ⊢
        refine run_i (s_extract rfl) ?_
        refine run_i (s_extract rfl) ?_
        refine run_i (p_eqlF (by omega) _) ?_
        refine run_i (p_gtrF (by omega) _) ?_
        refine run_i s_bool_neq ?_
        refine gc_ffi ?_
        refine run_i (p_eqlT (by omega) _) ?_
        unfold concordancelaw10_PoolPins_g12
        refine gc_tti ?_
        refine run_i (p_neqF (by omega) _) ?_
        unfold concordancelaw10_PoolPins_g13
        refine gc_ffi ?_
        refine pk_ti ?_
        unfold concordancelaw10_PoolPins_g14
        refine pk_fi ?_
        refine cn_fi ?_
        unfold concordancelaw10_PoolPins_j7
        refine run_i (p_eqlF (by omega) _) ?_
        refine gc_fti ?_
        unfold concordancelaw10_PoolPins_g11
        refine pk_fi ?_
        refine cn_fi ?_
        exact next hS hp (m3.fresh q hE) (m3.done q hE)
      · obtain ⟨p1, p2, u1, u2, u3, u4⟩ := pins_step (e := e) (s := s) hp (by omega) (hr n) (by omega) (by omega)
        refine Pin_c hS (hp.toCln.ok8 he) (by decide) (hp.toCln.few (by omega)) (by omega) (by omega) (fun w3 E3 hS m3 => ?_)
        rw [u1] at hS ⊢
        simp only at hS ⊢
        refine run_i (s_extract rfl) ?_
        refine run_i (s_extract rfl) ?_
        refine run_i (p_eqlT (by omega) _) ?_
        refine run_i (p_gtrT (by omega) _) ?_
        refine run_i s_bool_neq ?_
        refine gc_ffi ?_
        refine run_i (p_eqlF (by omega) _) ?_
        unfold concordancelaw10_PoolPins_g12
        refine gc_fti ?_
        unfold concordancelaw10_PoolPins_g13
        refine gc_ffi ?_
        refine pk_fi ?_
        unfold concordancelaw10_PoolPins_g14
        refine pk_fi ?_
        refine cn_fi ?_
        unfold concordancelaw10_PoolPins_j7
        refine run_i (p_eqlT (by omega) _) ?_
        refine gc_tti ?_
        refine Unpin_c hS (u3.ok8 he) (by decide) (fun w4 E4 hS m4 => ?_)
        rw [u2] at hS ⊢
        simp only at hS ⊢
        refine run_i (p_neqF (by omega) _) ?_
        unfold concordancelaw10_PoolPins_g11
        refine pk_ti ?_
        refine cn_fi ?_
        exact next hS u4 ((m3.trans m4).fresh q hE) ((m3.trans m4).done q hE)
    · unfold concordancelaw10_PoolPins_l5
      simp only
      refine run_i s_len_sl ?_
      refine run_i (p_lssT (by omega) _) ?_
      refine gc_tti ?_
      refine run_i (p_lssF (by omega) _) ?_
      unfold concordancelaw10_PoolPins_g15
      refine pk_ti ?_
      refine cn_fi ?_
      exact out hS hp hE q
  · unfold concordancelaw10_PoolPins_l5
    simp only
    refine run_i s_len_sl ?_
    refine run_i (p_lssF (by omega) _) ?_
    refine gc_fti ?_
    unfold concordancelaw10_PoolPins_g15
    refine pk_fi ?_
    refine cn_fi ?_
    exact out hS hp hE q
end Go.Sx
end

section
/- A device that works; what a twin's Write does to it. -/
set_option linter.unusedVariables false
set_option linter.unusedSimpArgs false
set_option maxRecDepth 100000
namespace Go.Sx
open Go Go.RowKit

structure Hale (d : Dev) : Prop where
  off : d.off = false
  fuse : d.fuse = 0

/-- what is read, behind a command -/
def eff (f : Int → Text) : DCmd → Int → Text
  | .w i t => fun j => if j = i then padT t else f j
  | .s => f

theorem read_snoc (d : Dev) (l : List (Int × Text)) (x : Int × Text) (j : Int) (h : d.wait = l ++ [x]) : d.read j = if j = x.1 then x.2 else ({ d with wait := l } : Dev).read j := by
  unfold Dev.read
  rw [h, List.reverse_append]
  simp only [List.reverse_cons, List.reverse_nil, List.nil_append, List.cons_append, List.find?_cons]
  by_cases e : x.1 = j
  · simp [e]
  · have e' : ¬ j = x.1 := fun h => e h.symm
    simp [e, e']

theorem hale_cmd {d : Dev} (h : Hale d) : d.cmd = (true, { d with cmds := IntKind.i64.wrap (d.cmds + 1) }) := by
  unfold Dev.cmd
  rw [if_neg (by rw [h.fuse]; decide)]
  have : (if 1 < d.fuse then d.fuse - 1 else d.fuse) = d.fuse := if_neg (by rw [h.fuse]; decide)
  rw [this]

theorem hale_write {d : Dev} {i : Int} {t : Text} (h : Hale d) (h0 : 0 ≤ i) (h1 : i < d.size) (ht : t.length ≤ 256) :
    (d.write i t).2 = 0 ∧ Hale (d.write i t).1 ∧ (d.write i t).1.size = d.size ∧ ∀ j, (d.write i t).1.read j = if j = i then padT t else d.read j := by
  unfold Dev.write
  rw [h.off, if_neg (by simp), if_neg (by omega), if_neg (by omega), hale_cmd h]
  rw [if_pos (by rfl)]
  refine ⟨rfl, ⟨h.off, h.fuse⟩, rfl, fun j => ?_⟩
  rw [read_snoc _ d.wait (i, padT t) j rfl]
  rfl

theorem sync_read (l : List (Int × Text)) : ∀ (d : Dev) (j : Int), d.wait = l → (syncMap l d.last j).getD (List.replicate 256 0) = d.read j := by
  have key : ∀ (l : List (Int × Text)) (d : Dev) (j : Int), d.wait = l.reverse → (syncMap l.reverse d.last j).getD (List.replicate 256 0) = d.read j := by
    intro l
    induction l with
    | nil => intro d j h; unfold Dev.read; rw [h]; rfl
    | cons x l ih =>
      intro d j h
      rw [List.reverse_cons] at h ⊢
      rw [read_snoc d l.reverse x j h, syncMap_snoc]
      unfold setT
      by_cases e : j = x.1
      · simp [e]
      · have e' : ¬ x.1 = j := fun h => e h.symm
        rw [if_neg e, if_neg e']
        exact ih { d with wait := l.reverse } j rfl
  intro d j h
  have := key l.reverse d j (by rw [List.reverse_reverse]; exact h)
  rw [List.reverse_reverse] at this
  exact this

theorem hale_sync {d : Dev} (h : Hale d) : d.sync.2 = 0 ∧ Hale d.sync.1 ∧ d.sync.1.size = d.size ∧ ∀ j, d.sync.1.read j = d.read j := by
  unfold Dev.sync
  rw [h.off, if_neg (by simp), hale_cmd h]
  rw [if_pos (by rfl)]
  refine ⟨rfl, ⟨h.off, h.fuse⟩, rfl, fun j => ?_⟩
  rw [← sync_read d.wait d j rfl]
  rfl

theorem hale_runs {size : Int} : ∀ (cs : List DCmd) (d : Dev), (∀ c ∈ cs, c.Ok size) → Hale d → d.size = size →
    (runs cs d).2 = 0 ∧ Hale (runs cs d).1 ∧ (runs cs d).1.size = size ∧ ∀ j, (runs cs d).1.read j = (cs.foldl eff d.read) j := by
  intro cs
  induction cs with
  | nil => intro d _ h hs; exact ⟨rfl, h, hs, fun j => rfl⟩
  | cons c cs ih =>
    intro d hc h hs
    have h1 : (c.run d).2 = 0 ∧ Hale (c.run d).1 ∧ (c.run d).1.size = d.size ∧ ∀ j, (c.run d).1.read j = eff d.read c j := by
      cases c with
      | w i t =>
        have := hc (.w i t) (by simp)
        exact hale_write h this.1 (by rw [hs]; exact this.2.1) this.2.2
      | s => exact hale_sync h
    obtain ⟨a1, a2, a3, a4⟩ := h1
    obtain ⟨b1, b2, b3, b4⟩ := ih (c.run d).1 (fun c h => hc c (by simp [h])) a2 (by rw [a3, hs])
    unfold runs
    rw [if_neg (by rw [a1]; simp)]
    refine ⟨b1, b2, b3, fun j => ?_⟩
    rw [b4 j, List.foldl_cons, show (c.run d).1.read = eff d.read c from funext a4]

/-- pages that are written -/
def updT (g : Int → Text) (x : Int × Text) : Int → Text := fun n => if n = x.1 then x.2 else g n
def pageOf (a : Area) (f : Int → Text) (n : Int) : Text := f (a.from_ + 2 * n) ++ f (a.from_ + 2 * n + 1)

theorem eff_app (l1 l2 : List DCmd) (f : Int → Text) : (l1 ++ l2).foldl eff f = l2.foldl eff (l1.foldl eff f) := List.foldl_append

theorem padT_of {t : Text} (h : t.length = 256) : padT t = t := by unfold padT; rw [h]; simp

/-- the slots lie elsewhere. -/
theorem slots_eff {a : Area} {size : Int} (ha : a.Ok size) (j : Int) (hj : a.from_ ≤ j) (hj2 : j < a.from_ + 2 * a.pages) : ∀ (l : List (Int × Text)) (i : Int) (f : Int → Text), 0 ≤ i → i + l.length ≤ a.slots → ((slotsFrom a i l).foldl eff f) j = f j := by
  intro l
  induction l with
  | nil => intro i f _ _; rfl
  | cons x l ih =>
    intro i f h0 h1
    obtain ⟨a1, a2, a3, a4, a5, a6, a7, a8, a9⟩ := ha
    simp only [List.length_cons] at h1
    unfold slotsFrom
    rw [eff_app, ih (i + 1) _ (by omega) (by omega)]
    unfold slotCmds putCmds
    simp only [List.foldl_cons, List.foldl_nil, eff]
    rw [if_neg (by omega), if_neg (by omega), if_neg (by omega)]

theorem pages_eff {a : Area} : ∀ (l : List (Int × Text)) (f : Int → Text), (∀ x ∈ l, x.2.length = 512) → ∀ n, pageOf a ((pageCmds a l).foldl eff f) n = (l.foldl updT (pageOf a f)) n := by
  intro l
  induction l with
  | nil => intro f _ n; rfl
  | cons x l ih =>
    intro f hx n
    have h1 := hx x (by simp)
    have e : pageCmds a (x :: l) = putCmds (a.from_ + 2 * x.1) x.2 ++ pageCmds a l := by simp [pageCmds]
    have e3 : pageOf a ((putCmds (a.from_ + 2 * x.1) x.2).foldl eff f) = updT (pageOf a f) x := by
      funext m
      unfold pageOf putCmds updT
      simp only [List.foldl_cons, List.foldl_nil, eff]
      rw [padT_of (t := x.2.take 256) (by rw [List.length_take]; omega), padT_of (t := x.2.drop 256) (by rw [List.length_drop]; omega)]
      by_cases e : m = x.1
      · subst e
        rw [if_neg (by omega), if_pos rfl, if_pos rfl, if_pos rfl, List.take_append_drop]
      · rw [if_neg (by omega), if_neg (by omega), if_neg (by omega), if_neg (by omega), if_neg e]
    rw [e, eff_app, ih _ (fun y hy => hx y (by simp [hy])), List.foldl_cons, e3]

theorem fold_upd_congr (l : List (Int × Text)) : ∀ (g g' : Int → Text) (n : Int), (g n = g' n) → (l.foldl updT g) n = (l.foldl updT g') n := by
  induction l with
  | nil => intro g g' n h; exact h
  | cons x l ih =>
    intro g g' n h
    rw [List.foldl_cons, List.foldl_cons]
    refine ih _ _ n ?_
    unfold updT
    split
    · rfl
    · exact h

theorem write_eff {a : Area} {size : Int} (ha : a.Ok size) : ∀ (fu : Nat) (l : List (Int × Text)) (f : Int → Text), l.length ≤ fu → (∀ x ∈ l, x.2.length = 512) → ∀ n, 0 ≤ n → n < a.pages → pageOf a ((writeCmds a fu l).foldl eff f) n = (l.foldl updT (pageOf a f)) n := by
  intro fu
  induction fu with
  | zero =>
    intro l f hl _ n _ _
    have : l = [] := List.eq_nil_of_length_eq_zero (by omega)
    subst this; rfl
  | succ fu ih =>
    intro l f hl hx n h0 h1
    unfold writeCmds
    by_cases he : l = []
    · subst he; rfl
    · rw [if_neg he]
      have h3 := ha.h3
      have hlp : 0 < l.length := List.length_pos_iff.2 he
      rw [eff_app, ih _ _ (by rw [List.length_drop]; omega) (fun x h => hx x (List.mem_of_mem_drop h)) n h0 h1]
      have e : l.foldl updT (pageOf a f) = (l.drop a.slots.toNat).foldl updT ((l.take a.slots.toNat).foldl updT (pageOf a f)) := by rw [← List.foldl_append, List.take_append_drop]
      rw [e]
      refine fold_upd_congr _ _ _ n ?_
      unfold roundCmds
      rw [eff_app, eff_app, eff_app]
      have e1 : ∀ g : Int → Text, [DCmd.s].foldl eff g = g := fun g => rfl
      rw [e1, e1, pages_eff _ _ (fun x h => hx x (List.mem_of_mem_take h))]
      refine fold_upd_congr _ _ _ n ?_
      unfold pageOf
      have hlt : (0 : Int) + (l.take a.slots.toNat).length ≤ a.slots := by rw [List.length_take]; omega
      rw [slots_eff ha _ (by omega) (by omega) _ 0 f (by omega) hlt, slots_eff ha _ (by omega) (by omega) _ 0 f (by omega) hlt]

/-- A twin's Write upon a device that works. -/
theorem write_hale {a : Area} {size : Int} (ha : a.Ok size) {d : Dev} {l : List (Int × Text)} (h : Hale d) (hs : d.size = size) (hx : ∀ x ∈ l, 0 ≤ x.1 ∧ x.1 < a.pages ∧ x.2.length = 512) :
    (runs (writeCmds a l.length l) d).2 = 0 ∧ Hale (runs (writeCmds a l.length l) d).1 ∧ (runs (writeCmds a l.length l) d).1.size = size ∧
      ∀ n, 0 ≤ n → n < a.pages → pageOf a (runs (writeCmds a l.length l) d).1.read n = (l.foldl updT (pageOf a d.read)) n := by
  obtain ⟨b1, b2, b3, b4⟩ := hale_runs _ d (writeCmds_ok ha l.length l hx) h hs
  refine ⟨b1, b2, b3, fun n h0 h1 => ?_⟩
  have : (runs (writeCmds a l.length l) d).1.read = (writeCmds a l.length l).foldl eff d.read := funext b4
  rw [this]
  exact write_eff ha _ _ _ (Nat.le_refl _) (fun x h => (hx x h).2.2) n h0 h1
end Go.Sx
end

section
/- Pools over an area that works: what is read is what was put last. -/
set_option linter.unusedVariables false
set_option linter.unusedSimpArgs false
set_option maxRecDepth 100000
namespace Go.Sx
open Go Go.RowKit

/-- What lies below a pool works: G says what pages are there. -/
structure Sound (e : PEnv) (G : e.σ → (Int → Text) → Prop) : Prop where
  rd : ∀ {s D n}, G s D → 0 ≤ n → n < e.pages → e.rd s n = (D n, 0)
  wr : ∀ {s D} {l : List (Int × Text)}, G s D → (∀ x ∈ l, 0 ≤ x.1 ∧ x.1 < e.pages ∧ WholeT x.2) → (e.wr s l).2 = 0 ∧ ∃ D', G (e.wr s l).1 D' ∧ ∀ n, 0 ≤ n → n < e.pages → D' n = (l.foldl updT D) n
  flu : ∀ {s D n}, G s D → (e.flu s n).2 = 0 ∧ G (e.flu s n).1 D

theorem fold_upd_last {last : Int → Text} : ∀ (l : List (Int × Text)) (g : Int → Text) (n : Int), (∀ x ∈ l, x.2 = last x.1) → (g n = last n ∨ n ∈ l.map Prod.fst) → (l.foldl updT g) n = last n := by
  intro l
  induction l with
  | nil => intro g n _ h; simpa using h
  | cons x l ih =>
    intro g n hx h
    rw [List.foldl_cons]
    refine ih _ n (fun y hy => hx y (by simp [hy])) ?_
    by_cases e : n = x.1
    · left; unfold updT; rw [if_pos e, hx x (by simp), e]
    · rcases h with h | h
      · left; unfold updT; rw [if_neg e]; exact h
      · right; simpa [e] using h
theorem fold_upd_other : ∀ (l : List (Int × Text)) (g : Int → Text) (n : Int), n ∉ l.map Prod.fst → (l.foldl updT g) n = g n := by
  intro l
  induction l with
  | nil => intro g n _; rfl
  | cons x l ih =>
    intro g n h
    simp only [List.map_cons, List.mem_cons, not_or] at h
    rw [List.foldl_cons, ih _ _ h.2]
    unfold updT; rw [if_neg h.1]

theorem fdel_fset (h : List (Int × FrT)) (n : Int) (f : FrT) : fdel (fset h n f) n = fdel h n := by
  unfold fdel fset
  induction h with
  | nil => rfl
  | cons x h ih =>
    rw [List.map_cons, List.filter_cons, List.filter_cons]
    by_cases e : x.1 = n
    · simp [e, ih]
    · simp [e, ih]

/-- Each page reads as it was put last. -/
structure KP (e : PEnv) (G : e.σ → (Int → Text) → Prop) (F : Int) (s : e.σ) (p : PS) (D last : Int → Text) : Prop where
  good : G s D
  fr : p.frames = F
  wf : p.Wf
  len : (p.held.length : Int) ≤ F
  pg : ∀ n f, fget p.held n = some f → 0 ≤ n ∧ n < e.pages ∧ WholeT f.bytes ∧ 0 ≤ f.pins ∧ f.pins ≤ 1 ∧ f.bytes = last n ∧ (f.dirty = false → f.bytes = D n)
  rest : ∀ n, 0 ≤ n → n < e.pages → fget p.held n = none → D n = last n
  whole : ∀ n, 0 ≤ n → n < e.pages → WholeT (D n)

variable {e : PEnv} {G : e.σ → (Int → Text) → Prop} {F : Int} {s : e.σ} {p : PS} {D last : Int → Text}

theorem KP.ok (h : KP e G F s p D last) : p.Ok e.pages 1 := by
  refine ⟨fun n hn => (h.wf.same n).1 hn, fun x hx => ?_, fun x hx => ?_, h.wf.sorted, h.wf.nodup⟩
  · have := h.pg _ _ (fget_of_mem h.wf.sorted hx); exact ⟨this.2.2.2.1, this.2.2.2.2.1⟩
  · have := h.pg _ _ (fget_of_mem h.wf.sorted hx); exact ⟨this.1, this.2.1, this.2.2.1⟩
theorem KP.few (h : KP e G F s p D last) (hF : F ≤ 64) : p.Few := by
  have := h.len
  exact ⟨by omega, by rw [h.wf.len]; omega⟩

/-- one goes. -/
theorem kp_out (hs : Sound e G) (h : KP e G F s p D last) {v : Int} {f : FrT} (hf : fget p.held v = some f) :
    ∃ s' D', pout e s p v = (s', { p with held := fdel p.held v, used := p.used.erase v }, 0) ∧ KP e G F s' { p with held := fdel p.held v, used := p.used.erase v } D' last := by
  have hp := h.pg _ _ hf
  have mk : ∀ s' D', G s' D' → (∀ m, 0 ≤ m → m < e.pages → m ≠ v → D' m = D m) → D' v = last v → KP e G F s' { p with held := fdel p.held v, used := p.used.erase v } D' last := by
    intro s' D' hG hD hv
    have hl := fdel_len h.wf.sorted (n := v) (by rw [hf]; rfl)
    refine ⟨hG, h.fr, h.wf.del v, by have := h.len; simp only; omega, fun n g hg => ?_, fun n h0 h1 hn => ?_, fun n h0 h1 => ?_⟩
    · simp only [fget_fdel] at hg
      split at hg
      · cases hg
      · rename_i hne
        have := h.pg _ _ hg
        exact ⟨this.1, this.2.1, this.2.2.1, this.2.2.2.1, this.2.2.2.2.1, this.2.2.2.2.2.1, fun hd => by rw [hD n this.1 this.2.1 hne]; exact this.2.2.2.2.2.2 hd⟩
    · simp only [fget_fdel] at hn
      split at hn
      · rename_i e1; rw [e1]; exact hv
      · rename_i hne; rw [hD n h0 h1 hne]; exact h.rest n h0 h1 hn
    · by_cases e1 : n = v
      · rw [e1, hv, ← hp.2.2.2.2.2.1]; exact hp.2.2.1
      · rw [hD n h0 h1 e1]; exact h.whole n h0 h1
  cases hd : f.dirty with
  | false =>
    refine ⟨s, D, ?_, mk s D h.good (fun _ _ _ _ => rfl) (by rw [← hp.2.2.2.2.2.2 hd, hp.2.2.2.2.2.1])⟩
    unfold pout
    simp [hf, hd]
  | true =>
    have him : imgsP p.held [v] = [(v, f.bytes)] := by simp [imgsP, hf]
    obtain ⟨f1, f2⟩ := hs.flu (n := topOf (imgsP p.held [v])) h.good
    obtain ⟨w1, D', w2, w3⟩ := hs.wr (l := imgsP p.held [v]) f2 (fun x hx => by rw [him] at hx; simp at hx; subst hx; exact ⟨hp.1, hp.2.1, hp.2.2.1⟩)
    refine ⟨_, D', ?_, mk _ D' w2 (fun m h0 h1 hm => ?_) ?_⟩
    · unfold pout pwrite
      have hc : cleanP p.held v = fset p.held v { f with dirty := false } := by unfold cleanP; rw [hf]
      simp only [hf, hd, Option.map_some, Option.getD_some, if_true, List.cons_ne_nil, if_false, f1, w1, ne_eq, not_true, List.foldl_cons, List.foldl_nil, hc, fdel_fset]
    · rw [w3 m h0 h1, him]
      simp [updT, hm]
    · rw [w3 v hp.1 hp.2.1, him]
      simp [updT, hp.2.2.2.2.2.1]

/-- Pin takes it. -/
theorem kp_pin (hs : Sound e G) (h : KP e G F s p D last) {n : Int} (h0 : 0 ≤ n) (h1 : n < e.pages) (hn : ∀ f, fget p.held n = some f → f.pins = 0)
    (hroom : (p.held.length : Int) < F ∨ (∃ m f, fget p.held m = some f ∧ f.pins = 0)) :
    ∃ s' p' D', ppin e s p n = (s', p', last n, 0) ∧ KP e G F s' p' D' last ∧ (∃ f, fget p'.held n = some f ∧ f.pins = 1) ∧
      (∀ m f, m ≠ n → fget p'.held m = some f → fget p.held m = some f) ∧ p'.held.length ≤ p.held.length + 1 := by
  -- the page comes in
  have come : ∀ s1 p1 D1, KP e G F s1 p1 D1 last → fget p1.held n = none → (p1.held.length : Int) < F →
      KP e G F s1 (puse { p1 with held := fins p1.held n ⟨last n, 0, false⟩ } n ⟨last n, 0, false⟩) D1 last := by
    intro s1 p1 D1 k hg hl
    have hD := k.rest n h0 h1 hg
    refine ⟨k.good, k.fr, k.wf.ins hg, by simp only [puse, fset_len, fins_len hg]; omega, fun m g hm => ?_, fun m m0 m1 hm => ?_, k.whole⟩
    · simp only [puse, fget_fset, fget_fins k.wf.sorted hg] at hm
      split at hm
      · rename_i hmn
        simp at hm
        subst hm hmn
        exact ⟨h0, h1, by simp only; rw [← hD]; exact k.whole m h0 h1, by simp, by simp, rfl, fun _ => hD.symm⟩
      · exact k.pg _ _ hm
    · simp only [puse, fget_fset, fget_fins k.wf.sorted hg] at hm
      split at hm
      · simp at hm
      · exact k.rest m m0 m1 hm
  have rdn : ∀ s1 p1 D1, KP e G F s1 p1 D1 last → fget p1.held n = none → e.rd s1 n = (last n, 0) ∧ WholeT (last n) := by
    intro s1 p1 D1 k hg
    have hD := k.rest n h0 h1 hg
    rw [hs.rd k.good h0 h1, hD]
    exact ⟨rfl, by rw [← hD]; exact k.whole n h0 h1⟩
  cases hg : fget p.held n with
  | some f =>
    have hf := h.pg _ _ hg
    have hp := hn _ hg
    refine ⟨s, puse p n f, D, by rw [ppin_hit hg, hf.2.2.2.2.2.1], ⟨h.good, h.fr, h.wf.use (by rw [hg]; rfl), by simp only [puse, fset_len]; exact h.len, fun m g hm => ?_, fun m m0 m1 hm => ?_, h.whole⟩, ⟨{ f with pins := f.pins + 1 }, ?_, ?_⟩, fun m g hm hgm => ?_, by simp only [puse, fset_len]; omega⟩
    · simp only [puse, fget_fset] at hm
      split at hm
      · rename_i hmn
        rw [hg] at hm
        simp at hm
        subst hm hmn
        exact ⟨h0, h1, hf.2.2.1, by simp only; omega, by simp only; omega, hf.2.2.2.2.2.1, hf.2.2.2.2.2.2⟩
      · exact h.pg _ _ hm
    · simp only [puse, fget_fset] at hm
      split at hm
      · rename_i hmn; rw [hg] at hm; simp at hm
      · exact h.rest m m0 m1 hm
    · simp [puse, fget_fset, hg]
    · simp only; omega
    · simpa [puse, fget_fset, hm] using hgm
  | none =>
    by_cases hl : (p.held.length : Int) < p.frames
    · have hl' := hl
      rw [h.fr] at hl'
      obtain ⟨r1, r2⟩ := rdn s p D h hg
      refine ⟨s, _, D, ppin_room hg hl r1 r2, come s p D h hg hl', ⟨⟨last n, 1, false⟩, ?_, rfl⟩, fun m g hm hgm => ?_, by simp only [puse, fset_len, fins_len hg]; omega⟩
      · simp [puse, fget_fset, fget_fins h.wf.sorted hg]
      · simpa [puse, fget_fset, fget_fins h.wf.sorted hg, hm] using hgm
    · obtain ⟨m0, f0, hm0, hp0⟩ : ∃ m f, fget p.held m = some f ∧ f.pins = 0 := by
        rcases hroom with hr | hr
        · rw [h.fr] at hl; exact absurd hr hl
        · exact hr
      obtain ⟨v, g, hv, hvg, hvp⟩ := pvictim_some h.wf hm0 hp0
      obtain ⟨s', D', ho, ko⟩ := kp_out hs h hvg
      have hl2 := fdel_len h.wf.sorted (n := v) (by rw [hvg]; rfl)
      have hl3 := h.len
      have hg' : fget (fdel p.held v) n = none := by
        rw [fget_fdel]; split
        · rfl
        · exact hg
      have hsd : SortedF (fdel p.held v) := fdel_sorted h.wf.sorted
      obtain ⟨r1, r2⟩ := rdn s' _ D' ko hg'
      refine ⟨s', puse { p with held := fins (fdel p.held v) n ⟨last n, 0, false⟩, used := p.used.erase v } n ⟨last n, 0, false⟩, D', ?_, come s' { p with held := fdel p.held v, used := p.used.erase v } D' ko hg' (by show ((fdel p.held v).length : Int) < F; omega), ⟨⟨last n, 1, false⟩, ?_, rfl⟩, fun m g hm hgm => ?_, by simp only [puse, fset_len, fins_len hg']; omega⟩
      · unfold ppin pspace
        rw [hg, if_neg hl, hv]
        simp [ho, r1, r2]
      · simp [puse, fget_fset, fget_fins hsd hg']
      · simp [puse, fget_fset, fget_fins hsd hg', hm, fget_fdel] at hgm
        exact hgm.2

/-- Put: another text. -/
theorem kp_put (h : KP e G F s p D last) {n : Int} {f : FrT} {t : Text} (hg : fget p.held n = some f) (hp : f.pins = 1) (ht : WholeT t) :
    ∃ p' f', pput p n t = (p', 0) ∧ KP e G F s p' D (fun m => if m = n then t else last m) ∧ fget p'.held n = some f' ∧ f'.pins = 1 ∧ (∀ m f, m ≠ n → fget p'.held m = some f → fget p.held m = some f) := by
  have hf := h.pg _ _ hg
  refine ⟨{ p with held := fset p.held n { f with bytes := t, dirty := f.dirty || !decide (f.bytes = t) } }, { f with bytes := t, dirty := f.dirty || !decide (f.bytes = t) }, ?_, ⟨h.good, h.fr, h.wf.set (by rw [hg]; rfl), by simp only [fset_len]; exact h.len, fun m g hm => ?_, fun m m0 m1 hm => ?_, h.whole⟩, ?_, hp, fun m g hm hgm => ?_⟩
  · unfold pput; rw [hg]; simp [hp, ht]
  · simp only [fget_fset] at hm
    split at hm
    · rename_i hmn
      rw [hg] at hm
      simp at hm
      subst hm hmn
      refine ⟨hf.1, hf.2.1, ht, hf.2.2.2.1, hf.2.2.2.2.1, by simp, fun hd => ?_⟩
      simp at hd
      simp only
      rw [← hd.2]
      exact hf.2.2.2.2.2.2 hd.1
    · rename_i hmn
      have := h.pg _ _ hm
      exact ⟨this.1, this.2.1, this.2.2.1, this.2.2.2.1, this.2.2.2.2.1, by rw [if_neg hmn]; exact this.2.2.2.2.2.1, this.2.2.2.2.2.2⟩
  · simp only [fget_fset] at hm
    split at hm
    · rw [hg] at hm; simp at hm
    · rename_i hmn
      rw [if_neg hmn]; exact h.rest m m0 m1 hm
  · simp [fget_fset, hg]
  · simpa [fget_fset, hm] using hgm

/-- Unpin lets it go. -/
theorem kp_unpin (h : KP e G F s p D last) {n : Int} {f : FrT} (hg : fget p.held n = some f) (h1 : f.pins = 1) :
    ∃ p', punpin p n = (p', 0) ∧ KP e G F s p' D last ∧ fget p'.held n = some { f with pins := 0 } ∧ (∀ m f, m ≠ n → fget p'.held m = some f → fget p.held m = some f) := by
  have hf := h.pg _ _ hg
  refine ⟨{ p with held := fset p.held n { f with pins := 0 } }, by rw [punpin_at hg (by omega), h1]; rfl, ⟨h.good, h.fr, h.wf.set (by rw [hg]; rfl), by simp only [fset_len]; exact h.len, fun m g hm => ?_, fun m m0 m1 hm => ?_, h.whole⟩, ?_, fun m g hm hgm => ?_⟩
  · simp only [fget_fset] at hm
    split at hm
    · rename_i hmn
      rw [hg] at hm
      simp at hm
      subst hm hmn
      exact ⟨hf.1, hf.2.1, hf.2.2.1, by simp, by simp, hf.2.2.2.2.2.1, hf.2.2.2.2.2.2⟩
    · exact h.pg _ _ hm
  · simp only [fget_fset] at hm
    split at hm
    · rw [hg] at hm; simp at hm
    · exact h.rest m m0 m1 hm
  · simp [fget_fset, hg]
  · simpa [fget_fset, hm] using hgm

/-- Flush: all is below. -/
theorem kp_flush (hs : Sound e G) (h : KP e G F s p D last) :
    ∃ s' p' D', pwrite e s p (dirtyP p.held) = (s', p', 0) ∧ G s' D' ∧ (∀ n, 0 ≤ n → n < e.pages → D' n = last n) ∧ (∀ n, 0 ≤ n → n < e.pages → WholeT (D' n)) := by
  have hkey : ∀ n, n ∈ dirtyP p.held ↔ ∃ f, fget p.held n = some f ∧ f.dirty = true := by
    intro n
    unfold dirtyP
    simp only [List.mem_map, List.mem_filter]
    constructor
    · rintro ⟨x, ⟨hx, hd⟩, rfl⟩; exact ⟨x.2, fget_of_mem h.wf.sorted hx, hd⟩
    · rintro ⟨f, hf, hd⟩; exact ⟨(n, f), ⟨fget_mem hf, hd⟩, rfl⟩
  have hw : ∀ n, 0 ≤ n → n < e.pages → WholeT (last n) := by
    intro n h0 h1
    cases hg : fget p.held n with
    | none => rw [← h.rest n h0 h1 hg]; exact h.whole n h0 h1
    | some f => have := h.pg _ _ hg; rw [← this.2.2.2.2.2.1]; exact this.2.2.1
  have him : ∀ x ∈ imgsP p.held (dirtyP p.held), 0 ≤ x.1 ∧ x.1 < e.pages ∧ x.2 = last x.1 := by
    intro x hx
    unfold imgsP at hx
    obtain ⟨n, hn, rfl⟩ := List.mem_map.1 hx
    obtain ⟨f, hf, _⟩ := (hkey n).1 hn
    have := h.pg _ _ hf
    exact ⟨this.1, this.2.1, by simp [hf, this.2.2.2.2.2.1]⟩
  have hkeys : (imgsP p.held (dirtyP p.held)).map Prod.fst = dirtyP p.held := by
    unfold imgsP; rw [List.map_map]; exact List.map_id _
  by_cases hd : dirtyP p.held = []
  · refine ⟨s, p, D, by unfold pwrite; rw [if_pos hd], h.good, fun n h0 h1 => ?_, h.whole⟩
    cases hg : fget p.held n with
    | none => exact h.rest n h0 h1 hg
    | some f =>
      have := h.pg _ _ hg
      have hdf : f.dirty = false := by
        cases hfd : f.dirty with
        | false => rfl
        | true =>
          have := (hkey n).2 ⟨f, hg, hfd⟩
          rw [hd] at this; cases this
      rw [← this.2.2.2.2.2.2 hdf]; exact this.2.2.2.2.2.1
  · obtain ⟨f1, f2⟩ := hs.flu (n := topOf (imgsP p.held (dirtyP p.held))) h.good
    obtain ⟨w1, D', w2, w3⟩ := hs.wr (l := imgsP p.held (dirtyP p.held)) f2 (fun x hx => ⟨(him x hx).1, (him x hx).2.1, by rw [(him x hx).2.2]; exact hw _ (him x hx).1 (him x hx).2.1⟩)
    have hD : ∀ n, 0 ≤ n → n < e.pages → D' n = last n := by
      intro n h0 h1
      rw [w3 n h0 h1]
      refine fold_upd_last _ _ n (fun x hx => (him x hx).2.2) ?_
      rw [hkeys]
      cases hg : fget p.held n with
      | none => exact .inl (h.rest n h0 h1 hg)
      | some f =>
        have := h.pg _ _ hg
        cases hfd : f.dirty with
        | true => exact .inr ((hkey n).2 ⟨f, hg, hfd⟩)
        | false => left; rw [← this.2.2.2.2.2.2 hfd]; exact this.2.2.2.2.2.1
    refine ⟨_, { p with held := (dirtyP p.held).foldl cleanP p.held }, D', ?_, w2, hD, fun n h0 h1 => by rw [hD n h0 h1]; exact hw n h0 h1⟩
    unfold pwrite
    simp only [if_neg hd, f1, w1, ne_eq, not_true, if_false]
end Go.Sx
end

section
set_option maxRecDepth 100000
set_option linter.unusedVariables false
namespace Go.Sx
open Go
/-- concordance/concordanceref09.New -/
noncomputable def concordanceref09_New_body : Code := (Go.Proofs.Tryz.f21.body).getD .skip

def concordanceref09_New_j1 (K : Value → World → Prop) (ds : List Deferred) (x2 : Value) (x3 : Value) (w : World) : Prop :=
  run Pg (Instr.loadAt 49 x3) (fun t23_1 w =>
  runU Pg (Instr.storeAt 49 x2 t23_1) (fun w =>
  leaveW Pg ds (fun w => rn Pg (fun w' => w' = w) (loadS 49 x2) (fun t2_2 w =>
  K t2_2 w) w) w) w) w

theorem concordanceref09_New_j1_eq (K : Value → World → Prop) : W Pg (cR (cR (cR concordanceref09_New_body))) false (retQ Pg [.cell 2 49] K) = (fun s w => concordanceref09_New_j1 K s.ds (s.f 2) (s.f 3) w) :=
  by kernel_rfl

def concordanceref09_New_l2 (K : Value → World → Prop) (X1 : List Deferred × Value × Value × Value × Value → World → Prop) (st : List Deferred × Value × Value × Value × Value) (w : World) : Prop :=
  run Pg (binS .lss 3 false st.2.2.2.2 st.2.1) (fun t8_3 w =>
  cnd t8_3 (
  ∃ R : World → World → Prop, (∀ a, R a a) ∧ (∀ a b c, R a b → R b c → R a c) ∧ (rn Pg (fun _ => True) (Instr.fieldAt 49 st.2.2.2.1 0) (fun t11_4 w1 =>
  rn Pg (R w1) (Instr.loadAt 47 t11_4) (fun t12_5 w2 =>
  rn Pg (fun _ => True) (Instr.fieldAt 49 st.2.2.2.1 1) (fun t17_6 w3 =>
  rn Pg (R w3) (Instr.loadAt 47 t17_6) (fun t18_7 w4 =>
  (run Pg (Instr.makeSlice 42 (.int .i64 512) (.int .i64 512)) (fun t13_8 w5 =>
  R w4 w5 ∧ rn Pg (R w5) (convert 42 9 t13_8) (fun t14_9 w6 =>
  (run Pg (Instr.buildSlice 47 1 #[(0, t14_9)]) (fun t15_10 w7 =>
  R w6 w7 ∧ (run Pg (Builtin.append_ #[47, 47] 47 #[t12_5, t15_10]) (fun t16_11 w8 =>
  R w7 w8 ∧ rn Pg (fun _ => True) (Instr.fieldAt 49 st.2.2.2.1 0) (fun t21_12 w9 =>
  run Pg (Instr.buildSlice 47 1 #[(0, (.string ⟨#[]⟩))]) (fun t19_13 w10 =>
  R w9 w10 ∧ run Pg (Builtin.append_ #[47, 47] 47 #[t18_7, t19_13]) (fun t20_14 w11 =>
  runU Pg (Instr.storeAt 47 t21_12 t16_11) (fun w12 =>
  rn Pg (fun _ => True) (Instr.fieldAt 49 st.2.2.2.1 1) (fun t22_15 w13 =>
  runU Pg (Instr.storeAt 47 t22_15 t20_14) (fun w14 =>
  run Pg (binS .add 3 true st.2.2.2.2 (.int .i64 1)) (fun t10_16 w =>
  X1 (st.1, st.2.1, st.2.2.1, st.2.2.2.1, t10_16) w) w14) w13) w12) w11) w10) w9) w8) w7) ∧ (run Pg (Instr.buildSlice 47 1 #[(0, (.string ⟨#[]⟩))]) (fun t19_17 w15 =>
  R w7 w15 ∧ run Pg (Builtin.append_ #[47, 47] 47 #[t12_5, t15_10]) (fun t16_18 w16 =>
  R w15 w16 ∧ rn Pg (fun _ => True) (Instr.fieldAt 49 st.2.2.2.1 0) (fun t21_19 w17 =>
  run Pg (Builtin.append_ #[47, 47] 47 #[t18_7, t19_17]) (fun t20_20 w18 =>
  runU Pg (Instr.storeAt 47 t21_19 t16_18) (fun w19 =>
  rn Pg (fun _ => True) (Instr.fieldAt 49 st.2.2.2.1 1) (fun t22_21 w20 =>
  runU Pg (Instr.storeAt 47 t22_21 t20_20) (fun w21 =>
  run Pg (binS .add 3 true st.2.2.2.2 (.int .i64 1)) (fun t10_22 w =>
  X1 (st.1, st.2.1, st.2.2.1, st.2.2.2.1, t10_22) w) w21) w20) w19) w18) w17) w16) w15) w7)) w6) ∧ (run Pg (Instr.buildSlice 47 1 #[(0, (.string ⟨#[]⟩))]) (fun t19_23 w22 =>
  R w6 w22 ∧ run Pg (Instr.buildSlice 47 1 #[(0, t14_9)]) (fun t15_24 w23 =>
  R w22 w23 ∧ run Pg (Builtin.append_ #[47, 47] 47 #[t12_5, t15_24]) (fun t16_25 w24 =>
  R w23 w24 ∧ rn Pg (fun _ => True) (Instr.fieldAt 49 st.2.2.2.1 0) (fun t21_26 w25 =>
  run Pg (Builtin.append_ #[47, 47] 47 #[t18_7, t19_23]) (fun t20_27 w26 =>
  runU Pg (Instr.storeAt 47 t21_26 t16_25) (fun w27 =>
  rn Pg (fun _ => True) (Instr.fieldAt 49 st.2.2.2.1 1) (fun t22_28 w28 =>
  runU Pg (Instr.storeAt 47 t22_28 t20_27) (fun w29 =>
  run Pg (binS .add 3 true st.2.2.2.2 (.int .i64 1)) (fun t10_29 w =>
  X1 (st.1, st.2.1, st.2.2.1, st.2.2.2.1, t10_29) w) w29) w28) w27) w26) w25) w24) w23) w22) w6)) w5) w4) ∧ (run Pg (Instr.buildSlice 47 1 #[(0, (.string ⟨#[]⟩))]) (fun t19_30 w30 =>
  R w4 w30 ∧ run Pg (Instr.makeSlice 42 (.int .i64 512) (.int .i64 512)) (fun t13_31 w31 =>
  R w30 w31 ∧ rn Pg (R w31) (convert 42 9 t13_31) (fun t14_32 w32 =>
  run Pg (Instr.buildSlice 47 1 #[(0, t14_32)]) (fun t15_33 w33 =>
  R w32 w33 ∧ run Pg (Builtin.append_ #[47, 47] 47 #[t12_5, t15_33]) (fun t16_34 w34 =>
  R w33 w34 ∧ rn Pg (fun _ => True) (Instr.fieldAt 49 st.2.2.2.1 0) (fun t21_35 w35 =>
  run Pg (Builtin.append_ #[47, 47] 47 #[t18_7, t19_30]) (fun t20_36 w36 =>
  runU Pg (Instr.storeAt 47 t21_35 t16_34) (fun w37 =>
  rn Pg (fun _ => True) (Instr.fieldAt 49 st.2.2.2.1 1) (fun t22_37 w38 =>
  runU Pg (Instr.storeAt 47 t22_37 t20_36) (fun w39 =>
  run Pg (binS .add 3 true st.2.2.2.2 (.int .i64 1)) (fun t10_38 w =>
  X1 (st.1, st.2.1, st.2.2.1, st.2.2.2.1, t10_38) w) w39) w38) w37) w36) w35) w34) w33) w32) w31) w30) w4)) w3) w2) w1) w.drew)) (
  concordanceref09_New_j1 K st.1 st.2.2.1 st.2.2.2.1 w)) w

theorem concordanceref09_New_l2_eq (K : Value → World → Prop) (X1 : List Deferred × Value × Value × Value × Value → World → Prop) : W Pg (cB (cB (cR (cL (cR (cR concordanceref09_New_body)))))) false (thenP (fun s w => X1 (s.ds, s.f 0, s.f 2, s.f 3, s.f 4) w) (blockP 0 (thenP (fun s w => concordanceref09_New_j1 K s.ds (s.f 2) (s.f 3) w) (retQ Pg [.cell 2 49] K)))) = (fun s w => concordanceref09_New_l2 K X1 (s.ds, s.f 0, s.f 2, s.f 3, s.f 4) w) :=
  by kernel_rfl

theorem concordanceref09_New_l2_mono (K : Value → World → Prop) : ∀ X Y : List Deferred × Value × Value × Value × Value → World → Prop, (∀ t w, X t w → Y t w) → ∀ t w, concordanceref09_New_l2 K X t w → concordanceref09_New_l2 K Y t w :=
  loop_mono (fun s : St => ((s.ds, s.f 0, s.f 2, s.f 3, s.f 4) : List Deferred × Value × Value × Value × Value)) (fun X1 => concordanceref09_New_l2_eq K X1) (fun t => ⟨fun i => (bif Nat.beq i 0 then t.2.1 else (bif Nat.beq i 2 then t.2.2.1 else (bif Nat.beq i 3 then t.2.2.2.1 else (bif Nat.beq i 4 then t.2.2.2.2 else undef)))), t.1⟩) (fun _ => rfl)

def concordanceref09_New (K : Value → World → Prop) (ds : List Deferred) (x0 : Value) (w : World) : Prop :=
  run Pg (Instr.alloc 49 true (.tuple #[])) (fun t2_39 w =>
  run Pg (Instr.build 49 #[]) (fun t5_40 w =>
  run Pg (Instr.alloc 49 true (.tuple #[])) (fun p_41 w =>
  runU Pg (Instr.storeAt 49 p_41 t5_40) (fun w =>
  Lp (concordanceref09_New_l2 K) (ds, x0, t2_39, p_41, (.int .i64 0)) w) w) w) w) w

theorem concordanceref09_New_eq (K : Value → World → Prop) : W Pg concordanceref09_New_body false (retQ Pg [.cell 2 49] K) = (fun s w => concordanceref09_New K s.ds (s.f 0) w) :=
  Eq.trans (eqSeq (eqSeq ((eqSeq (concordanceref09_New_j1_eq K)).trans (eqSeq (eqBlock (eqLoop (rd := false) (fun s : St => ((s.ds, s.f 0, s.f 2, s.f 3, s.f 4) : List Deferred × Value × Value × Value × Value)) (fun X1 => concordanceref09_New_l2_eq K X1))))))) (by kernel_rfl)

theorem concordanceref09_New_ok : FnOk Pg F.concordanceref09_New Go.Proofs.Tryz.f21 concordanceref09_New_body 1 := ⟨Go.Proofs.Tryz.func21, by kernel_rfl, by kernel_rfl, by kernel_rfl, by kernel_rfl, by kernel_rfl⟩

theorem concordanceref09_New_callS {K : Value → World → Prop} {x0 : Value} {w : World} (h : concordanceref09_New K [] x0 w) : callS Pg F.concordanceref09_New [x0] K w :=
  call_of_W concordanceref09_New_ok (Eq.mpr (congrFun (congrFun (concordanceref09_New_eq K) ⟨argFr [x0], []⟩) w) h)

theorem concordanceref09_New_call {K : Value → World → Prop} {x0 : Value} {w : World} (h : concordanceref09_New K [] x0 w) : call Pg F.concordanceref09_New [x0] K w := .inl (concordanceref09_New_callS h)

/-- concordance/concordancelaw10.numbers -/
noncomputable def concordancelaw10_numbers_body : Code := (Go.Proofs.Tryz.f29.body).getD .skip

def concordancelaw10_numbers_j1 (K : Value → World → Prop) (ds : List Deferred) (w : World) : Prop :=
  leaveW Pg ds (fun w => K (.bool true) w) w

theorem concordancelaw10_numbers_j1_eq (K : Value → World → Prop) : W Pg (cR (cR (cR concordancelaw10_numbers_body))) false (retQ Pg [.tmp 4] K) = (fun s w => concordancelaw10_numbers_j1 K s.ds  w) :=
  by kernel_rfl

def concordancelaw10_numbers_l2 (K : Value → World → Prop) (X1 : List Deferred × Value × Value × Value → World → Prop) (st : List Deferred × Value × Value × Value) (w : World) : Prop :=
  run Pg (Builtin.len_ #[22] 3 #[st.2.1]) (fun t13_1 w =>
  run Pg (binS .lss 3 false st.2.2.2 t13_1) (fun t14_2 w =>
  cnd t14_2 (
  rn Pg (fun _ => True) (Instr.indexAt 22 st.2.1 st.2.2.2) (fun t19_3 w =>
  rn Pg (fun w' => w' = w) (Instr.loadAt 3 t19_3) (fun t20_4 w =>
  rn Pg (fun _ => True) (Instr.indexAt 22 st.2.2.1 st.2.2.2) (fun t23_5 w =>
  rn Pg (fun w' => w' = w) (Instr.loadAt 3 t23_5) (fun t24_6 w =>
  rn Pg (fun _ => True) (binS .neq 3 false t20_4 t24_6) (fun t25_7 w =>
  cnd t25_7 (
  leaveW Pg st.1 (fun w => K (.bool false) w) w) (
  run Pg (binS .add 3 true st.2.2.2 (.int .i64 1)) (fun t16_8 w =>
  X1 (st.1, st.2.1, st.2.2.1, t16_8) w) w)) w) w) w) w) w.drew) (
  concordancelaw10_numbers_j1 K st.1  w)) w) w

theorem concordancelaw10_numbers_l2_eq (K : Value → World → Prop) (X1 : List Deferred × Value × Value × Value → World → Prop) : W Pg (cB (cB (cR (cL (cR (cR concordancelaw10_numbers_body)))))) false (thenP (fun s w => X1 (s.ds, s.f 0, s.f 1, s.f 5) w) (blockP 0 (thenP (fun s w => concordancelaw10_numbers_j1 K s.ds  w) (retQ Pg [.tmp 4] K)))) = (fun s w => concordancelaw10_numbers_l2 K X1 (s.ds, s.f 0, s.f 1, s.f 5) w) :=
  by kernel_rfl

theorem concordancelaw10_numbers_l2_mono (K : Value → World → Prop) : ∀ X Y : List Deferred × Value × Value × Value → World → Prop, (∀ t w, X t w → Y t w) → ∀ t w, concordancelaw10_numbers_l2 K X t w → concordancelaw10_numbers_l2 K Y t w :=
  loop_mono (fun s : St => ((s.ds, s.f 0, s.f 1, s.f 5) : List Deferred × Value × Value × Value)) (fun X1 => concordancelaw10_numbers_l2_eq K X1) (fun t => ⟨fun i => (bif Nat.beq i 0 then t.2.1 else (bif Nat.beq i 1 then t.2.2.1 else (bif Nat.beq i 5 then t.2.2.2 else undef))), t.1⟩) (fun _ => rfl)

def concordancelaw10_numbers (K : Value → World → Prop) (ds : List Deferred) (x0 : Value) (x1 : Value) (w : World) : Prop :=
  run Pg (Builtin.len_ #[22] 3 #[x0]) (fun t7_9 w =>
  run Pg (Builtin.len_ #[22] 3 #[x1]) (fun t9_10 w =>
  run Pg (binS .neq 3 false t7_9 t9_10) (fun t10_11 w =>
  cnd t10_11 (
  leaveW Pg ds (fun w => K (.bool false) w) w) (
  Lp (concordancelaw10_numbers_l2 K) (ds, x0, x1, (.int .i64 0)) w)) w) w) w

theorem concordancelaw10_numbers_eq (K : Value → World → Prop) : W Pg concordancelaw10_numbers_body false (retQ Pg [.tmp 4] K) = (fun s w => concordancelaw10_numbers K s.ds (s.f 0) (s.f 1) w) :=
  Eq.trans (eqSeq (eqSeq ((eqSeq (concordancelaw10_numbers_j1_eq K)).trans (eqSeq (eqBlock (eqLoop (rd := false) (fun s : St => ((s.ds, s.f 0, s.f 1, s.f 5) : List Deferred × Value × Value × Value)) (fun X1 => concordancelaw10_numbers_l2_eq K X1))))))) (by kernel_rfl)

theorem concordancelaw10_numbers_ok : FnOk Pg F.concordancelaw10_numbers Go.Proofs.Tryz.f29 concordancelaw10_numbers_body 2 := ⟨Go.Proofs.Tryz.func29, by kernel_rfl, by kernel_rfl, by kernel_rfl, by kernel_rfl, by kernel_rfl⟩

theorem concordancelaw10_numbers_callS {K : Value → World → Prop} {x0 : Value} {x1 : Value} {w : World} (h : concordancelaw10_numbers K [] x0 x1 w) : callS Pg F.concordancelaw10_numbers [x0, x1] K w :=
  call_of_W concordancelaw10_numbers_ok (Eq.mpr (congrFun (congrFun (concordancelaw10_numbers_eq K) ⟨argFr [x0, x1], []⟩) w) h)

theorem concordancelaw10_numbers_call {K : Value → World → Prop} {x0 : Value} {x1 : Value} {w : World} (h : concordancelaw10_numbers K [] x0 x1 w) : call Pg F.concordancelaw10_numbers [x0, x1] K w := .inl (concordancelaw10_numbers_callS h)

/-- concordance/concordancelaw10.PoolKeeps$1 -/
noncomputable def concordancelaw10_PoolKeeps_c1_body : Code := (Go.Proofs.Tryz.f31.body).getD .skip

def concordancelaw10_PoolKeeps_c1 (K : Value → World → Prop) (ds : List Deferred) (w : World) : Prop :=
  leaveW Pg ds (fun w => K (.int .i64 0) w) w

theorem concordancelaw10_PoolKeeps_c1_eq (K : Value → World → Prop) : W Pg concordancelaw10_PoolKeeps_c1_body false (retQ Pg [.tmp 2] K) = (fun s w => concordancelaw10_PoolKeeps_c1 K s.ds  w) :=
  by kernel_rfl

theorem concordancelaw10_PoolKeeps_c1_ok : FnOk Pg F.concordancelaw10_PoolKeeps_c1 Go.Proofs.Tryz.f31 concordancelaw10_PoolKeeps_c1_body 1 := ⟨Go.Proofs.Tryz.func31, by kernel_rfl, by kernel_rfl, by kernel_rfl, by kernel_rfl, by kernel_rfl⟩

theorem concordancelaw10_PoolKeeps_c1_callS {K : Value → World → Prop} {x0 : Value} {w : World} (h : concordancelaw10_PoolKeeps_c1 K []  w) : callS Pg F.concordancelaw10_PoolKeeps_c1 [x0] K w :=
  call_of_W concordancelaw10_PoolKeeps_c1_ok (Eq.mpr (congrFun (congrFun (concordancelaw10_PoolKeeps_c1_eq K) ⟨argFr [x0], []⟩) w) h)

theorem concordancelaw10_PoolKeeps_c1_call {K : Value → World → Prop} {x0 : Value} {w : World} (h : concordancelaw10_PoolKeeps_c1 K []  w) : call Pg F.concordancelaw10_PoolKeeps_c1 [x0] K w := .inl (concordancelaw10_PoolKeeps_c1_callS h)

/-- concordance/concordancelaw10.PoolKeeps -/
noncomputable def concordancelaw10_PoolKeeps_body : Code := (Go.Proofs.Tryz.f6.body).getD .skip

def concordancelaw10_PoolKeeps_j2 (K : Value → World → Prop) (ds : List Deferred) (w : World) : Prop :=
  leaveW Pg ds (fun w => K (.bool true) w) w

theorem concordancelaw10_PoolKeeps_j2_eq (K : Value → World → Prop) : W Pg (cR (cR (cR (cR (cR (cR (cR (cR (cR (cR (cR (cR concordancelaw10_PoolKeeps_body)))))))))))) false (retQ Pg [.tmp 4] K) = (fun s w => concordancelaw10_PoolKeeps_j2 K s.ds  w) :=
  by kernel_rfl

def concordancelaw10_PoolKeeps_g4 (K : Value → World → Prop) (X1 : List Deferred × Value × Value × Value → World → Prop) (ds : List Deferred) (x12 : Value) (x17 : Value) (x19 : Value) (x148 : Value) (x154 : Value) (w : World) : Prop :=
  pickV x148 (.bool true) x154 (fun t155_1 w =>
  cnd t155_1 (
  leaveW Pg ds (fun w => K (.bool false) w) w) (
  run Pg (binS .add 3 true x19 (.int .i64 1)) (fun t139_2 w =>
  X1 (ds, x12, x17, t139_2) w) w)) w

theorem concordancelaw10_PoolKeeps_g4_eq (K : Value → World → Prop) (X1 : List Deferred × Value × Value × Value → World → Prop) : opsG (op1W Pg) (rOps (cL (cR (cB (cL (cR (cB (cB (cR (cL (cR (cR (cR (cR (cR (cR (cR (cR (cR (cR (cR concordancelaw10_PoolKeeps_body))))))))))))))))))))).toList ((groups (rOps (cL (cR (cB (cL (cR (cB (cB (cR (cL (cR (cR (cR (cR (cR (cR (cR (cR (cR (cR (cR concordancelaw10_PoolKeeps_body))))))))))))))))))))).toList).drop 2) 9 (W Pg (cR (cR (cB (cL (cR (cB (cB (cR (cL (cR (cR (cR (cR (cR (cR (cR (cR (cR (cR (cR concordancelaw10_PoolKeeps_body)))))))))))))))))))) false (blockP 3 (thenP (W Pg (cR (cR (cB (cB (cR (cL (cR (cR (cR (cR (cR (cR (cR (cR (cR (cR (cR concordancelaw10_PoolKeeps_body))))))))))))))))) false (thenP (fun s w => X1 (s.ds, s.f 12, s.f 17, s.f 19) w) (blockP 2 (thenP (fun s w => concordancelaw10_PoolKeeps_j2 K s.ds  w) (retQ Pg [.tmp 4] K))))) (thenP (fun s w => X1 (s.ds, s.f 12, s.f 17, s.f 19) w) (blockP 2 (thenP (fun s w => concordancelaw10_PoolKeeps_j2 K s.ds  w) (retQ Pg [.tmp 4] K))))))) = (fun s w => concordancelaw10_PoolKeeps_g4 K X1 s.ds (s.f 12) (s.f 17) (s.f 19) (s.f 148) (s.f 154) w) :=
  by kernel_rfl

def concordancelaw10_PoolKeeps_l3 (K : Value → World → Prop) (X1 : List Deferred × Value × Value × Value → World → Prop) (st : List Deferred × Value × Value × Value) (w : World) : Prop :=
  run Pg (binS .lss 3 true st.2.2.2 (.int .i64 8)) (fun t137_3 w =>
  cnd t137_3 (
  call Pg F.pool_Pool_Pin [st.2.2.1, st.2.2.2] (fun t143_4 w =>
  run Pg (Instr.extract t143_4 0) (fun t144_5 w =>
  run Pg (Instr.extract t143_4 1) (fun t145_6 w =>
  run Pg (binS .neq 25 true t145_6 (.int .i64 0)) (fun t147_7 w =>
  gcond t147_7 false (
  run Pg (Instr.indexAt 47 st.2.1 st.2.2.2) (fun t152_8 w =>
  run Pg (Instr.loadAt 9 t152_8) (fun t153_9 w =>
  run Pg (binS .neq 9 false t144_5 t153_9) (fun t154_10 w =>
  concordancelaw10_PoolKeeps_g4 K X1 st.1 st.2.1 st.2.2.1 st.2.2.2 t147_7 t154_10 w) w) w) w) (
  concordancelaw10_PoolKeeps_g4 K X1 st.1 st.2.1 st.2.2.1 st.2.2.2 t147_7 undef w)) w) w) w) w) (
  concordancelaw10_PoolKeeps_j2 K st.1  w)) w

theorem concordancelaw10_PoolKeeps_l3_eq (K : Value → World → Prop) (X1 : List Deferred × Value × Value × Value → World → Prop) : W Pg (cB (cB (cR (cL (cR (cR (cR (cR (cR (cR (cR (cR (cR (cR (cR concordancelaw10_PoolKeeps_body))))))))))))))) false (thenP (fun s w => X1 (s.ds, s.f 12, s.f 17, s.f 19) w) (blockP 2 (thenP (fun s w => concordancelaw10_PoolKeeps_j2 K s.ds  w) (retQ Pg [.tmp 4] K)))) = (fun s w => concordancelaw10_PoolKeeps_l3 K X1 (s.ds, s.f 12, s.f 17, s.f 19) w) :=
  Eq.trans (eqSeq (eqSeqL (eqBlock (eqSeq (eqSeqL (eqReg (rd := false) (id := 32) (ops := rOps (cL (cR (cB (cL (cR (cB (cB (cR (cL (cR (cR (cR (cR (cR (cR (cR (cR (cR (cR (cR concordancelaw10_PoolKeeps_body))))))))))))))))))))) (by kernel_rfl) (eqPlain (eqGrd (concordancelaw10_PoolKeeps_g4_eq K X1))))))))) (by kernel_rfl)

theorem concordancelaw10_PoolKeeps_l3_mono (K : Value → World → Prop) : ∀ X Y : List Deferred × Value × Value × Value → World → Prop, (∀ t w, X t w → Y t w) → ∀ t w, concordancelaw10_PoolKeeps_l3 K X t w → concordancelaw10_PoolKeeps_l3 K Y t w :=
  loop_mono (fun s : St => ((s.ds, s.f 12, s.f 17, s.f 19) : List Deferred × Value × Value × Value)) (fun X1 => concordancelaw10_PoolKeeps_l3_eq K X1) (fun t => ⟨fun i => (bif Nat.beq i 12 then t.2.1 else (bif Nat.beq i 17 then t.2.2.1 else (bif Nat.beq i 19 then t.2.2.2 else undef))), t.1⟩) (fun _ => rfl)

def concordancelaw10_PoolKeeps_j1 (K : Value → World → Prop) (ds : List Deferred) (x7 : Value) (x9 : Value) (x10 : Value) (x12 : Value) (w : World) : Prop :=
  call Pg F.pool_Pool_Flush [x10] (fun t128_11 w =>
  run Pg (binS .neq 25 true t128_11 (.int .i64 0)) (fun t129_12 w =>
  cnd t129_12 (
  leaveW Pg ds (fun w => K (.bool false) w) w) (
  call Pg F.pool_New [x7, (.int .i64 8), x9] (fun t133_13 w =>
  run Pg (Instr.extract t133_13 0) (fun t134_14 w =>
  run Pg (Instr.extract t133_13 1) (fun t135_15 w =>
  Lp (concordancelaw10_PoolKeeps_l3 K) (ds, x12, t134_14, (.int .i64 0)) w) w) w) w)) w) w

theorem concordancelaw10_PoolKeeps_j1_eq (K : Value → World → Prop) : W Pg (cR (cR (cR (cR (cR (cR (cR (cR (cR concordancelaw10_PoolKeeps_body))))))))) false (retQ Pg [.tmp 4] K) = (fun s w => concordancelaw10_PoolKeeps_j1 K s.ds (s.f 7) (s.f 9) (s.f 10) (s.f 12) w) :=
  Eq.trans (eqSeq (eqSeq ((eqSeq (concordancelaw10_PoolKeeps_j2_eq K)).trans (eqSeq (eqBlock (eqLoop (rd := false) (fun s : St => ((s.ds, s.f 12, s.f 17, s.f 19) : List Deferred × Value × Value × Value)) (fun X1 => concordancelaw10_PoolKeeps_l3_eq K X1))))))) (by kernel_rfl)

def concordancelaw10_PoolKeeps_j7 (K : Value → World → Prop) (X1 : List Deferred × Value × Value × Value × Value × Value × Value → World → Prop) (ds : List Deferred) (x0 : Value) (x7 : Value) (x9 : Value) (x10 : Value) (x12 : Value) (x13 : Value) (w : World) : Prop :=
  run Pg (binS .add 3 true x13 (.int .i64 1)) (fun t54_16 w =>
  X1 (ds, x0, x7, x9, x10, x12, t54_16) w) w

theorem concordancelaw10_PoolKeeps_j7_eq (K : Value → World → Prop) (X1 : List Deferred × Value × Value × Value × Value × Value × Value → World → Prop) : W Pg (cR (cR (cB (cB (cR (cL (cR (cR (cR (cR (cR (cR (cR (cR concordancelaw10_PoolKeeps_body)))))))))))))) false (thenP (fun s w => X1 (s.ds, s.f 0, s.f 7, s.f 9, s.f 10, s.f 12, s.f 13) w) (blockP 0 (thenP (fun s w => concordancelaw10_PoolKeeps_j1 K s.ds (s.f 7) (s.f 9) (s.f 10) (s.f 12) w) (retQ Pg [.tmp 4] K)))) = (fun s w => concordancelaw10_PoolKeeps_j7 K X1 s.ds (s.f 0) (s.f 7) (s.f 9) (s.f 10) (s.f 12) (s.f 13) w) :=
  by kernel_rfl

def concordancelaw10_PoolKeeps_j9 (K : Value → World → Prop) (X1 : List Deferred × Value × Value × Value × Value × Value × Value → World → Prop) (ds : List Deferred) (x0 : Value) (x7 : Value) (x9 : Value) (x10 : Value) (x12 : Value) (x13 : Value) (x14 : Value) (w : World) : Prop :=
  call Pg F.pool_Pool_Unpin [x10, x14] (fun t115_17 w =>
  run Pg (Instr.indexAt 45 x0 x13) (fun t118_18 w =>
  run Pg (Instr.fieldAt 55 t118_18 0) (fun t119_19 w =>
  run Pg (Instr.loadAt 3 t119_19) (fun t120_20 w =>
  run Pg (binS .and 3 true t120_20 (.int .i64 6)) (fun t121_21 w =>
  run Pg (binS .eql 3 true t121_21 (.int .i64 6)) (fun t122_22 w =>
  cnd t122_22 (
  call Pg F.pool_Pool_Evict [x10, x14] (fun t125_23 w =>
  run Pg (binS .neq 25 true t125_23 (.int .i64 0)) (fun t126_24 w =>
  cnd t126_24 (
  leaveW Pg ds (fun w => K (.bool false) w) w) (
  concordancelaw10_PoolKeeps_j7 K X1 ds x0 x7 x9 x10 x12 x13 w)) w) w) (
  concordancelaw10_PoolKeeps_j7 K X1 ds x0 x7 x9 x10 x12 x13 w)) w) w) w) w) w) w

theorem concordancelaw10_PoolKeeps_j9_eq (K : Value → World → Prop) (X1 : List Deferred × Value × Value × Value × Value × Value × Value → World → Prop) : W Pg (cR (cR (cR (cR (cB (cL (cR (cB (cB (cR (cL (cR (cR (cR (cR (cR (cR (cR (cR concordancelaw10_PoolKeeps_body))))))))))))))))))) false (blockP 1 (thenP (fun s w => concordancelaw10_PoolKeeps_j7 K X1 s.ds (s.f 0) (s.f 7) (s.f 9) (s.f 10) (s.f 12) (s.f 13) w) (thenP (fun s w => X1 (s.ds, s.f 0, s.f 7, s.f 9, s.f 10, s.f 12, s.f 13) w) (blockP 0 (thenP (fun s w => concordancelaw10_PoolKeeps_j1 K s.ds (s.f 7) (s.f 9) (s.f 10) (s.f 12) w) (retQ Pg [.tmp 4] K)))))) = (fun s w => concordancelaw10_PoolKeeps_j9 K X1 s.ds (s.f 0) (s.f 7) (s.f 9) (s.f 10) (s.f 12) (s.f 13) (s.f 14) w) :=
  by kernel_rfl

def concordancelaw10_PoolKeeps_j8 (K : Value → World → Prop) (X1 : List Deferred × Value × Value × Value × Value × Value × Value → World → Prop) (ds : List Deferred) (x0 : Value) (x7 : Value) (x9 : Value) (x10 : Value) (x12 : Value) (x13 : Value) (x14 : Value) (w : World) : Prop :=
  run Pg (Instr.indexAt 45 x0 x13) (fun t79_25 w =>
  run Pg (Instr.fieldAt 55 t79_25 0) (fun t80_26 w =>
  run Pg (Instr.loadAt 3 t80_26) (fun t81_27 w =>
  run Pg (binS .and 3 true t81_27 (.int .i64 1)) (fun t82_28 w =>
  run Pg (binS .eql 3 true t82_28 (.int .i64 1)) (fun t83_29 w =>
  cnd t83_29 (
  rn Pg (fun _ => True) (binS .add 3 true (.int .i64 1) x13) (fun t86_30 w =>
  rn Pg (fun _ => True) (Instr.indexAt 45 x0 x13) (fun t89_31 w =>
  rn Pg (fun _ => True) (Instr.fieldAt 55 t89_31 2) (fun t90_32 w =>
  rn Pg (fun w' => w' = w) (Instr.loadAt 9 t90_32) (fun t91_33 w =>
  rn Pg (fun _ => True) (Instr.indexAt 45 x0 x13) (fun t94_34 w =>
  rn Pg (fun _ => True) (Instr.fieldAt 55 t94_34 2) (fun t95_35 w =>
  rn Pg (fun w' => w' = w) (Instr.loadAt 9 t95_35) (fun t96_36 w =>
  rn Pg (fun _ => True) (Builtin.len_ #[9] 3 #[t96_36]) (fun t97_37 w =>
  rn Pg (fun _ => True) (Builtin.min_ #[3, 3] 3 #[t97_37, (.int .i64 60)]) (fun t98_38 w =>
  rn Pg (fun _ => True) (Instr.sliceAt 9 t91_33 none (some t98_38) none) (fun t99_39 w =>
  rn Pg (fun _ => True) (Instr.build 64 #[(0, t86_30), (1, (.int .i64 2)), (4, t99_39)]) (fun t100_40 w =>
  call Pg F.page_Encode [t100_40] (fun t101_41 w =>
  (fun _ => True) w ∧ rn Pg (fun _ => True) (Instr.extract t101_41 0) (fun t102_42 w =>
  rn Pg (fun _ => True) (Instr.extract t101_41 1) (fun t103_43 w =>
  call Pg F.pool_Pool_Put [x10, x14, t102_42] (fun t107_44 w =>
  run Pg (binS .neq 25 true t107_44 (.int .i64 0)) (fun t108_45 w =>
  cnd t108_45 (
  leaveW Pg ds (fun w => K (.bool false) w) w) (
  run Pg (Instr.indexAt 47 x12 x14) (fun t112_46 w =>
  runU Pg (Instr.storeAt 9 t112_46 t102_42) (fun w =>
  concordancelaw10_PoolKeeps_j9 K X1 ds x0 x7 x9 x10 x12 x13 x14 w) w) w)) w) w) w) w) w) w) w) w) w) w) w) w) w) w) w) w.drew) (
  concordancelaw10_PoolKeeps_j9 K X1 ds x0 x7 x9 x10 x12 x13 x14 w)) w) w) w) w) w

theorem concordancelaw10_PoolKeeps_j8_eq (K : Value → World → Prop) (X1 : List Deferred × Value × Value × Value × Value × Value × Value → World → Prop) : W Pg (cR (cR (cR (cB (cL (cR (cB (cB (cR (cL (cR (cR (cR (cR (cR (cR (cR (cR concordancelaw10_PoolKeeps_body)))))))))))))))))) false (blockP 1 (thenP (fun s w => concordancelaw10_PoolKeeps_j7 K X1 s.ds (s.f 0) (s.f 7) (s.f 9) (s.f 10) (s.f 12) (s.f 13) w) (thenP (fun s w => X1 (s.ds, s.f 0, s.f 7, s.f 9, s.f 10, s.f 12, s.f 13) w) (blockP 0 (thenP (fun s w => concordancelaw10_PoolKeeps_j1 K s.ds (s.f 7) (s.f 9) (s.f 10) (s.f 12) w) (retQ Pg [.tmp 4] K)))))) = (fun s w => concordancelaw10_PoolKeeps_j8 K X1 s.ds (s.f 0) (s.f 7) (s.f 9) (s.f 10) (s.f 12) (s.f 13) (s.f 14) w) :=
  Eq.trans (eqSeq (concordancelaw10_PoolKeeps_j9_eq K X1)) (by kernel_rfl)

def concordancelaw10_PoolKeeps_g10 (K : Value → World → Prop) (X1 : List Deferred × Value × Value × Value × Value × Value × Value → World → Prop) (ds : List Deferred) (x0 : Value) (x7 : Value) (x9 : Value) (x10 : Value) (x12 : Value) (x13 : Value) (x14 : Value) (x69 : Value) (x75 : Value) (w : World) : Prop :=
  pickV x69 (.bool true) x75 (fun t76_47 w =>
  cnd t76_47 (
  leaveW Pg ds (fun w => K (.bool false) w) w) (
  concordancelaw10_PoolKeeps_j8 K X1 ds x0 x7 x9 x10 x12 x13 x14 w)) w

theorem concordancelaw10_PoolKeeps_g10_eq (K : Value → World → Prop) (X1 : List Deferred × Value × Value × Value × Value × Value × Value → World → Prop) : opsG (op1W Pg) (rOps (cL (cL (cR (cR (cB (cL (cR (cB (cB (cR (cL (cR (cR (cR (cR (cR (cR (cR (cR concordancelaw10_PoolKeeps_body)))))))))))))))))))).toList ((groups (rOps (cL (cL (cR (cR (cB (cL (cR (cB (cB (cR (cL (cR (cR (cR (cR (cR (cR (cR (cR concordancelaw10_PoolKeeps_body)))))))))))))))))))).toList).drop 2) 9 (W Pg (cR (cL (cR (cR (cB (cL (cR (cB (cB (cR (cL (cR (cR (cR (cR (cR (cR (cR (cR concordancelaw10_PoolKeeps_body))))))))))))))))))) false (thenP (fun s w => concordancelaw10_PoolKeeps_j8 K X1 s.ds (s.f 0) (s.f 7) (s.f 9) (s.f 10) (s.f 12) (s.f 13) (s.f 14) w) (blockP 1 (thenP (fun s w => concordancelaw10_PoolKeeps_j7 K X1 s.ds (s.f 0) (s.f 7) (s.f 9) (s.f 10) (s.f 12) (s.f 13) w) (thenP (fun s w => X1 (s.ds, s.f 0, s.f 7, s.f 9, s.f 10, s.f 12, s.f 13) w) (blockP 0 (thenP (fun s w => concordancelaw10_PoolKeeps_j1 K s.ds (s.f 7) (s.f 9) (s.f 10) (s.f 12) w) (retQ Pg [.tmp 4] K)))))))) = (fun s w => concordancelaw10_PoolKeeps_g10 K X1 s.ds (s.f 0) (s.f 7) (s.f 9) (s.f 10) (s.f 12) (s.f 13) (s.f 14) (s.f 69) (s.f 75) w) :=
  by kernel_rfl

def concordancelaw10_PoolKeeps_j6 (K : Value → World → Prop) (X1 : List Deferred × Value × Value × Value × Value × Value × Value → World → Prop) (ds : List Deferred) (x0 : Value) (x7 : Value) (x9 : Value) (x10 : Value) (x12 : Value) (x13 : Value) (w : World) : Prop :=
  run Pg (Instr.indexAt 45 x0 x13) (fun t57_48 w =>
  run Pg (Instr.fieldAt 55 t57_48 1) (fun t58_49 w =>
  run Pg (Instr.loadAt 3 t58_49) (fun t59_50 w =>
  run Pg (binS .and 3 true t59_50 (.int .i64 7)) (fun t60_51 w =>
  call Pg F.pool_Pool_Pin [x10, t60_51] (fun t64_52 w =>
  run Pg (Instr.extract t64_52 0) (fun t65_53 w =>
  run Pg (Instr.extract t64_52 1) (fun t66_54 w =>
  run Pg (binS .neq 25 true t66_54 (.int .i64 0)) (fun t68_55 w =>
  gcond t68_55 false (
  run Pg (Instr.indexAt 47 x12 t60_51) (fun t73_56 w =>
  run Pg (Instr.loadAt 9 t73_56) (fun t74_57 w =>
  run Pg (binS .neq 9 false t65_53 t74_57) (fun t75_58 w =>
  concordancelaw10_PoolKeeps_g10 K X1 ds x0 x7 x9 x10 x12 x13 t60_51 t68_55 t75_58 w) w) w) w) (
  concordancelaw10_PoolKeeps_g10 K X1 ds x0 x7 x9 x10 x12 x13 t60_51 t68_55 undef w)) w) w) w) w) w) w) w) w

theorem concordancelaw10_PoolKeeps_j6_eq (K : Value → World → Prop) (X1 : List Deferred × Value × Value × Value × Value × Value × Value → World → Prop) : W Pg (cR (cB (cB (cR (cL (cR (cR (cR (cR (cR (cR (cR (cR concordancelaw10_PoolKeeps_body))))))))))))) false (thenP (fun s w => X1 (s.ds, s.f 0, s.f 7, s.f 9, s.f 10, s.f 12, s.f 13) w) (blockP 0 (thenP (fun s w => concordancelaw10_PoolKeeps_j1 K s.ds (s.f 7) (s.f 9) (s.f 10) (s.f 12) w) (retQ Pg [.tmp 4] K)))) = (fun s w => concordancelaw10_PoolKeeps_j6 K X1 s.ds (s.f 0) (s.f 7) (s.f 9) (s.f 10) (s.f 12) (s.f 13) w) :=
  Eq.trans ((eqSeq (concordancelaw10_PoolKeeps_j7_eq K X1)).trans (eqBlock (eqSeq (eqSeq ((eqSeq (concordancelaw10_PoolKeeps_j8_eq K X1)).trans (eqSeqL (eqReg (rd := false) (id := 14) (ops := rOps (cL (cL (cR (cR (cB (cL (cR (cB (cB (cR (cL (cR (cR (cR (cR (cR (cR (cR (cR concordancelaw10_PoolKeeps_body)))))))))))))))))))) (by kernel_rfl) (eqPlain (eqGrd (concordancelaw10_PoolKeeps_g10_eq K X1)))))))))) (by kernel_rfl)

def concordancelaw10_PoolKeeps_g11 (K : Value → World → Prop) (X1 : List Deferred × Value × Value × Value × Value × Value × Value → World → Prop) (ds : List Deferred) (x0 : Value) (x7 : Value) (x9 : Value) (x10 : Value) (x12 : Value) (x13 : Value) (x49 : Value) (x51 : Value) (w : World) : Prop :=
  pickV x49 x51 (.bool false) (fun t52_59 w =>
  cnd t52_59 (
  concordancelaw10_PoolKeeps_j6 K X1 ds x0 x7 x9 x10 x12 x13 w) (
  concordancelaw10_PoolKeeps_j1 K ds x7 x9 x10 x12 w)) w

theorem concordancelaw10_PoolKeeps_g11_eq (K : Value → World → Prop) (X1 : List Deferred × Value × Value × Value × Value × Value × Value → World → Prop) : opsG (op1W Pg) (rOps (cL (cL (cB (cB (cR (cL (cR (cR (cR (cR (cR (cR (cR (cR concordancelaw10_PoolKeeps_body))))))))))))))).toList ((groups (rOps (cL (cL (cB (cB (cR (cL (cR (cR (cR (cR (cR (cR (cR (cR concordancelaw10_PoolKeeps_body))))))))))))))).toList).drop 2) 7 (W Pg (cR (cL (cB (cB (cR (cL (cR (cR (cR (cR (cR (cR (cR (cR concordancelaw10_PoolKeeps_body)))))))))))))) false (thenP (fun s w => concordancelaw10_PoolKeeps_j6 K X1 s.ds (s.f 0) (s.f 7) (s.f 9) (s.f 10) (s.f 12) (s.f 13) w) (thenP (fun s w => X1 (s.ds, s.f 0, s.f 7, s.f 9, s.f 10, s.f 12, s.f 13) w) (blockP 0 (thenP (fun s w => concordancelaw10_PoolKeeps_j1 K s.ds (s.f 7) (s.f 9) (s.f 10) (s.f 12) w) (retQ Pg [.tmp 4] K)))))) = (fun s w => concordancelaw10_PoolKeeps_g11 K X1 s.ds (s.f 0) (s.f 7) (s.f 9) (s.f 10) (s.f 12) (s.f 13) (s.f 49) (s.f 51) w) :=
  by kernel_rfl

def concordancelaw10_PoolKeeps_l5 (K : Value → World → Prop) (X1 : List Deferred × Value × Value × Value × Value × Value × Value → World → Prop) (st : List Deferred × Value × Value × Value × Value × Value × Value) (w : World) : Prop :=
  run Pg (Builtin.len_ #[45] 3 #[st.2.1]) (fun t47_60 w =>
  run Pg (binS .lss 3 false st.2.2.2.2.2.2 t47_60) (fun t48_61 w =>
  gcond t48_61 true (
  run Pg (binS .lss 3 true st.2.2.2.2.2.2 (.int .i64 50)) (fun t51_62 w =>
  concordancelaw10_PoolKeeps_g11 K X1 st.1 st.2.1 st.2.2.1 st.2.2.2.1 st.2.2.2.2.1 st.2.2.2.2.2.1 st.2.2.2.2.2.2 t48_61 t51_62 w) w) (
  concordancelaw10_PoolKeeps_g11 K X1 st.1 st.2.1 st.2.2.1 st.2.2.2.1 st.2.2.2.2.1 st.2.2.2.2.2.1 st.2.2.2.2.2.2 t48_61 undef w)) w) w

theorem concordancelaw10_PoolKeeps_l5_eq (K : Value → World → Prop) (X1 : List Deferred × Value × Value × Value × Value × Value × Value → World → Prop) : W Pg (cB (cB (cR (cL (cR (cR (cR (cR (cR (cR (cR (cR concordancelaw10_PoolKeeps_body)))))))))))) false (thenP (fun s w => X1 (s.ds, s.f 0, s.f 7, s.f 9, s.f 10, s.f 12, s.f 13) w) (blockP 0 (thenP (fun s w => concordancelaw10_PoolKeeps_j1 K s.ds (s.f 7) (s.f 9) (s.f 10) (s.f 12) w) (retQ Pg [.tmp 4] K)))) = (fun s w => concordancelaw10_PoolKeeps_l5 K X1 (s.ds, s.f 0, s.f 7, s.f 9, s.f 10, s.f 12, s.f 13) w) :=
  Eq.trans ((eqSeq (concordancelaw10_PoolKeeps_j6_eq K X1)).trans (eqSeqL (eqReg (rd := false) (id := 10) (ops := rOps (cL (cL (cB (cB (cR (cL (cR (cR (cR (cR (cR (cR (cR (cR concordancelaw10_PoolKeeps_body))))))))))))))) (by kernel_rfl) (eqPlain (eqGrd (concordancelaw10_PoolKeeps_g11_eq K X1)))))) (by kernel_rfl)

theorem concordancelaw10_PoolKeeps_l5_mono (K : Value → World → Prop) : ∀ X Y : List Deferred × Value × Value × Value × Value × Value × Value → World → Prop, (∀ t w, X t w → Y t w) → ∀ t w, concordancelaw10_PoolKeeps_l5 K X t w → concordancelaw10_PoolKeeps_l5 K Y t w :=
  loop_mono (fun s : St => ((s.ds, s.f 0, s.f 7, s.f 9, s.f 10, s.f 12, s.f 13) : List Deferred × Value × Value × Value × Value × Value × Value)) (fun X1 => concordancelaw10_PoolKeeps_l5_eq K X1) (fun t => ⟨fun i => (bif Nat.beq i 0 then t.2.1 else (bif Nat.beq i 7 then t.2.2.1 else (bif Nat.beq i 9 then t.2.2.2.1 else (bif Nat.beq i 10 then t.2.2.2.2.1 else (bif Nat.beq i 12 then t.2.2.2.2.2.1 else (bif Nat.beq i 13 then t.2.2.2.2.2.2 else undef)))))), t.1⟩) (fun _ => rfl)

def concordancelaw10_PoolKeeps (K : Value → World → Prop) (ds : List Deferred) (x0 : Value) (x1 : Value) (w : World) : Prop :=
  call Pg F.concordancelaw10_speaks [] (fun t22_63 w =>
  run Pg (Op.unary .not t22_63) (fun t23_64 w =>
  cnd t23_64 (
  leaveW Pg ds (fun w => K (.bool false) w) w) (
  run Pg (binS .and 3 true x1 (.int .i64 3)) (fun t25_65 w =>
  run Pg (binS .add 3 true (.int .i64 1) t25_65) (fun t26_66 w =>
  call Pg F.device_New [(.int .i64 40)] (fun t28_67 w =>
  run Pg (Instr.extract t28_67 0) (fun t29_68 w =>
  run Pg (Instr.extract t28_67 1) (fun t30_69 w =>
  call Pg F.twin_New [t29_68, (.int .i64 0), (.int .i64 2), (.int .i64 10), (.int .i64 8)] (fun t33_70 w =>
  run Pg (Instr.extract t33_70 0) (fun t34_71 w =>
  run Pg (Instr.extract t33_70 1) (fun t35_72 w =>
  call Pg F.pool_New [t34_71, t26_66, (.func (.func 31) #[] #[])] (fun t40_73 w =>
  run Pg (Instr.extract t40_73 0) (fun t41_74 w =>
  run Pg (Instr.extract t40_73 1) (fun t42_75 w =>
  call Pg F.concordanceref09_New [(.int .i64 8)] (fun t43_76 w =>
  run Pg (Instr.field 49 t43_76 0) (fun t44_77 w =>
  Lp (concordancelaw10_PoolKeeps_l5 K) (ds, x0, t34_71, (.func (.func 31) #[] #[]), t41_74, t44_77, (.int .i64 0)) w) w) w) w) w) w) w) w) w) w) w) w) w) w)) w) w

theorem concordancelaw10_PoolKeeps_eq (K : Value → World → Prop) : W Pg concordancelaw10_PoolKeeps_body false (retQ Pg [.tmp 4] K) = (fun s w => concordancelaw10_PoolKeeps K s.ds (s.f 0) (s.f 1) w) :=
  Eq.trans (eqSeq (eqSeq (eqSeq (eqSeq (eqSeq (eqSeq (eqSeq (eqSeq ((eqSeq (concordancelaw10_PoolKeeps_j1_eq K)).trans (eqSeq (eqBlock (eqLoop (rd := false) (fun s : St => ((s.ds, s.f 0, s.f 7, s.f 9, s.f 10, s.f 12, s.f 13) : List Deferred × Value × Value × Value × Value × Value × Value)) (fun X1 => concordancelaw10_PoolKeeps_l5_eq K X1))))))))))))) (by kernel_rfl)

theorem concordancelaw10_PoolKeeps_ok : FnOk Pg F.concordancelaw10_PoolKeeps Go.Proofs.Tryz.f6 concordancelaw10_PoolKeeps_body 2 := ⟨Go.Proofs.Tryz.func6, by kernel_rfl, by kernel_rfl, by kernel_rfl, by kernel_rfl, by kernel_rfl⟩

theorem concordancelaw10_PoolKeeps_callS {K : Value → World → Prop} {x0 : Value} {x1 : Value} {w : World} (h : concordancelaw10_PoolKeeps K [] x0 x1 w) : callS Pg F.concordancelaw10_PoolKeeps [x0, x1] K w :=
  call_of_W concordancelaw10_PoolKeeps_ok (Eq.mpr (congrFun (congrFun (concordancelaw10_PoolKeeps_eq K) ⟨argFr [x0, x1], []⟩) w) h)

theorem concordancelaw10_PoolKeeps_call {K : Value → World → Prop} {x0 : Value} {x1 : Value} {w : World} (h : concordancelaw10_PoolKeeps K [] x0 x1 w) : call Pg F.concordancelaw10_PoolKeeps [x0, x1] K w := .inl (concordancelaw10_PoolKeeps_callS h)

end Go.Sx
end

section
/- concordanceref09: New. -/
set_option linter.unusedVariables false
set_option linter.unusedSimpArgs false
set_option maxRecDepth 100000
namespace Go.Sx
open Go Go.RowKit
variable {K : Value → World → Prop} {w : World}

/-- The two rows of Pages, within one round. -/
structure R9 (w : World) (P : Nat) (B : Nat) (vN vO : Value) (i : Nat) : Prop where
  at_ : w.heap[P]? = some (.cells [vN, vO].toArray T.concordanceref09_Pages (0, 0))
  now : Own w T.string 1 vN i (List.replicate i (str Z512))
  or : Own w T.string 1 vO i (List.replicate i (str []))
  dif : ∀ g, vN.ownBlock = some g → vO.ownBlock ≠ some g
  newN : ∀ g, vN.ownBlock = some g → B ≤ g
  newO : ∀ g, vO.ownBlock = some g → B ≤ g
  newP : B ≤ P

def A9 (vN vO : Value) : Nat → Obj → Prop := fun k _ => vN.ownBlock = some k ∨ vO.ownBlock = some k

theorem R9.qt {w' : World} {P B i : Nat} {vN vO : Value} (h : R9 w P B vN vO i) (q : Qt w w') : R9 w' P B vN vO i :=
  ⟨q.all h.at_, h.now.keep (fun g l hg hl => q.all hl), h.or.keep (fun g l hg hl => q.all hl), h.dif, h.newN, h.newO, h.newP⟩
theorem R9.noP {P B i : Nat} {vN vO : Value} (h : R9 w P B vN vO i) : vN.ownBlock ≠ some P ∧ vO.ownBlock ≠ some P := ⟨h.now.ne h.at_ (by decide), h.or.ne h.at_ (by decide)⟩
theorem Rd.one {e : TypeId} {g : Nat} {x : Value} {fz : Nat × Nat} (h : w.heap[g]? = some (.cells [x].toArray e fz)) : Rd w e 1 (.slice (some ⟨g, 0, none⟩) 1 1) 1 [x] :=
  ⟨rfl, _, _, rfl, Nat.le_refl _, fun _ => ⟨g, 0, [x], fz, rfl, h, by simp⟩⟩

theorem A9.of_qt {vN vO : Value} {w' : World} (q : Qt w w') : Frm (A9 vN vO) w w' := .of_qt q

set_option maxHeartbeats 1000000 in
/-- what both rows get, once both news are there. -/
theorem suffix9 {R : World → World → Prop} {P B i g15 g19 : Nat} {vN vO : Value} (h : R9 w P B vN vO i) (hi : i < 1000) (hBw : B ≤ w.heap.size) (hR : ∀ a b, Frm (A9 vN vO) a b → R a b)
    (h15 : w.heap[g15]? = some (.cells [str Z512].toArray T.string (0, 0))) (h19 : w.heap[g19]? = some (.cells [str []].toArray T.string (0, 0))) (n15 : vN.ownBlock ≠ some g15) (n19 : vN.ownBlock ≠ some g19)
    {C : World → Prop} (k : ∀ w' vN' vO', R9 w' P B vN' vO' (i + 1) → Frm (fun k o => A9 vN vO k o ∨ k = P) w w' → C w') :
    run Pg (Builtin.append_ #[47, 47] 47 #[vN, .slice (some ⟨g15, 0, none⟩) 1 1]) (fun t16 w16 => R w w16 ∧ rn Pg (fun _ => True) (Instr.fieldAt 49 (.pointer (some ⟨P, 0, none⟩)) 0) (fun t21 w17 =>
      run Pg (Builtin.append_ #[47, 47] 47 #[vO, .slice (some ⟨g19, 0, none⟩) 1 1]) (fun t20 w18 => runU Pg (Instr.storeAt 47 t21 t16) (fun w19 => rn Pg (fun _ => True) (Instr.fieldAt 49 (.pointer (some ⟨P, 0, none⟩)) 1) (fun t22 w20 =>
        runU Pg (Instr.storeAt 47 t22 t20) (fun w21 => C w21) w20) w19) w18) w17) w16) w := by
  obtain ⟨hnP, hoP⟩ := h.noP
  have hlP := lt_of h.at_
  refine s_append (size := 1) rfl rfl h.now (Rd.one h15) (by simp [Value.oneCell', str]) (by omega) (fun vN' w1 hN1 f1 hb1 _ => ?_)
  have hs1 := f1.size
  refine ⟨hR _ _ (f1.mono fun k o _ h => .inl h), ?_⟩
  have hP1 := f1.keep _ _ h.at_ (fun e => hnP e)
  have hO1 : Own w1 T.string 1 vO i (List.replicate i (str [])) := h.or.keep (fun g l hg hl => f1.keep _ _ hl (fun e => h.dif g e hg))
  have h19' := f1.keep _ _ h19 n19
  refine rnT_i (fun _ => s_field) ?_
  refine s_append (size := 1) rfl rfl hO1 (Rd.one h19') (by simp [Value.oneCell', str]) (by omega) (fun vO' w2 hO2 f2 hb2 _ => ?_)
  have hs2 := f2.size
  have hP2 := f2.keep _ _ hP1 (fun e => hoP e)
  have dif1 : ∀ g, vN'.ownBlock = some g → vO.ownBlock ≠ some g := by
    intro g hg hO
    rcases hb1 with e | e
    · exact h.dif g (e ▸ hg) hO
    · rw [e] at hg
      obtain ⟨l, hl⟩ := h.or.block hO
      have := lt_of hl
      cases hg; omega
  have hN2 : Own w2 T.string 1 vN' (i + 1) (List.replicate i (str Z512) ++ [str Z512]) := hN1.keep (fun g l hg hl => f2.keep _ _ hl (fun e => dif1 g hg e))
  have dif2 : ∀ g, vN'.ownBlock = some g → vO'.ownBlock ≠ some g := by
    intro g hg hO
    rcases hb2 with e | e
    · exact dif1 g hg (e ▸ hO)
    · rw [e] at hO
      obtain ⟨l, hl⟩ := hN1.block hg
      have := lt_of hl
      cases hO; omega
  have nN : vN'.ownBlock ≠ some P := hN2.ne hP2 (by decide)
  have nO : vO'.ownBlock ≠ some P := hO2.ne hP2 (by decide)
  have c1 : vN'.oneCell' = true := by obtain ⟨_, ⟨rfl, _⟩ | ⟨g, cap, rest, rfl, _⟩⟩ := hN2 <;> rfl
  have c2 : vO'.oneCell' = true := by obtain ⟨_, ⟨rfl, _⟩ | ⟨g, cap, rest, rfl, _⟩⟩ := hO2 <;> rfl
  refine runU_i (s_store hP2 c1 (by simp)) ?_
  refine rnT_i (fun _ => s_field) ?_
  refine runU_i (s_store (hp_put_same (lt_of hP2)) c2 (by simp)) ?_
  have hl2 := lt_of hP2
  refine k _ vN' vO' ⟨hp_put_same (by rw [sz_put]; exact hl2), ?_, ?_, dif2, ?_, ?_, h.newP⟩ ?_
  · have e : List.replicate (i + 1) (str Z512) = List.replicate i (str Z512) ++ [str Z512] := List.replicate_succ'
    rw [e]
    refine hN2.keep (fun g l hg hl => ?_)
    have : g ≠ P := fun e => nN (by rw [← e]; exact hg)
    rw [hp_put_other this, hp_put_other this]; exact hl
  · have e : List.replicate (i + 1) (str []) = List.replicate i (str []) ++ [str []] := List.replicate_succ'
    rw [e]
    refine hO2.keep (fun g l hg hl => ?_)
    have : g ≠ P := fun e => nO (by rw [← e]; exact hg)
    rw [hp_put_other this, hp_put_other this]; exact hl
  · intro g hg
    rcases hb1 with e | e
    · exact h.newN g (e ▸ hg)
    · rw [e] at hg; cases hg; exact hBw
  · intro g hg
    rcases hb2 with e | e
    · exact h.newO g (e ▸ hg)
    · rw [e] at hg; cases hg; omega
  · refine (((f1.mono fun k o _ h => .inl (.inl h)).trans' (f2.mono (A' := fun k o => A9 vN vO k o ∨ k = P) fun k o _ h => .inl (.inr h)) fun k o _ h => h).put_may _ (fun _ _ => .inr rfl)).put_may _ (fun _ _ => .inr rfl)
set_option maxHeartbeats 1000000 in
/-- the other way: the second new one comes behind the first row's. -/
theorem suffixA {R : World → World → Prop} {P B i g15 : Nat} {vN vO : Value} (h : R9 w P B vN vO i) (hi : i < 1000) (hBw : B ≤ w.heap.size) (hR : ∀ a b, Frm (A9 vN vO) a b → R a b)
    (h15 : w.heap[g15]? = some (.cells [str Z512].toArray T.string (0, 0))) (n15 : vN.ownBlock ≠ some g15)
    {C : World → Prop} (k : ∀ w' vN' vO', R9 w' P B vN' vO' (i + 1) → Frm (fun k o => A9 vN vO k o ∨ k = P) w w' → C w') :
    run Pg (Builtin.append_ #[47, 47] 47 #[vN, .slice (some ⟨g15, 0, none⟩) 1 1]) (fun t16 w16 => R w w16 ∧ rn Pg (fun _ => True) (Instr.fieldAt 49 (.pointer (some ⟨P, 0, none⟩)) 0) (fun t21 w17 =>
      run Pg (Instr.buildSlice 47 1 #[(0, (.string ⟨#[]⟩))]) (fun t19 wb => R w17 wb ∧ run Pg (Builtin.append_ #[47, 47] 47 #[vO, t19]) (fun t20 w18 => runU Pg (Instr.storeAt 47 t21 t16) (fun w19 => rn Pg (fun _ => True) (Instr.fieldAt 49 (.pointer (some ⟨P, 0, none⟩)) 1) (fun t22 w20 =>
        runU Pg (Instr.storeAt 47 t22 t20) (fun w21 => C w21) w20) w19) w18) wb) w17) w16) w := by
  obtain ⟨hnP, hoP⟩ := h.noP
  have hlP := lt_of h.at_
  refine s_append (size := 1) rfl rfl h.now (Rd.one h15) (by simp [Value.oneCell', str]) (by omega) (fun vN' w1 hN1 f1 hb1 _ => ?_)
  have hs1 := f1.size
  refine ⟨hR _ _ (f1.mono fun k o _ h => .inl h), ?_⟩
  have hP1 := f1.keep _ _ h.at_ (fun e => hnP e)
  have hO1 : Own w1 T.string 1 vO i (List.replicate i (str [])) := h.or.keep (fun g l hg hl => f1.keep _ _ hl (fun e => h.dif g e hg))
  refine rnT_i (fun _ => s_field) ?_
  refine run_i (s_build1 (by decide) (by decide) (by kernel_rfl)) ?_
  obtain ⟨wb, hwb⟩ : ∃ wb, wb = w1.alloc (.cells [str []].toArray T.string) := ⟨_, rfl⟩
  have qb : Qt w1 wb := by rw [hwb]; exact (Frm.refl w1).alloc _
  have h19' : wb.heap[w1.heap.size]? = some (.cells [str []].toArray T.string (0, 0)) := by rw [hwb]; exact hp_alloc_new
  have hsb := qb.size
  have hN1b : Own wb T.string 1 vN' (i + 1) (List.replicate i (str Z512) ++ [str Z512]) := hN1.keep (fun g l hg hl => qb.all hl)
  have hO1b : Own wb T.string 1 vO i (List.replicate i (str [])) := hO1.keep (fun g l hg hl => qb.all hl)
  rw [show w1.alloc (.cells #[.string ⟨#[]⟩] 9) = wb from hwb.symm]
  refine ⟨hR _ _ (.of_qt qb), ?_⟩
  refine s_append (size := 1) rfl rfl hO1b (Rd.one h19') (by simp [Value.oneCell', str]) (by omega) (fun vO' w2 hO2 f2 hb2 _ => ?_)
  have hs2 := f2.size
  have hP2 := f2.keep _ _ (qb.all hP1) (fun e => hoP e)
  have dif1 : ∀ g, vN'.ownBlock = some g → vO.ownBlock ≠ some g := by
    intro g hg hO
    rcases hb1 with e | e
    · exact h.dif g (e ▸ hg) hO
    · rw [e] at hg
      obtain ⟨l, hl⟩ := h.or.block hO
      have := lt_of hl
      cases hg; omega
  have hN2 : Own w2 T.string 1 vN' (i + 1) (List.replicate i (str Z512) ++ [str Z512]) := hN1b.keep (fun g l hg hl => f2.keep _ _ hl (fun e => dif1 g hg e))
  have dif2 : ∀ g, vN'.ownBlock = some g → vO'.ownBlock ≠ some g := by
    intro g hg hO
    rcases hb2 with e | e
    · exact dif1 g hg (e ▸ hO)
    · rw [e] at hO
      obtain ⟨l, hl⟩ := hN1b.block hg
      have := lt_of hl
      cases hO; omega
  have nN : vN'.ownBlock ≠ some P := hN2.ne hP2 (by decide)
  have nO : vO'.ownBlock ≠ some P := hO2.ne hP2 (by decide)
  have c1 : vN'.oneCell' = true := by obtain ⟨_, ⟨rfl, _⟩ | ⟨g, cap, rest, rfl, _⟩⟩ := hN2 <;> rfl
  have c2 : vO'.oneCell' = true := by obtain ⟨_, ⟨rfl, _⟩ | ⟨g, cap, rest, rfl, _⟩⟩ := hO2 <;> rfl
  refine runU_i (s_store hP2 c1 (by simp)) ?_
  refine rnT_i (fun _ => s_field) ?_
  refine runU_i (s_store (hp_put_same (lt_of hP2)) c2 (by simp)) ?_
  have hl2 := lt_of hP2
  refine k _ vN' vO' ⟨hp_put_same (by rw [sz_put]; exact hl2), ?_, ?_, dif2, ?_, ?_, h.newP⟩ ?_
  · have e : List.replicate (i + 1) (str Z512) = List.replicate i (str Z512) ++ [str Z512] := List.replicate_succ'
    rw [e]
    refine hN2.keep (fun g l hg hl => ?_)
    have : g ≠ P := fun e => nN (by rw [← e]; exact hg)
    rw [hp_put_other this, hp_put_other this]; exact hl
  · have e : List.replicate (i + 1) (str []) = List.replicate i (str []) ++ [str []] := List.replicate_succ'
    rw [e]
    refine hO2.keep (fun g l hg hl => ?_)
    have : g ≠ P := fun e => nO (by rw [← e]; exact hg)
    rw [hp_put_other this, hp_put_other this]; exact hl
  · intro g hg
    rcases hb1 with e | e
    · exact h.newN g (e ▸ hg)
    · rw [e] at hg; cases hg; exact hBw
  · intro g hg
    rcases hb2 with e | e
    · exact h.newO g (e ▸ hg)
    · rw [e] at hg; cases hg; omega
  · refine (((f1.mono fun k o _ h => .inl (.inl h)).trans' ((Frm.of_qt qb).trans (f2.mono (A' := fun k o => A9 vN vO k o ∨ k = P) fun k o _ h => .inl (.inr h))) fun k o _ h => h).put_may _ (fun _ _ => .inr rfl)).put_may _ (fun _ _ => .inr rfl)

theorem conv512 {w' : World} {g : Nat} {l : List Value} (h : w'.heap[g]? = some (.cells ((List.replicate 512 (Value.int .u8 0)) ++ l).toArray T.u8 (0, 0))) : (convert 42 9 (.slice (some ⟨g, 0, none⟩) 512 512)).run Pg w' = .ok (str Z512) w' := by
  have := b2s_of (w := w') (t := 42) (d := 9) (e := T.u8) (b := g) (cap := 512) (m := 512) (ns := List.replicate 512 0) (by kernel_rfl) (by kernel_rfl) (by kernel_rfl) (by simp) h (by simp [List.map_replicate])
  rw [this]
  simp [Z512, List.map_replicate]

set_option maxHeartbeats 2000000 in
theorem round9 {n : Int} {T2 : Value} {P B i : Nat} {vN vO : Value} (h : R9 w P B vN vO i) (hi : i < 1000) (hBw : B ≤ w.heap.size) (hn : (i : Int) < n)
    {X1 : List Deferred × Value × Value × Value × Value → World → Prop} (k : ∀ w' vN' vO', R9 w' P B vN' vO' (i + 1) → Frm (fun k o => A9 vN vO k o ∨ k = P) w w' → X1 ([], int n, T2, .pointer (some ⟨P, 0, none⟩), int ((i + 1 : Nat) : Int)) w') :
    concordanceref09_New_l2 K X1 ([], int n, T2, .pointer (some ⟨P, 0, none⟩), int i) w := by
  obtain ⟨hnP, hoP⟩ := h.noP
  have qd : Qt w w.drew := (Frm.refl w).drew
  have hd := h.qt qd
  have hlive : ∀ g, (vN.ownBlock = some g ∨ vO.ownBlock = some g) → g < w.heap.size := by
    rintro g (hg | hg)
    · obtain ⟨l, hl⟩ := h.now.block hg; exact lt_of hl
    · obtain ⟨l, hl⟩ := h.or.block hg; exact lt_of hl
  have hfl : ∀ {w1 w' : World}, Qt w w1 → Frm (A9 vN vO) w1 w' → w'.heap[P]? = some (.cells [vN, vO].toArray T.concordanceref09_Pages (0, 0)) := fun q f => f.keep _ _ (q.all h.at_) (fun e => e.elim hnP hoP)
  unfold concordanceref09_New_l2
  simp only
  refine run_i (p_lssT (by omega) _) ?_
  refine cn_ti ?_
  refine ⟨Frm (A9 vN vO), fun a => .refl a, fun a b c h1 h2 => h1.trans h2, ?_⟩
  refine rnT_i (fun _ => s_field) ?_
  refine rn_i (fun w' hS => s_load (cellAt_l (hfl qd hS) rfl)) ?_
  refine rnT_i (fun _ => s_field) ?_
  refine rn_i (fun w' hS => s_load (cellAt_l (hfl qd hS) rfl)) ?_
  have fin : ∀ {w1 w' : World} {vN' vO' : Value}, Qt w w1 → R9 w' P B vN' vO' (i + 1) → Frm (fun k o => A9 vN vO k o ∨ k = P) w1 w' → X1 ([], int n, T2, .pointer (some ⟨P, 0, none⟩), int ((i + 1 : Nat) : Int)) w' := fun q r f => k _ _ _ r ((Frm.of_qt q).trans f)
  have mk : ∀ {w1 : World} {Kp : Value → World → Prop}, Qt w w1 → (∀ w', w'.heap[w1.heap.size]? = some (.cells ((List.replicate 512 (Value.int .u8 0)) ++ []).toArray T.u8 (0, 0)) → Qt w1 w' → Kp (.slice (some ⟨w1.heap.size, 0, none⟩) 512 512) w') → run Pg (Instr.makeSlice 42 (.int .i64 512) (.int .i64 512)) Kp w1 := by
    intro w1 Kp q hk
    refine r_make (t := 42) (e := T.u8) (size := 1) (bytes := 1) (z := .int .u8 0) (by kernel_rfl) ElC.get .i64 .i64 512 (by decide) (by simp [maxLen]) (fun w5 ho q5 => hk w5 ?_ q5)
    obtain ⟨h0, ⟨e, _⟩ | ⟨g, cap, rest, e, hg, h3, h4, h5⟩⟩ := ho
    · cases e
    · cases e
      have hr : rest = [] := by
        have : ((madeCells (Value.int .u8 0).cells (512 * 1)).toList ++ rest).length = 512 * 1 := h5
        rw [List.length_append, h0] at this
        exact List.eq_nil_of_length_eq_zero (by omega)
      subst hr
      have hm : (madeCells (Value.int .u8 0).cells (512 * 1)).toList = List.replicate 512 (Value.int .u8 0) := by kernel_rfl
      rw [hm] at hg
      exact hg
  have cv : ∀ {w5 w' : World} {g : Nat}, w5.heap[g]? = some (.cells ((List.replicate 512 (Value.int .u8 0)) ++ []).toArray T.u8 (0, 0)) → w.heap.size ≤ g → Frm (A9 vN vO) w5 w' → (convert 42 9 (.slice (some ⟨g, 0, none⟩) 512 512)).run Pg w' = .ok (str Z512) w' := by
    intro w5 w' g hg hge f
    exact conv512 (f.keep _ _ hg (fun e => by have := hlive g e; omega))
  have no : ∀ {g : Nat}, w.heap.size ≤ g → vN.ownBlock ≠ some g := fun hg e => by have := hlive _ (.inl e); omega
  refine ⟨?_, ?_⟩
  · refine mk qd (fun w5 h13 q5 => ?_)
    have q05 := qd.trans q5
    have s05 := q05.size
    refine ⟨.of_qt q5, ?_⟩
    refine rn_i (fun w' hS => cv h13 (by rw [sz_drew]; omega) hS) ?_
    refine ⟨?_, ?_⟩
    · refine run_i (s_build1 (by decide) (by decide) (by kernel_rfl)) ?_
      obtain ⟨w7, hw7⟩ : ∃ w7, w7 = w5.alloc (.cells [str Z512].toArray T.string) := ⟨_, rfl⟩
      have q7 : Qt w5 w7 := by rw [hw7]; exact (Frm.refl w5).alloc _
      have h15 : w7.heap[w5.heap.size]? = some (.cells [str Z512].toArray T.string (0, 0)) := by rw [hw7]; exact hp_alloc_new
      rw [show w5.alloc (.cells #[str Z512] 9) = w7 from hw7.symm]
      have q07 := q05.trans q7
      have s07 := q07.size
      refine ⟨.of_qt q7, ?_, ?_⟩
      · refine suffixA (h.qt q07) hi (by omega) (fun a b f => f) h15 (no (by omega)) (fun w' vN' vO' r f => ?_)
        refine run_i (p_addI (by omega) (by omega) _) ?_
        exact fin q07 r f
      · refine run_i (s_build1 (by decide) (by decide) (by kernel_rfl)) ?_
        obtain ⟨w8, hw8⟩ : ∃ w8, w8 = w7.alloc (.cells [str []].toArray T.string) := ⟨_, rfl⟩
        have q8 : Qt w7 w8 := by rw [hw8]; exact (Frm.refl w7).alloc _
        have h19 : w8.heap[w7.heap.size]? = some (.cells [str []].toArray T.string (0, 0)) := by rw [hw8]; exact hp_alloc_new
        rw [show w7.alloc (.cells #[.string ⟨#[]⟩] 9) = w8 from hw8.symm]
        have q08 := q07.trans q8
        have s08 := q08.size
        refine ⟨.of_qt q8, ?_⟩
        refine suffix9 (h.qt q08) hi (by omega) (fun a b f => f) (q8.all h15) h19 (no (by omega)) (no (by omega)) (fun w' vN' vO' r f => ?_)
        refine run_i (p_addI (by omega) (by omega) _) ?_
        exact fin q08 r f
    · refine run_i (s_build1 (by decide) (by decide) (by kernel_rfl)) ?_
      obtain ⟨w7, hw7⟩ : ∃ w7, w7 = w5.alloc (.cells [str []].toArray T.string) := ⟨_, rfl⟩
      have q7 : Qt w5 w7 := by rw [hw7]; exact (Frm.refl w5).alloc _
      have h19 : w7.heap[w5.heap.size]? = some (.cells [str []].toArray T.string (0, 0)) := by rw [hw7]; exact hp_alloc_new
      rw [show w5.alloc (.cells #[.string ⟨#[]⟩] 9) = w7 from hw7.symm]
      have q07 := q05.trans q7
      have s07 := q07.size
      refine ⟨.of_qt q7, ?_⟩
      refine run_i (s_build1 (by decide) (by decide) (by kernel_rfl)) ?_
      obtain ⟨w8, hw8⟩ : ∃ w8, w8 = w7.alloc (.cells [str Z512].toArray T.string) := ⟨_, rfl⟩
      have q8 : Qt w7 w8 := by rw [hw8]; exact (Frm.refl w7).alloc _
      have h15 : w8.heap[w7.heap.size]? = some (.cells [str Z512].toArray T.string (0, 0)) := by rw [hw8]; exact hp_alloc_new
      rw [show w7.alloc (.cells #[str Z512] 9) = w8 from hw8.symm]
      have q08 := q07.trans q8
      have s08 := q08.size
      refine ⟨.of_qt q8, ?_⟩
      refine suffix9 (h.qt q08) hi (by omega) (fun a b f => f) h15 (q8.all h19) (no (by omega)) (no (by omega)) (fun w' vN' vO' r f => ?_)
      refine run_i (p_addI (by omega) (by omega) _) ?_
      exact fin q08 r f
  · refine run_i (s_build1 (by decide) (by decide) (by kernel_rfl)) ?_
    obtain ⟨w4, hw4⟩ : ∃ w4, w4 = w.drew.alloc (.cells [str []].toArray T.string) := ⟨_, rfl⟩
    have q4 : Qt w.drew w4 := by rw [hw4]; exact (Frm.refl _).alloc _
    have h19 : w4.heap[w.drew.heap.size]? = some (.cells [str []].toArray T.string (0, 0)) := by rw [hw4]; exact hp_alloc_new
    rw [show w.drew.alloc (.cells #[.string ⟨#[]⟩] 9) = w4 from hw4.symm]
    have q04 := qd.trans q4
    have s04 := q04.size
    refine ⟨.of_qt q4, ?_⟩
    refine mk q04 (fun w5 h13 q5 => ?_)
    have q05 := q04.trans q5
    have s05 := q05.size
    refine ⟨.of_qt q5, ?_⟩
    refine rn_i (fun w' hS => cv h13 s04 hS) ?_
    refine run_i (s_build1 (by decide) (by decide) (by kernel_rfl)) ?_
    obtain ⟨w8, hw8⟩ : ∃ w8, w8 = w5.alloc (.cells [str Z512].toArray T.string) := ⟨_, rfl⟩
    have q8 : Qt w5 w8 := by rw [hw8]; exact (Frm.refl w5).alloc _
    have h15 : w8.heap[w5.heap.size]? = some (.cells [str Z512].toArray T.string (0, 0)) := by rw [hw8]; exact hp_alloc_new
    rw [show w5.alloc (.cells #[str Z512] 9) = w8 from hw8.symm]
    have q08 := q05.trans q8
    have s08 := q08.size
    have sd : w.drew.heap.size = w.heap.size := rfl
    refine ⟨.of_qt q8, ?_⟩
    refine suffix9 (h.qt q08) hi (by omega) (fun a b f => f) h15 (q8.all (q5.all h19)) (no (by omega)) (no (by omega)) (fun w' vN' vO' r f => ?_)
    refine run_i (p_addI (by omega) (by omega) _) ?_
    exact fin q08 r f

theorem loadSA {t n : Nat} [ht : AggC Pg t n] {b : Nat} {l : List Value} {Ty : TypeId} {fz : Nat × Nat} (h : w.heap[b]? = some (.cells l.toArray Ty fz)) (hl : l.length = n) : (loadS t (.pointer (some ⟨b, 0, none⟩))).run Pg w = .ok (.agg l.toArray) w := by
  have := r_load_agg (w := w) (i := 0) ht.get h (by omega)
  rw [List.drop_zero, ← hl, List.take_length] at this
  simp only [Instr.loadAt, Instr.sureAddr] at this
  simpa [loadS, asAddr] using this

set_option maxHeartbeats 1000000 in
theorem ref9New_c {n : Nat} (hn : n ≤ 1000) (k : ∀ w' vN vO, Own w' T.string 1 vN n (List.replicate n (str Z512)) → Own w' T.string 1 vO n (List.replicate n (str [])) → (∀ g, vN.ownBlock = some g → w.heap.size ≤ g) → (∀ g, vO.ownBlock = some g → w.heap.size ≤ g) → Qt w w' → K (.agg #[vN, vO]) w') :
    call Pg F.concordanceref09_New [int n] K w := by
  refine concordanceref09_New_call ?_
  unfold concordanceref09_New
  refine run_i s_alloc ?_
  refine run_i (build_of (cells := #[.slice none 0 0, .slice none 0 0]) (by kernel_rfl) _) ?_
  refine run_i s_alloc ?_
  refine runU_i (s_storeW hp_alloc_new rfl (by simp [Value.oneCell', str]) rfl) ?_
  obtain ⟨w1, hw1⟩ : ∃ w1, w1 = w.alloc (.cells [.slice none 0 0, .slice none 0 0].toArray 49) := ⟨_, rfl⟩
  rw [show w.alloc (.cells #[.slice none 0 0, .slice none 0 0] 49) = w1 from hw1.symm]
  have q1 : Qt w w1 := by rw [hw1]; exact (Frm.refl w).alloc _
  have h1 : w1.heap[w.heap.size]? = some (.cells [.slice none 0 0, .slice none 0 0].toArray T.concordanceref09_Pages (0, 0)) := by rw [hw1]; exact hp_alloc_new
  have l1 := lt_of h1
  obtain ⟨w2, hw2⟩ : ∃ w2, w2 = (w1.alloc (.cells [.slice none 0 0, .slice none 0 0].toArray 49)).putObj w1.heap.size (.cells [.slice none 0 0, .slice none 0 0].toArray 49 (0, 0)) := ⟨_, rfl⟩
  rw [show (w1.alloc (.cells #[.slice none 0 0, .slice none 0 0] 49)).putObj w1.heap.size (.cells #[.slice none 0 0, .slice none 0 0] 49) = w2 from hw2.symm]
  have q2 : Qt w1 w2 := by rw [hw2]; exact ((Frm.refl w1).alloc _).put_new _ (Nat.le_refl _)
  have h2 : w2.heap[w1.heap.size]? = some (.cells [.slice none 0 0, .slice none 0 0].toArray T.concordanceref09_Pages (0, 0)) := by rw [hw2]; exact hp_put_same (by rw [sz_alloc]; omega)
  have hR : R9 w2 w1.heap.size w.heap.size (.slice none 0 0) (.slice none 0 0) 0 :=
    ⟨h2, ⟨rfl, .inl ⟨rfl, rfl⟩⟩, ⟨rfl, .inl ⟨rfl, rfl⟩⟩, by simp [Value.ownBlock], by simp [Value.ownBlock], by simp [Value.ownBlock], by omega⟩
  refine Lp_inv (concordanceref09_New_l2_mono K) (fun st w' => ∃ (i : Nat) (vN vO : Value), st = ([], int n, .pointer (some ⟨w.heap.size, 0, none⟩), .pointer (some ⟨w1.heap.size, 0, none⟩), int i) ∧ i ≤ n ∧ R9 w' w1.heap.size w.heap.size vN vO i ∧ w'.heap[w.heap.size]? = some (.cells [.slice none 0 0, .slice none 0 0].toArray T.concordanceref09_Pages (0, 0)) ∧ Qt w w')
    (fun st _ => match st.2.2.2.2 with | .int _ k => (n - k).toNat | _ => 0) ⟨0, _, _, rfl, by omega, hR, q2.all h1, q1.trans q2⟩ ?_
  rintro st w' ⟨i, vN, vO, rfl, hi, hr, ht, q⟩
  have hsz := q.size
  by_cases hil : i < n
  · refine round9 hr (by omega) hsz (by omega) (fun w3 vN' vO' hr' f => ?_)
    refine ⟨⟨i + 1, vN', vO', rfl, by omega, hr', ?_, ?_⟩, ?_⟩
    · refine f.keep _ _ ht (fun e => ?_)
      rcases e with (e | e) | e
      · exact hr.now.ne ht (by decide) e
      · exact hr.or.ne ht (by decide) e
      · omega
    · refine q.trans' f (fun k o hk _ e => ?_)
      have hlk := lt_of hk
      rcases e with (e | e) | e
      · have := hr.newN _ e; omega
      · have := hr.newO _ e; omega
      · have := hr.newP; omega
    · simp only; omega
  · have e : i = n := by omega
    subst e
    unfold concordanceref09_New_l2
    simp only
    refine run_i (p_lssF (by omega) _) ?_
    refine cn_fi ?_
    unfold concordanceref09_New_j1
    have hat := hr.at_
    have o1 : vN.oneCell' = true := by obtain ⟨_, ⟨rfl, _⟩ | ⟨g, cap, rest, rfl, _⟩⟩ := hr.now <;> rfl
    have o2 : vO.oneCell' = true := by obtain ⟨_, ⟨rfl, _⟩ | ⟨g, cap, rest, rfl, _⟩⟩ := hr.or <;> rfl
    refine run_i (s_loadW hat rfl) ?_
    refine runU_i (s_storeW (vs := [vN, vO]) ht rfl (by simp [o1, o2]) rfl) ?_
    refine lv_i ?_
    refine rnR_i (loadSA (t := 49) (n := 2) (hp_put_same (lt_of ht)) rfl) ?_
    have hTP : w.heap.size ≠ w1.heap.size := by omega
    have q3 : Qt w (w'.putObj w.heap.size (.cells [vN, vO].toArray T.concordanceref09_Pages (0, 0))) := q.put_new _ (Nat.le_refl _)
    have kp : ∀ {v : Value} {xs : List Value}, Own w' T.string 1 v i xs → Own (w'.putObj w.heap.size (.cells [vN, vO].toArray T.concordanceref09_Pages (0, 0))) T.string 1 v i xs := by
      intro v xs ho
      refine ho.keep (fun g l hg hl => ?_)
      have : g ≠ w.heap.size := fun e => ho.ne ht (by decide) (by rw [← e]; exact hg)
      rw [hp_put_other this]; exact hl
    exact k _ vN vO (kp hr.now) (kp hr.or) hr.newN hr.newO q3
end Go.Sx
end

section
set_option maxRecDepth 100000
set_option linter.unusedVariables false
namespace Go.Sx
open Go
/-- (*strings.Builder).copyCheck -/
noncomputable def strings_Builder_copyCheck_body : Code := (Go.Proofs.Tryz.f75.body).getD .skip

def strings_Builder_copyCheck (K : Value → World → Prop) (ds : List Deferred) (x0 : Value) (w : World) : Prop :=
  run Pg (nilS x0) (fun t3_1 w =>
  run Pg (Instr.fieldAt 105 t3_1 0) (fun t4_2 w =>
  run Pg (Instr.loadAt 103 t4_2) (fun t5_3 w =>
  run Pg (binS .eql 103 true t5_3 (.pointer none)) (fun t6_4 w =>
  cnd t6_4 (
  run Pg (convert 103 159 x0) (fun t9_5 w =>
  call Pg F.internal_abi_NoEscape [t9_5] (fun t10_6 w =>
  run Pg (convert 159 103 t10_6) (fun t11_7 w =>
  run Pg (nilS x0) (fun t12_8 w =>
  run Pg (Instr.fieldAt 105 t12_8 0) (fun t13_9 w =>
  runU Pg (Instr.storeAt 103 t13_9 t11_7) (fun w =>
  leaveW Pg ds (fun w => K (.tuple #[]) w) w) w) w) w) w) w) w) (
  run Pg (nilS x0) (fun t15_10 w =>
  run Pg (Instr.fieldAt 105 t15_10 0) (fun t16_11 w =>
  run Pg (Instr.loadAt 103 t16_11) (fun t17_12 w =>
  run Pg (binS .neq 103 false t17_12 x0) (fun t19_13 w =>
  cnd t19_13 (
  False) (
  leaveW Pg ds (fun w => K (.tuple #[]) w) w)) w) w) w) w)) w) w) w) w

theorem strings_Builder_copyCheck_eq (K : Value → World → Prop) : W Pg strings_Builder_copyCheck_body false (retQ Pg [] K) = (fun s w => strings_Builder_copyCheck K s.ds (s.f 0) w) :=
  by kernel_rfl

theorem strings_Builder_copyCheck_ok : FnOk Pg F.strings_Builder_copyCheck Go.Proofs.Tryz.f75 strings_Builder_copyCheck_body 1 := ⟨Go.Proofs.Tryz.func75, by kernel_rfl, by kernel_rfl, by kernel_rfl, by kernel_rfl, by kernel_rfl⟩

theorem strings_Builder_copyCheck_callS {K : Value → World → Prop} {x0 : Value} {w : World} (h : strings_Builder_copyCheck K [] x0 w) : callS Pg F.strings_Builder_copyCheck [x0] K w :=
  call_of_W strings_Builder_copyCheck_ok (Eq.mpr (congrFun (congrFun (strings_Builder_copyCheck_eq K) ⟨argFr [x0], []⟩) w) h)

theorem strings_Builder_copyCheck_call {K : Value → World → Prop} {x0 : Value} {w : World} (h : strings_Builder_copyCheck K [] x0 w) : call Pg F.strings_Builder_copyCheck [x0] K w := .inl (strings_Builder_copyCheck_callS h)

/-- (*strings.Builder).WriteString -/
noncomputable def strings_Builder_WriteString_body : Code := (Go.Proofs.Tryz.f48.body).getD .skip

def strings_Builder_WriteString (K : Value → World → Prop) (ds : List Deferred) (x0 : Value) (x1 : Value) (w : World) : Prop :=
  call Pg F.strings_Builder_copyCheck [x0] (fun t7_1 w =>
  run Pg (nilS x0) (fun t10_2 w =>
  run Pg (Instr.fieldAt 105 t10_2 1) (fun t11_3 w =>
  run Pg (Instr.loadAt 42 t11_3) (fun t12_4 w =>
  run Pg (Builtin.append_ #[42, 9] 42 #[t12_4, x1]) (fun t14_5 w =>
  run Pg (nilS x0) (fun t15_6 w =>
  run Pg (Instr.fieldAt 105 t15_6 1) (fun t16_7 w =>
  runU Pg (Instr.storeAt 42 t16_7 t14_5) (fun w =>
  run Pg (Builtin.len_ #[9] 3 #[x1]) (fun t18_8 w =>
  leaveW Pg ds (fun w => K (.tuple #[t18_8, .nilIface]) w) w) w) w) w) w) w) w) w) w) w

theorem strings_Builder_WriteString_eq (K : Value → World → Prop) : W Pg strings_Builder_WriteString_body false (retQ Pg [.tmp 4, .tmp 5] K) = (fun s w => strings_Builder_WriteString K s.ds (s.f 0) (s.f 1) w) :=
  by kernel_rfl

theorem strings_Builder_WriteString_ok : FnOk Pg F.strings_Builder_WriteString Go.Proofs.Tryz.f48 strings_Builder_WriteString_body 2 := ⟨Go.Proofs.Tryz.func48, by kernel_rfl, by kernel_rfl, by kernel_rfl, by kernel_rfl, by kernel_rfl⟩

theorem strings_Builder_WriteString_callS {K : Value → World → Prop} {x0 : Value} {x1 : Value} {w : World} (h : strings_Builder_WriteString K [] x0 x1 w) : callS Pg F.strings_Builder_WriteString [x0, x1] K w :=
  call_of_W strings_Builder_WriteString_ok (Eq.mpr (congrFun (congrFun (strings_Builder_WriteString_eq K) ⟨argFr [x0, x1], []⟩) w) h)

theorem strings_Builder_WriteString_call {K : Value → World → Prop} {x0 : Value} {x1 : Value} {w : World} (h : strings_Builder_WriteString K [] x0 x1 w) : call Pg F.strings_Builder_WriteString [x0, x1] K w := .inl (strings_Builder_WriteString_callS h)

/-- (*strings.Builder).Len -/
noncomputable def strings_Builder_Len_body : Code := (Go.Proofs.Tryz.f50.body).getD .skip

def strings_Builder_Len (K : Value → World → Prop) (ds : List Deferred) (x0 : Value) (w : World) : Prop :=
  run Pg (nilS x0) (fun t4_1 w =>
  run Pg (Instr.fieldAt 105 t4_1 1) (fun t5_2 w =>
  run Pg (Instr.loadAt 42 t5_2) (fun t6_3 w =>
  run Pg (Builtin.len_ #[42] 3 #[t6_3]) (fun t7_4 w =>
  leaveW Pg ds (fun w => K t7_4 w) w) w) w) w) w

theorem strings_Builder_Len_eq (K : Value → World → Prop) : W Pg strings_Builder_Len_body false (retQ Pg [.tmp 2] K) = (fun s w => strings_Builder_Len K s.ds (s.f 0) w) :=
  by kernel_rfl

theorem strings_Builder_Len_ok : FnOk Pg F.strings_Builder_Len Go.Proofs.Tryz.f50 strings_Builder_Len_body 1 := ⟨Go.Proofs.Tryz.func50, by kernel_rfl, by kernel_rfl, by kernel_rfl, by kernel_rfl, by kernel_rfl⟩

theorem strings_Builder_Len_callS {K : Value → World → Prop} {x0 : Value} {w : World} (h : strings_Builder_Len K [] x0 w) : callS Pg F.strings_Builder_Len [x0] K w :=
  call_of_W strings_Builder_Len_ok (Eq.mpr (congrFun (congrFun (strings_Builder_Len_eq K) ⟨argFr [x0], []⟩) w) h)

theorem strings_Builder_Len_call {K : Value → World → Prop} {x0 : Value} {w : World} (h : strings_Builder_Len K [] x0 w) : call Pg F.strings_Builder_Len [x0] K w := .inl (strings_Builder_Len_callS h)

end Go.Sx
end

section
/- strings.Builder: WriteString, Len, String. -/
set_option linter.unusedVariables false
set_option linter.unusedSimpArgs false
set_option maxRecDepth 100000
namespace Go.Sx
open Go Go.RowKit
variable {K : Value → World → Prop} {w : World}

/-- A builder that holds so many bytes; it and its row lie above B. -/
def Bld (B b : Nat) (l : Text) (w : World) : Prop := Lib.IsBuilder T.strings_Builder T.u8 B b (Lib.byteCells l) w

theorem noEscape_c {x : Value} (k : K x w) : call Pg F.internal_abi_NoEscape [x] K w := by
  refine .inr ?_
  have e : (callFunc F.internal_abi_NoEscape [x].toArray).run Pg w = .ok (.value x) w := by kernel_rfl
  unfold exec
  rw [e]
  exact k

theorem info105 : ∃ j : TypeInfo, Pg.info? T.strings_Builder = some j ∧ j.size = 2 := by
  have h : (Pg.info? T.strings_Builder).map (·.size) = some 2 := by kernel_rfl
  cases hi : Pg.info? T.strings_Builder with
  | none => rw [hi] at h; cases h
  | some j => rw [hi] at h; exact ⟨j, rfl, by simpa using h⟩
theorem conv_up {b : Nat} {x y : Value} {fz : Nat × Nat} (h : w.heap[b]? = some (.cells [x, y].toArray T.strings_Builder fz)) : (convert 103 159 (.pointer (some ⟨b, 0, none⟩))).run Pg w = .ok (.pointer (some ⟨b, 0, none⟩)) w := by
  obtain ⟨j, hj, hs⟩ := info105
  exact Lib.run_to_unsafe (t := T.strings_Builder) (e := T.strings_Builder) (cells := 2) w _ (by kernel_rfl) (by kernel_rfl) hj (by omega) (by simp [World.shape?, h]) (show 0 < 2 by decide)
theorem conv_down {b : Nat} {x y : Value} {fz : Nat × Nat} (h : w.heap[b]? = some (.cells [x, y].toArray T.strings_Builder fz)) : (convert 159 103 (.pointer (some ⟨b, 0, none⟩))).run Pg w = .ok (.pointer (some ⟨b, 0, none⟩)) w := by
  obtain ⟨j, hj, hs⟩ := info105
  exact Lib.run_from_unsafe (u := T.strings_Builder) (e := T.strings_Builder) (cells := 2) w _ (by kernel_rfl) (by kernel_rfl) hj (by simp [World.shape?, h]) (by kernel_rfl)

theorem Bld.parts {B b : Nat} {l : Text} (h : Bld B b l w) : ∃ p v, (p = .pointer none ∨ p = .pointer (some ⟨b, 0, none⟩)) ∧ B ≤ b ∧ w.heap[b]? = some (.cells [p, v].toArray T.strings_Builder (0, 0)) ∧ w.ownsRow B T.u8 1 v (Lib.byteCells l).length (Lib.byteCells l) ∧ v.ownBlock ≠ some b := by
  rcases h with ⟨h1, v, h2, h3, h4⟩ | ⟨h1, v, h2, h3, h4⟩
  · exact ⟨_, v, .inl rfl, h1, h2, h3, h4⟩
  · exact ⟨_, v, .inr rfl, h1, h2, h3, h4⟩
theorem Bld.mk' {B b : Nat} {l : Text} {v : Value} (h1 : B ≤ b) (h2 : w.heap[b]? = some (.cells [.pointer (some ⟨b, 0, none⟩), v].toArray T.strings_Builder (0, 0))) (h3 : w.ownsRow B T.u8 1 v (Lib.byteCells l).length (Lib.byteCells l)) (h4 : v.ownBlock ≠ some b) : Bld B b l w := .inr ⟨h1, v, h2, h3, h4⟩

theorem copyCheck_c {b : Nat} {p v : Value} (hp : p = .pointer none ∨ p = .pointer (some ⟨b, 0, none⟩)) (h : w.heap[b]? = some (.cells [p, v].toArray T.strings_Builder (0, 0)))
    (k : ∀ w', w'.heap[b]? = some (.cells [.pointer (some ⟨b, 0, none⟩), v].toArray T.strings_Builder (0, 0)) → Frm (fun k _ => k = b) w w' → K (.tuple #[]) w') : call Pg F.strings_Builder_copyCheck [.pointer (some ⟨b, 0, none⟩)] K w := by
  refine strings_Builder_copyCheck_call ?_
  unfold strings_Builder_copyCheck
  rcases hp with rfl | rfl
  · refine run_i (p_nil _) ?_
    refine run_i s_field ?_
    refine run_i (s_load (cellAt_l h rfl)) ?_
    refine run_i s_ptr_eql ?_
    refine cn_ti ?_
    refine run_i (conv_up h) ?_
    refine noEscape_c ?_
    refine run_i (conv_down h) ?_
    refine run_i (p_nil _) ?_
    refine run_i s_field ?_
    refine runU_i (s_store h rfl (by simp <;> omega)) ?_
    refine lv_i ?_
    exact k _ (hp_put_same (lt_of h)) ((Frm.refl w).put_may _ (fun _ _ => rfl))
  · refine run_i (p_nil _) ?_
    refine run_i s_field ?_
    refine run_i (s_load (cellAt_l h rfl)) ?_
    refine run_i s_ptr_eql ?_
    refine cn_fi ?_
    refine run_i (p_nil _) ?_
    refine run_i s_field ?_
    refine run_i (s_load (cellAt_l h rfl)) ?_
    obtain ⟨j, hj, _⟩ := info105
    refine run_i (Lib.run_neq_ptr_same (te := T.strings_Builder) w _ (by kernel_rfl) hj) ?_
    refine cn_fi ?_
    refine lv_i ?_
    exact k _ h (.refl _)

theorem rows_put {B b : Nat} {e : TypeId} {v : Value} {n : Nat} {xs : List Value} {o : Obj} (h : w.ownsRow B e 1 v n xs) (hb : v.ownBlock ≠ some b) : (w.putObj b o).ownsRow B e 1 v n xs := by
  obtain ⟨h0, h | ⟨g, cap, cur, rfl, h1, h2, h3, h4, h5, h6⟩⟩ := h
  · exact ⟨h0, .inl h⟩
  · have : g ≠ b := fun e => hb (by subst e; rfl)
    exact ⟨h0, .inr ⟨g, cap, cur, rfl, h1, by rw [hp_put_other this]; exact h2, h3, h4, h5, h6⟩⟩

set_option maxHeartbeats 400000 in
theorem WriteString_c {B b : Nat} {l s : Text} (h : Bld B b l w) (hB : B ≤ w.heap.size) (hl : l.length + s.length ≤ 1000000000)
    (k : ∀ w', Bld B b (l ++ s) w' → Below B w w' → K (.tuple #[int s.length, .nilIface]) w') : call Pg F.strings_Builder_WriteString [.pointer (some ⟨b, 0, none⟩), str s] K w := by
  obtain ⟨p, v, hp, hbB, hb, hrow, hne⟩ := h.parts
  refine strings_Builder_WriteString_call ?_
  unfold strings_Builder_WriteString
  refine copyCheck_c hp hb (fun w1 hb1 f1 => ?_)
  have hrow1 : w1.ownsRow B T.u8 1 v (Lib.byteCells l).length (Lib.byteCells l) := by
    obtain ⟨h0, h | ⟨g, cap, cur, rfl, h1, h2, h3, h4, h5, h6⟩⟩ := hrow
    · exact ⟨h0, .inl h⟩
    · exact ⟨h0, .inr ⟨g, cap, cur, rfl, h1, f1.keep _ _ h2 (fun e => hne (by rw [← e]; rfl)), h3, h4, h5, h6⟩⟩
  have hs1 := f1.size
  refine run_i (p_nil _) ?_
  refine run_i s_field ?_
  refine run_i (s_load (cellAt_l hb1 rfl)) ?_
  obtain ⟨i, hi, hz, hsz, hby, _⟩ := (ElC.get : El Pg T.u8 1 1 (.int .u8 0)).get
  obtain ⟨v2, w2, hr, hrow2, hg2, _⟩ := Lib.run_append_own_string (P := Pg) (w := w1) B 42 9 42 T.u8 i (by kernel_rfl) (by kernel_rfl) hi hz hsz hby v _ _ hrow1 ⟨s.toArray⟩ (by simp [size_mk, Lib.byteCells, maxLen]; omega) (by simp [size_mk, Lib.byteCells]; omega) (by omega)
  refine run_i hr ?_
  have e2 : Lib.byteCells l ++ Lib.strCells ⟨s.toArray⟩ = Lib.byteCells (l ++ s) := by simp [Lib.byteCells, Lib.strCells]
  have e3 : (Lib.byteCells l).length + (ByteArray.mk s.toArray).size = (Lib.byteCells (l ++ s)).length := by simp [Lib.byteCells, size_mk]
  rw [e2, e3] at hrow2
  have hb2 : w2.heap[b]? = some (.cells [.pointer (some ⟨b, 0, none⟩), v].toArray T.strings_Builder (0, 0)) := by rw [hg2.block b (lt_of hb1) (fun e => hne e.symm)]; exact hb1
  have hne2 : v2.ownBlock ≠ some b := by
    intro e
    obtain ⟨_, ⟨rfl, _⟩ | ⟨g, cap, cur, rfl, _, h2, _⟩⟩ := hrow2
    · cases e
    · have : g = b := by simpa [Value.ownBlock] using e
      subst this
      rw [h2] at hb2
      exact absurd (by injection hb2 with h1; injection h1) (show ¬ T.u8 = T.strings_Builder by decide)
  have h1c : v2.oneCell' = true := by
    obtain ⟨_, ⟨rfl, _⟩ | ⟨g, cap, cur, rfl, _⟩⟩ := hrow2 <;> rfl
  refine run_i (p_nil _) ?_
  refine run_i s_field ?_
  refine runU_i (s_store hb2 h1c (by simp)) ?_
  refine run_i s_len_str ?_
  refine lv_i ?_
  refine k _ (.mk' hbB (hp_put_same (lt_of hb2)) (rows_put hrow2 hne2) hne2) ⟨?_, ?_, ?_, ?_, fun k hk => ?_⟩
  · exact hg2.os.trans f1.os
  · exact hg2.tape.trans f1.tape
  · exact hg2.output.trans f1.output
  · rw [sz_put]; have := hg2.size; omega
  · have h1 : k ≠ b := by omega
    have h2 : some k ≠ v.ownBlock := by
      obtain ⟨_, ⟨rfl, _⟩ | ⟨g, cap, cur, rfl, hg, _⟩⟩ := hrow
      · simp [Value.ownBlock]
      · simp [Value.ownBlock]; omega
    have hk2 : k < w.heap.size := by omega
    rw [hp_put_other h1, hg2.block k (by omega) h2]
    cases ho : w.heap[k]? with
    | none => rw [Array.getElem?_eq_getElem hk2] at ho; cases ho
    | some o => exact f1.keep _ _ ho h1

theorem BLen_c {B b : Nat} {l : Text} (h : Bld B b l w) (k : K (int l.length) w) : call Pg F.strings_Builder_Len [.pointer (some ⟨b, 0, none⟩)] K w := by
  obtain ⟨p, v, hp, hbB, hb, hrow, hne⟩ := h.parts
  refine strings_Builder_Len_call ?_
  unfold strings_Builder_Len
  obtain ⟨a, cap, rfl⟩ : ∃ a cap, v = .slice a (Lib.byteCells l).length cap := by
    obtain ⟨_, ⟨rfl, e⟩ | ⟨g, cap, cur, rfl, _⟩⟩ := hrow
    · exact ⟨_, _, by rw [e]⟩
    · exact ⟨_, _, rfl⟩
  refine run_i (p_nil _) ?_
  refine run_i s_field ?_
  refine run_i (s_load (cellAt_l hb rfl)) ?_
  refine run_i s_len_sl ?_
  refine lv_i ?_
  rw [Lib.byteCells_length]
  exact k

theorem String_c {B b : Nat} {l : Text} (h : Bld B b l w) (hB : B ≤ w.heap.size) (k : ∀ w', Below B w w' → K (str l) w') : call Pg F.strings_Builder_String [.pointer (some ⟨b, 0, none⟩)] K w := by
  refine call_of_calls (c := (Go.Proofs.Tryz.f52.body).getD .skip) Go.Proofs.Tryz.func52 (by kernel_rfl) (by kernel_rfl) (Go.Proofs.Tryz.Builder_String_any B b l w h hB) ?_
  rintro e w' ⟨rfl, hb⟩
  exact ⟨_, rfl, k w' hb⟩

/-- A new one. -/
theorem Bld.new {b : Nat} (h : w.heap[b]? = some (.cells [.pointer none, .slice none 0 0].toArray T.strings_Builder (0, 0))) {B : Nat} (hB : B ≤ b) : Bld B b [] w :=
  .inl ⟨hB, _, h, ⟨rfl, .inl ⟨rfl, rfl⟩⟩, by simp [Value.ownBlock]⟩
end Go.Sx
end

section
/- page: Size, Free, right. -/
set_option linter.unusedVariables false
set_option linter.unusedSimpArgs false
set_option maxRecDepth 100000
namespace Go.Sx
open Go Go.RowKit
variable {K : Value → World → Prop} {w : World}

structure Ent where
  key : Text
  value : Text
  marked : Bool
def Ent.cells (e : Ent) : List Value := [str e.key, str e.value, .bool e.marked]
def ecells (l : List Ent) : List Value := l.flatMap Ent.cells
theorem ecells_len (l : List Ent) : (ecells l).length = l.length * 3 := by
  induction l with
  | nil => rfl
  | cons e l ih => simp only [ecells, List.flatMap_cons, List.length_append] at ih ⊢; rw [ih]; simp [Ent.cells]; omega
theorem ecells_at {l : List Ent} {i : Nat} (hi : i < l.length) : ((ecells l).drop (i * 3)).take 3 = l[i].cells := by
  induction l generalizing i with
  | nil => simp at hi
  | cons e l ih =>
    cases i with
    | zero => simp [ecells, Ent.cells]
    | succ i =>
      have e1 : (i + 1) * 3 = 3 + i * 3 := by omega
      have e2 : (ecells (e :: l)).drop ((i + 1) * 3) = (ecells l).drop (i * 3) := by
        rw [e1, ← List.drop_drop]; simp [ecells, Ent.cells]
      rw [e2]
      simpa using ih (i := i) (by simpa using hi)

theorem within_c {n a b : Int} (k : K (.bool (decide (a ≤ n ∧ n ≤ b))) w) : call Pg F.page_within [int n, int a, int b] K w := by
  refine page_within_call ?_
  unfold page_within
  by_cases h1 : a ≤ n
  · by_cases h2 : n ≤ b
    · rw [decide_eq_true ⟨h1, h2⟩] at k
      refine run_i (p_geqT (by omega) _) ?_
      refine gc_tti ?_
      refine run_i (p_leqT (by omega) _) ?_
      unfold page_within_g1
      refine pk_ti ?_
      refine lv_i ?_
      exact k
    · rw [decide_eq_false (fun h => h2 h.2)] at k
      refine run_i (p_geqT (by omega) _) ?_
      refine gc_tti ?_
      refine run_i (p_leqF (by omega) _) ?_
      unfold page_within_g1
      refine pk_ti ?_
      refine lv_i ?_
      exact k
  · rw [decide_eq_false (fun h => h1 h.1)] at k
    refine run_i (p_geqF (by omega) _) ?_
    refine gc_fti ?_
    unfold page_within_g1
    refine pk_fi ?_
    refine lv_i ?_
    exact k

theorem Size_c {e : Ent} (h1 : e.key.length ≤ 1000000) (h2 : e.value.length ≤ 1000000) (k : ∀ w', Qt w w' → K (int (3 + e.key.length + e.value.length)) w') : call Pg F.page_Size [.agg e.cells.toArray] K w := by
  refine page_Size_call ?_
  unfold page_Size
  unfold Ent.cells
  refine run_i s_box ?_
  refine run_i s_field ?_
  refine run_i (s_load (cellAt_l hp_alloc_new rfl)) ?_
  refine run_i s_len_str ?_
  refine run_i (p_addI (by omega) (by omega) _) ?_
  refine run_i s_field ?_
  refine run_i (s_load (cellAt_l hp_alloc_new rfl)) ?_
  refine run_i s_len_str ?_
  refine run_i (p_addI (by omega) (by omega) _) ?_
  refine lv_i ?_
  exact k _ (by (refine ((Frm.refl _).alloc _)))

def Ent.big (e : Ent) : Bool := decide (64 < e.key.length) || decide (100 < e.value.length)
theorem big_c {e : Ent} (k : ∀ w', Qt w w' → K (.bool e.big) w') : call Pg F.page_Page_right_c1 [.agg e.cells.toArray] K w := by
  refine page_Page_right_c1_call ?_
  unfold page_Page_right_c1
  unfold Ent.cells
  unfold Ent.big at k
  by_cases h1 : 64 < e.key.length
  · simp only [h1, decide_true, Bool.true_or] at k
    refine run_i s_box ?_
    refine run_i s_field ?_
    refine run_i (s_load (cellAt_l hp_alloc_new rfl)) ?_
    refine run_i s_len_str ?_
    refine run_i (p_gtrT (by omega) _) ?_
    refine gc_tfi ?_
    unfold page_Page_right_c1_g1
    refine pk_ti ?_
    refine lv_i ?_
    exact k _ (by (refine ((Frm.refl _).alloc _)))
  · by_cases h2 : 100 < e.value.length
    · simp only [h1, h2, decide_true, decide_false, Bool.or_true] at k
      refine run_i s_box ?_
      refine run_i s_field ?_
      refine run_i (s_load (cellAt_l hp_alloc_new rfl)) ?_
      refine run_i s_len_str ?_
      refine run_i (p_gtrF (by omega) _) ?_
      refine gc_ffi ?_
      refine run_i s_field ?_
      refine run_i (s_load (cellAt_l hp_alloc_new rfl)) ?_
      refine run_i s_len_str ?_
      refine run_i (p_gtrT (by omega) _) ?_
      unfold page_Page_right_c1_g1
      refine pk_fi ?_
      refine lv_i ?_
      exact k _ (by (refine ((Frm.refl _).alloc _)))
    · simp only [h1, h2, decide_false, Bool.or_false] at k
      refine run_i s_box ?_
      refine run_i s_field ?_
      refine run_i (s_load (cellAt_l hp_alloc_new rfl)) ?_
      refine run_i s_len_str ?_
      refine run_i (p_gtrF (by omega) _) ?_
      refine gc_ffi ?_
      refine run_i s_field ?_
      refine run_i (s_load (cellAt_l hp_alloc_new rfl)) ?_
      refine run_i s_len_str ?_
      refine run_i (p_gtrF (by omega) _) ?_
      unfold page_Page_right_c1_g1
      refine pk_fi ?_
      refine lv_i ?_
      exact k _ (by (refine ((Frm.refl _).alloc _)))

theorem IndexFunc_c {f : FuncId} {g : Ent → Bool} {ev : Value} {l : List Ent} (hf : ∀ (e : Ent) (K : Value → World → Prop) (w : World), (∀ w', Qt w w' → K (.bool (g e)) w') → call Pg f [.agg e.cells.toArray] K w)
    (hr : Rd w T.page_Entry 3 ev l.length (ecells l)) (hl : l.length ≤ 1000000000) (k : ∀ w' r, Qt w w' → (0 ≤ r ↔ l.any g = true) → K (int r) w') : call Pg F.slices_IndexFunc_page_Entry_page_Entry [ev, .func (.func f) #[] #[]] K w := by
  obtain ⟨a, cap, rfl⟩ := hr.shape
  refine slices_IndexFunc_page_Entry_page_Entry_call ?_
  unfold slices_IndexFunc_page_Entry_page_Entry
  refine run_i s_len_sl ?_
  refine Lp_inv (slices_IndexFunc_page_Entry_page_Entry_l2_mono K) (fun st w' => ∃ i : Nat, st = ([], .slice a l.length cap, .func (.func f) #[] #[], int l.length, int i) ∧ i ≤ l.length ∧ (∀ j, j < i → (hj : j < l.length) → g l[j] = false) ∧ Qt w w')
    (fun st _ => match st.2.2.2.2 with | .int _ k => (l.length - k).toNat | _ => 0) ⟨0, rfl, by omega, fun j hj => by omega, .refl _⟩ ?_
  rintro st w' ⟨i, rfl, hi, hno, q⟩
  unfold slices_IndexFunc_page_Entry_page_Entry_l2
  simp only
  by_cases hil : i < l.length
  · have hil' : (i : Int) < l.length := by omega
    refine run_i (p_lssT (by omega) _) ?_
    refine cn_ti ?_
    refine (hr.qt q).loadA (by decide) hil (ecells_at hil) SliceC.get AggC.get rfl ?_
    change call Pg f [_] _ _
    refine hf _ _ _ (fun w2 q2 => ?_)
    cases hg : g l[i] with
    | true =>
      refine cn_ti ?_
      refine lv_i ?_
      refine k _ _ (q.trans q2) ?_
      have : l.any g = true := List.any_eq_true.2 ⟨_, List.getElem_mem hil, hg⟩
      simp [this]
    | false =>
      refine cn_fi ?_
      refine run_i (p_addI (by omega) (by omega) _) ?_
      refine ⟨⟨i + 1, rfl, by omega, fun j hj hjl => ?_, q.trans q2⟩, ?_⟩
      · by_cases e : j = i
        · subst e; exact hg
        · exact hno j (by omega) hjl
      · simp only; omega
  · have hil' : ¬ (i : Int) < l.length := by omega
    refine run_i (p_lssF (by omega) _) ?_
    refine cn_fi ?_
    unfold slices_IndexFunc_page_Entry_page_Entry_j1
    refine lv_i ?_
    refine k _ _ q ?_
    have : l.any g = false := by
      rw [List.any_eq_false]
      intro x hx
      obtain ⟨j, hj, rfl⟩ := List.mem_iff_getElem.1 hx
      simpa using hno j (by omega) hj
    simp [this]
end Go.Sx
end

section
/- page: right, Free, Build. -/
set_option linter.unusedVariables false
set_option linter.unusedSimpArgs false
set_option maxRecDepth 100000
namespace Go.Sx
open Go Go.RowKit
variable {K : Value → World → Prop} {w : World}

structure PgT where
  lsn : Int
  kind : Int
  level : Int
  right : Int
  high : Text
  ents : List Ent
def PgT.cells (p : PgT) (ev : Value) : List Value := [int p.lsn, int p.kind, int p.level, int p.right, str p.high, ev]
def PgT.ok (p : PgT) : Bool := decide (0 ≤ p.lsn ∧ p.lsn ≤ 281474976710655 ∧ 1 ≤ p.kind ∧ p.kind ≤ 255 ∧ 0 ≤ p.level ∧ p.level ≤ 255 ∧ 0 ≤ p.right ∧ p.right ≤ 65535 ∧ p.high.length ≤ 64) && !p.ents.any Ent.big
def ssize (l : List Ent) : Nat := (l.map fun e => 3 + e.key.length + e.value.length).sum
def PgT.free (p : PgT) : Int := 489 - p.high.length - ssize p.ents

set_option maxHeartbeats 1000000 in
theorem right_c {p : PgT} {ev : Value} (hr : Rd w T.page_Entry 3 ev p.ents.length (ecells p.ents)) (hl : p.ents.length ≤ 1000000000) (k : ∀ w', Qt w w' → K (.bool p.ok) w') : call Pg F.page_Page_right [.agg (p.cells ev).toArray] K w := by
  obtain ⟨lsn, kind, level, rt, high, ents⟩ := p
  obtain ⟨a, cap, rfl⟩ := hr.shape
  refine page_Page_right_call ?_
  unfold page_Page_right
  simp only [PgT.cells, PgT.ok] at k ⊢
  simp only at hr hl
  have hq : Qt w (w.alloc (.cells [int lsn, int kind, int level, int rt, str high, .slice a ents.length cap].toArray 64)) := (Frm.refl w).alloc _
  have kf : ∀ w', Qt w w' → ¬ (0 ≤ lsn ∧ lsn ≤ 281474976710655 ∧ 1 ≤ kind ∧ kind ≤ 255 ∧ 0 ≤ level ∧ level ≤ 255 ∧ 0 ≤ rt ∧ rt ≤ 65535 ∧ high.length ≤ 64) → K (.bool false) w' := by
    intro w' q h
    have := k w' q
    rw [decide_eq_false h] at this
    exact this
  by_cases h1 : 0 ≤ lsn ∧ lsn ≤ 281474976710655
  · by_cases h2 : 1 ≤ kind ∧ kind ≤ 255
    · by_cases h3 : 0 ≤ level ∧ level ≤ 255
      · by_cases h4 : 0 ≤ rt ∧ rt ≤ 65535
        · by_cases h5 : high.length ≤ 64
          · refine run_i s_box ?_
            refine run_i s_field ?_
            refine run_i (s_load (cellAt_l hp_alloc_new rfl)) ?_
            refine within_c ?_
            rw [decide_eq_true h1]
            refine gc_tti ?_
            refine run_i s_field ?_
            refine run_i (s_load (cellAt_l hp_alloc_new rfl)) ?_
            refine within_c ?_
            rw [decide_eq_true h2]
            unfold page_Page_right_g1
            refine pk_ti ?_
            refine gc_tti ?_
            refine run_i s_field ?_
            refine run_i (s_load (cellAt_l hp_alloc_new rfl)) ?_
            refine within_c ?_
            rw [decide_eq_true h3]
            unfold page_Page_right_g2
            refine pk_ti ?_
            refine gc_tti ?_
            refine run_i s_field ?_
            refine run_i (s_load (cellAt_l hp_alloc_new rfl)) ?_
            refine within_c ?_
            rw [decide_eq_true h4]
            unfold page_Page_right_g3
            refine pk_ti ?_
            refine gc_tti ?_
            refine run_i s_field ?_
            refine run_i (s_load (cellAt_l hp_alloc_new rfl)) ?_
            refine run_i s_len_str ?_
            refine run_i (p_leqT (by omega) _) ?_
            unfold page_Page_right_g4
            refine pk_ti ?_
            refine gc_tti ?_
            refine run_i s_field ?_
            refine run_i (s_load (cellAt_l hp_alloc_new rfl)) ?_
            refine slices_ContainsFunc_page_Entry_page_Entry_call ?_
            unfold slices_ContainsFunc_page_Entry_page_Entry
            refine IndexFunc_c (l := ents) (g := Ent.big) (fun e K w k => big_c k) (hr.qt hq) hl (fun w2 r q2 hri => ?_)
            have := k w2 (hq.trans q2)
            rw [decide_eq_true (⟨h1.1, h1.2, h2.1, h2.2, h3.1, h3.2, h4.1, h4.2, h5⟩ : _ ∧ _)] at this
            by_cases hr0 : 0 ≤ r
            · rw [hri.1 hr0] at this
              refine run_i (p_geqT (by omega) _) ?_
              refine lv_i ?_
              refine run_i (p_not _) ?_
              unfold page_Page_right_g5
              refine pk_ti ?_
              refine lv_i ?_
              exact this
            · have hb : ents.any Ent.big = false := by
                cases hh : ents.any Ent.big with
                | false => rfl
                | true => exact absurd (hri.2 hh) hr0
              rw [hb] at this
              refine run_i (p_geqF (by omega) _) ?_
              refine lv_i ?_
              refine run_i (p_not _) ?_
              unfold page_Page_right_g5
              refine pk_ti ?_
              refine lv_i ?_
              exact this
          · refine run_i s_box ?_
            refine run_i s_field ?_
            refine run_i (s_load (cellAt_l hp_alloc_new rfl)) ?_
            refine within_c ?_
            rw [decide_eq_true h1]
            refine gc_tti ?_
            refine run_i s_field ?_
            refine run_i (s_load (cellAt_l hp_alloc_new rfl)) ?_
            refine within_c ?_
            rw [decide_eq_true h2]
            unfold page_Page_right_g1
            refine pk_ti ?_
            refine gc_tti ?_
            refine run_i s_field ?_
            refine run_i (s_load (cellAt_l hp_alloc_new rfl)) ?_
            refine within_c ?_
            rw [decide_eq_true h3]
            unfold page_Page_right_g2
            refine pk_ti ?_
            refine gc_tti ?_
            refine run_i s_field ?_
            refine run_i (s_load (cellAt_l hp_alloc_new rfl)) ?_
            refine within_c ?_
            rw [decide_eq_true h4]
            unfold page_Page_right_g3
            refine pk_ti ?_
            refine gc_tti ?_
            refine run_i s_field ?_
            refine run_i (s_load (cellAt_l hp_alloc_new rfl)) ?_
            refine run_i s_len_str ?_
            refine run_i (p_leqF (by omega) _) ?_
            unfold page_Page_right_g4
            refine pk_ti ?_
            refine gc_fti ?_
            unfold page_Page_right_g5
            refine pk_fi ?_
            refine lv_i ?_
            exact kf _ hq (fun h => h5 h.2.2.2.2.2.2.2.2)
        · refine run_i s_box ?_
          refine run_i s_field ?_
          refine run_i (s_load (cellAt_l hp_alloc_new rfl)) ?_
          refine within_c ?_
          rw [decide_eq_true h1]
          refine gc_tti ?_
          refine run_i s_field ?_
          refine run_i (s_load (cellAt_l hp_alloc_new rfl)) ?_
          refine within_c ?_
          rw [decide_eq_true h2]
          unfold page_Page_right_g1
          refine pk_ti ?_
          refine gc_tti ?_
          refine run_i s_field ?_
          refine run_i (s_load (cellAt_l hp_alloc_new rfl)) ?_
          refine within_c ?_
          rw [decide_eq_true h3]
          unfold page_Page_right_g2
          refine pk_ti ?_
          refine gc_tti ?_
          refine run_i s_field ?_
          refine run_i (s_load (cellAt_l hp_alloc_new rfl)) ?_
          refine within_c ?_
          rw [decide_eq_false h4]
          unfold page_Page_right_g3
          refine pk_ti ?_
          refine gc_fti ?_
          unfold page_Page_right_g4
          refine pk_fi ?_
          refine gc_fti ?_
          unfold page_Page_right_g5
          refine pk_fi ?_
          refine lv_i ?_
          exact kf _ hq (fun h => h4 ⟨h.2.2.2.2.2.2.1, h.2.2.2.2.2.2.2.1⟩)
      · refine run_i s_box ?_
        refine run_i s_field ?_
        refine run_i (s_load (cellAt_l hp_alloc_new rfl)) ?_
        refine within_c ?_
        rw [decide_eq_true h1]
        refine gc_tti ?_
        refine run_i s_field ?_
        refine run_i (s_load (cellAt_l hp_alloc_new rfl)) ?_
        refine within_c ?_
        rw [decide_eq_true h2]
        unfold page_Page_right_g1
        refine pk_ti ?_
        refine gc_tti ?_
        refine run_i s_field ?_
        refine run_i (s_load (cellAt_l hp_alloc_new rfl)) ?_
        refine within_c ?_
        rw [decide_eq_false h3]
        unfold page_Page_right_g2
        refine pk_ti ?_
        refine gc_fti ?_
        unfold page_Page_right_g3
        refine pk_fi ?_
        refine gc_fti ?_
        unfold page_Page_right_g4
        refine pk_fi ?_
        refine gc_fti ?_
        unfold page_Page_right_g5
        refine pk_fi ?_
        refine lv_i ?_
        exact kf _ hq (fun h => h3 ⟨h.2.2.2.2.1, h.2.2.2.2.2.1⟩)
    · refine run_i s_box ?_
      refine run_i s_field ?_
      refine run_i (s_load (cellAt_l hp_alloc_new rfl)) ?_
      refine within_c ?_
      rw [decide_eq_true h1]
      refine gc_tti ?_
      refine run_i s_field ?_
      refine run_i (s_load (cellAt_l hp_alloc_new rfl)) ?_
      refine within_c ?_
      rw [decide_eq_false h2]
      unfold page_Page_right_g1
      refine pk_ti ?_
      refine gc_fti ?_
      unfold page_Page_right_g2
      refine pk_fi ?_
      refine gc_fti ?_
      unfold page_Page_right_g3
      refine pk_fi ?_
      refine gc_fti ?_
      unfold page_Page_right_g4
      refine pk_fi ?_
      refine gc_fti ?_
      unfold page_Page_right_g5
      refine pk_fi ?_
      refine lv_i ?_
      exact kf _ hq (fun h => h2 ⟨h.2.2.1, h.2.2.2.1⟩)
  · refine run_i s_box ?_
    refine run_i s_field ?_
    refine run_i (s_load (cellAt_l hp_alloc_new rfl)) ?_
    refine within_c ?_
    rw [decide_eq_false h1]
    refine gc_fti ?_
    unfold page_Page_right_g1
    refine pk_fi ?_
    refine gc_fti ?_
    unfold page_Page_right_g2
    refine pk_fi ?_
    refine gc_fti ?_
    unfold page_Page_right_g3
    refine pk_fi ?_
    refine gc_fti ?_
    unfold page_Page_right_g4
    refine pk_fi ?_
    refine gc_fti ?_
    unfold page_Page_right_g5
    refine pk_fi ?_
    refine lv_i ?_
    exact kf _ hq (fun h => h1 ⟨h.1, h.2.1⟩)

theorem ssize_snoc (l : List Ent) (e : Ent) : ssize (l ++ [e]) = ssize l + (3 + e.key.length + e.value.length) := by simp [ssize]
theorem ssize_le {l : List Ent} {m : Nat} (h : ∀ e ∈ l, 3 + e.key.length + e.value.length ≤ m) : ssize l ≤ l.length * m := by
  induction l with
  | nil => simp [ssize]
  | cons e l ih =>
    have h1 := h e (by simp)
    have h2 := ih (fun x hx => h x (by simp [hx]))
    have : ssize (e :: l) = (3 + e.key.length + e.value.length) + ssize l := by simp [ssize]
    rw [this, List.length_cons, Nat.add_mul]; omega

set_option maxHeartbeats 1000000 in
theorem Free_c {p : PgT} {ev : Value} (hr : Rd w T.page_Entry 3 ev p.ents.length (ecells p.ents)) (hl : p.ents.length ≤ 1000000000) (hh : p.high.length ≤ 1000000) (he : ∀ e ∈ p.ents, e.key.length ≤ 1000 ∧ e.value.length ≤ 1000)
    (k : ∀ w', Qt w w' → K (int p.free) w') : call Pg F.page_Free [.agg (p.cells ev).toArray] K w := by
  obtain ⟨lsn, kind, level, rt, high, ents⟩ := p
  obtain ⟨a, cap, rfl⟩ := hr.shape
  refine page_Free_call ?_
  unfold page_Free
  simp only [PgT.cells, PgT.free] at k ⊢
  simp only at hr hl hh he
  have hq : Qt w (w.alloc (.cells [int lsn, int kind, int level, int rt, str high, .slice a ents.length cap].toArray 64)) := (Frm.refl w).alloc _
  have hle : ∀ i, ssize (ents.take i) ≤ 2003000000000 := by
    intro i
    have h1 := ssize_le (l := ents.take i) (m := 2003) (fun e hx => by have := he e (List.mem_of_mem_take hx); omega)
    have h2 : (ents.take i).length ≤ 1000000000 := by rw [List.length_take]; omega
    have := Nat.mul_le_mul_right 2003 h2
    omega
  refine run_i s_box ?_
  refine run_i s_field ?_
  refine run_i (s_load (cellAt_l hp_alloc_new rfl)) ?_
  refine run_i s_len_str ?_
  refine run_i (p_subI (by omega) (by omega) _) ?_
  refine run_i s_field ?_
  refine run_i (s_load (cellAt_l hp_alloc_new rfl)) ?_
  refine run_i s_len_sl ?_
  refine Lp_inv (page_Free_l2_mono K) (fun st w' => ∃ i : Nat, st = ([], int (489 - high.length - ssize (ents.take i)), .slice a ents.length cap, int ents.length, int i) ∧ i ≤ ents.length ∧ Qt w w')
    (fun st _ => match st.2.2.2.2 with | .int _ k => (ents.length - k).toNat | _ => 0) ⟨0, by simp [ssize], by omega, hq⟩ ?_
  rintro st w' ⟨i, rfl, hi, q⟩
  have hz := hle i
  unfold page_Free_l2
  simp only
  by_cases hil : i < ents.length
  · have hil' : (i : Int) < ents.length := by omega
    have hei := he _ (List.getElem_mem hil)
    refine run_i (p_lssT (by omega) _) ?_
    refine cn_ti ?_
    refine (hr.qt q).loadA (by decide) hil (ecells_at hil) SliceC.get AggC.get rfl ?_
    unfold Ent.cells
    refine run_i s_alloc ?_
    refine runU_i (s_storeW hp_alloc_new rfl (by simp [Value.oneCell', str]) rfl) ?_
    refine run_i (s_loadW (hp_put_same (lt_of hp_alloc_new)) rfl) ?_
    refine Size_c (e := ents[i]) (by omega) (by omega) (fun w2 q2 => ?_)
    refine run_i (p_subI (by omega) (by omega) _) ?_
    refine run_i (p_addI (by omega) (by omega) _) ?_
    have e1 : ents.take (i + 1) = ents.take i ++ [ents[i]] := by rw [List.take_succ_eq_append_getElem hil]
    refine ⟨⟨i + 1, ?_, by omega, ?_⟩, ?_⟩
    · rw [e1, ssize_snoc]
      exact Prod.ext rfl (Prod.ext (congrArg int (by omega)) (Prod.ext rfl (Prod.ext rfl (congrArg int (by omega)))))
    · refine (((q.alloc _).put_new _ (by first | omega | (simp only [sz_alloc, sz_put, sz_drew]; omega) | (have := hq.size; have := q.size; have := q2.size; first | omega | (simp only [sz_alloc, sz_put, sz_drew] at *; omega)))).trans q2)
    · simp only; omega
  · have hil' : ¬ (i : Int) < ents.length := by omega
    have e1 : ents.take i = ents := List.take_of_length_le (by omega)
    rw [e1]
    refine run_i (p_lssF (by omega) _) ?_
    refine cn_fi ?_
    unfold page_Free_j1
    refine lv_i ?_
    exact k _ q
end Go.Sx
end

section
/- page: Build, Encode. -/
set_option linter.unusedVariables false
set_option linter.unusedSimpArgs false
set_option maxRecDepth 100000
namespace Go.Sx
open Go Go.RowKit
variable {K : Value → World → Prop} {w : World}

def buildT (lsn : Int) (body : Text) : Text := (putT 6 lsn ++ body ++ putT 6 lsn) ++ markT (putT 6 lsn ++ body ++ putT 6 lsn)
theorem Build_c {lsn : Int} {body : Text} (h0 : 0 ≤ lsn) (h1 : lsn ≤ 281474976710655) (hb : body.length = 496) (hg : Glob w) (k : ∀ w', Qt w w' → K (str (buildT lsn body)) w') : call Pg F.page_Build [int lsn, str body] K w := by
  refine page_Build_call ?_
  unfold page_Build
  refine within_c ?_
  rw [decide_eq_true ⟨h0, h1⟩]
  refine run_i (p_not _) ?_
  refine gc_ffi ?_
  refine run_i s_len_str ?_
  refine run_i (p_neqF (by omega) _) ?_
  unfold page_Build_g1
  refine pk_fi ?_
  refine cn_fi ?_
  refine sum_Put_c (size := 6) (by decide) (by decide) h0 (by omega) (fun w1 q1 => ?_)
  have hp := putT_len 6 lsn
  refine run_i (p_cat (by first | omega | (simp only [List.length_append, List.length_take, List.length_drop, List.length_cons, List.length_nil, List.length_replicate, List.length_map, List.length_reverse] at *; omega)) _) ?_
  refine run_i (p_cat (by first | omega | (simp only [List.length_append, List.length_take, List.length_drop, List.length_cons, List.length_nil, List.length_replicate, List.length_map, List.length_reverse] at *; omega)) _) ?_
  refine sum_Seal_c (by simp only [List.length_append]; omega) (hg.qt q1) (fun w2 q2 => ?_)
  refine lv_i ?_
  exact k w2 (q1.trans q2)

def entT (e : Ent) : Text := putT 1 (if e.marked then 1 else 0) ++ putT 1 e.key.length ++ putT 1 e.value.length ++ e.key ++ e.value
def headT (p : PgT) : Text := putT 1 p.kind ++ putT 1 p.level ++ putT 2 p.right ++ putT 1 p.high.length ++ putT 2 p.ents.length ++ p.high
def contT (p : PgT) : Text := headT p ++ p.ents.flatMap entT
def bodyT (p : PgT) : Text := contT p ++ List.replicate (496 - (contT p).length) 0
def encT (p : PgT) : Text := buildT p.lsn (bodyT p)
theorem entT_len (e : Ent) : (entT e).length = 3 + e.key.length + e.value.length := by simp [entT, putT_len]; omega
theorem flat_len (l : List Ent) : (l.flatMap entT).length = ssize l := by
  induction l with
  | nil => rfl
  | cons e l ih => rw [List.flatMap_cons, List.length_append, ih, entT_len]; simp [ssize]
theorem headT_len (p : PgT) : (headT p).length = 7 + p.high.length := by simp [headT, putT_len]; omega
theorem contT_len (p : PgT) : (contT p).length = 7 + p.high.length + ssize p.ents := by rw [contT, List.length_append, headT_len, flat_len]
theorem bodyT_len {p : PgT} (h : 0 ≤ p.free) : (bodyT p).length = 496 := by
  have := contT_len p
  unfold PgT.free at h
  rw [bodyT, List.length_append, List.length_replicate]; omega
theorem ssize_ge (l : List Ent) : l.length * 3 ≤ ssize l := by
  induction l with
  | nil => simp [ssize]
  | cons e l ih =>
    have : ssize (e :: l) = (3 + e.key.length + e.value.length) + ssize l := by simp [ssize]
    rw [this, List.length_cons]; omega

theorem Bld.below {B b : Nat} {l : Text} {w' : World} (h : Bld B b l w) (hk : ∀ k o, w.heap[k]? = some o → B ≤ k → w'.heap[k]? = some o) : Bld B b l w' := by
  obtain ⟨p, v, hp, hbB, hb, hrow, hne⟩ := h.parts
  have hrow' : w'.ownsRow B T.u8 1 v (Lib.byteCells l).length (Lib.byteCells l) := by
    obtain ⟨h0, h | ⟨g, cap, cur, rfl, h1, h2, h3, h4, h5, h6⟩⟩ := hrow
    · exact ⟨h0, .inl h⟩
    · exact ⟨h0, .inr ⟨g, cap, cur, rfl, h1, hk _ _ h2 h1, h3, h4, h5, h6⟩⟩
  rcases hp with rfl | rfl
  · exact .inl ⟨hbB, v, hk _ _ hb hbB, hrow', hne⟩
  · exact .inr ⟨hbB, v, hk _ _ hb hbB, hrow', hne⟩
theorem Bld.qt {B b : Nat} {l : Text} {w' : World} (h : Bld B b l w) (q : Qt w w') : Bld B b l w' := h.below (fun k o hk _ => q.all hk)

/-- a quiet run, then one that keeps what is below -/
theorem Frm.then_below {w w1 w2 : World} {B : Nat} (q : Qt w w1) (b : Below B w1 w2) (hB : w.heap.size ≤ B) : Qt w w2 :=
  .of_below ((Frm.below q (fun _ _ _ h => h) (Nat.le_refl _)).trans (b.mono hB))

set_option maxHeartbeats 2000000 in
theorem Encode_step {X1 : List Deferred × Value × Value × Value × Value × Value → World → Prop} {x1 x42 x43 : Value} {B b eb : Nat} {l : Text} {e : Ent} {i : Nat} (hE : w.heap[eb]? = some (.cells [str e.key, str e.value, .bool e.marked].toArray T.page_Entry (0, 0)))
    (h1 : e.key.length ≤ 64) (h2 : e.value.length ≤ 100) (hl : l.length ≤ 1000000) (hi : i ≤ 1000000) (hb : Bld B b l w) (hB : B ≤ w.heap.size)
    (k : ∀ w', Below B w w' → Bld B b (l ++ entT e) w' → X1 ([], x1, .pointer (some ⟨b, 0, none⟩), x42, x43, int ((i + 1 : Nat) : Int)) w') :
    page_Encode_j3 K X1 [] x1 (.pointer (some ⟨b, 0, none⟩)) (.pointer (some ⟨eb, 0, none⟩)) (int (if e.marked then 1 else 0)) x42 x43 (int i) w := by
  unfold page_Encode_j3
  have qd : Qt w w.drew := (Frm.refl w).drew
  refine ⟨fun w' => w'.heap[eb]? = some (.cells [str e.key, str e.value, .bool e.marked].toArray T.page_Entry (0, 0)), hE, ?_⟩
  have hm : (0 : Int) ≤ (if e.marked then 1 else 0) ∧ (if e.marked then (1 : Int) else 0) < 256 := by split <;> omega
  refine sum_Put_c (size := 1) (by decide) (by decide) (by omega) (by omega) (fun w1 q1 => ?_)
  have n1 := putT_len 1 (if e.marked then 1 else 0)
  have n2 := putT_len 1 e.key.length
  have n3 := putT_len 1 e.value.length
  have hE1 := q1.all (qd.all hE)
  refine ⟨hE1, ?_⟩
  refine rnT_i (fun _ => s_field) ?_
  refine rn_i (fun w' hS => s_load (cellAt_l hS rfl)) ?_
  refine rnT_i (fun _ => s_len_str) ?_
  refine sum_Put_c (size := 1) (by decide) (by decide) (by omega) (by omega) (fun w2 q2 => ?_)
  refine ⟨(q2.all hE1), ?_⟩
  refine rnT_i (fun _ => (p_cat (by first | omega | (simp only [List.length_append, List.length_take, List.length_drop, List.length_cons, List.length_nil, List.length_replicate, List.length_map, List.length_reverse] at *; omega)) _)) ?_
  refine rnT_i (fun _ => s_field) ?_
  refine rn_i (fun w' hS => s_load (cellAt_l hS rfl)) ?_
  refine rnT_i (fun _ => s_len_str) ?_
  refine sum_Put_c (size := 1) (by decide) (by decide) (by omega) (by omega) (fun w3 q3 => ?_)
  refine ⟨(q3.all (q2.all hE1)), ?_⟩
  refine rnT_i (fun _ => (p_cat (by first | omega | (simp only [List.length_append, List.length_take, List.length_drop, List.length_cons, List.length_nil, List.length_replicate, List.length_map, List.length_reverse] at *; omega)) _)) ?_
  refine rnT_i (fun _ => s_field) ?_
  refine rn_i (fun w' hS => s_load (cellAt_l hS rfl)) ?_
  refine rnT_i (fun _ => (p_cat (by first | omega | (simp only [List.length_append, List.length_take, List.length_drop, List.length_cons, List.length_nil, List.length_replicate, List.length_map, List.length_reverse] at *; omega)) _)) ?_
  refine rnT_i (fun _ => s_field) ?_
  refine rn_i (fun w' hS => s_load (cellAt_l hS rfl)) ?_
  refine rnT_i (fun _ => (p_cat (by first | omega | (simp only [List.length_append, List.length_take, List.length_drop, List.length_cons, List.length_nil, List.length_replicate, List.length_map, List.length_reverse] at *; omega)) _)) ?_
  have q : Qt w w3 := qd.trans (q1.trans (q2.trans q3))
  have hs := q.size
  refine WriteString_c (hb.qt q) (by omega) (by simp only [List.length_append, putT_len]; omega) (fun w4 hB4 b4 => ?_)
  refine run_i (p_addI (by omega) (by omega) _) ?_
  exact k w4 ((Frm.below q (fun _ _ _ h => h) hB).trans b4) hB4

set_option maxHeartbeats 2000000 in
theorem Encode_loop {p : PgT} {a : Option Addr} {cap : Nat} {P b B : Nat} (hr : Rd w T.page_Entry 3 (.slice a p.ents.length cap) p.ents.length (ecells p.ents)) (hBw : w.heap.size ≤ B) (hP : w.heap.size ≤ P) (hPB : P < B) (hl : p.ents.length ≤ 1000) (hee : ∀ e ∈ p.ents, e.key.length ≤ 64 ∧ e.value.length ≤ 100) (hhi : p.high.length ≤ 64)
    {w1 : World} (q1 : Qt w w1) (hB1 : B ≤ w1.heap.size) (hb : Bld B b (headT p) w1) (hp : w1.heap[P]? = some (.cells (p.cells (.slice a p.ents.length cap)).toArray T.page_Page (0, 0)))
    (k : ∀ w', Qt w w' → B ≤ w'.heap.size → Bld B b (contT p) w' → w'.heap[P]? = some (.cells (p.cells (.slice a p.ents.length cap)).toArray T.page_Page (0, 0)) → page_Encode_j1 K [] (.pointer (some ⟨P, 0, none⟩)) (.pointer (some ⟨b, 0, none⟩)) w') :
    Lp (page_Encode_l2 K) ([], .pointer (some ⟨P, 0, none⟩), .pointer (some ⟨b, 0, none⟩), .slice a p.ents.length cap, int p.ents.length, (.int .i64 0)) w1 := by
  refine Lp_inv (page_Encode_l2_mono K) (fun st w' => ∃ i : Nat, st = ([], .pointer (some ⟨P, 0, none⟩), .pointer (some ⟨b, 0, none⟩), .slice a p.ents.length cap, int p.ents.length, int i) ∧ i ≤ p.ents.length ∧ Qt w w' ∧ B ≤ w'.heap.size ∧ Bld B b (headT p ++ (p.ents.take i).flatMap entT) w' ∧ w'.heap[P]? = some (.cells (p.cells (.slice a p.ents.length cap)).toArray T.page_Page (0, 0)))
    (fun st _ => match st.2.2.2.2.2 with | .int _ k => (p.ents.length - k).toNat | _ => 0) ⟨0, rfl, by omega, q1, hB1, by simpa using hb, hp⟩ ?_
  rintro st w2 ⟨i, rfl, hi, q2, hB2, hb2, hp2⟩
  unfold page_Encode_l2
  simp only
  by_cases hil : i < p.ents.length
  · have hil' : (i : Int) < p.ents.length := by omega
    have hei := hee _ (List.getElem_mem hil)
    refine run_i (p_lssT (by omega) _) ?_
    refine cn_ti ?_
    refine (hr.qt q2).loadA (by decide) hil (ecells_at hil) SliceC.get AggC.get rfl ?_
    obtain ⟨e, he⟩ : ∃ e, e = p.ents[i] := ⟨_, rfl⟩
    rw [← he] at hei ⊢
    unfold Ent.cells
    refine run_i s_alloc ?_
    refine runU_i (s_storeW hp_alloc_new rfl (by simp [Value.oneCell', str]) rfl) ?_
    refine run_i s_field ?_
    refine run_i (s_load (cellAt_l (hp_put_same (lt_of hp_alloc_new)) rfl)) ?_
    obtain ⟨w3, hw3⟩ : ∃ w3, w3 = (w2.alloc (.cells [str [], str [], .bool false].toArray 61)).putObj w2.heap.size (.cells [str e.key, str e.value, .bool e.marked].toArray 61 (0, 0)) := ⟨_, rfl⟩
    rw [← hw3]
    have q3 : Qt w2 w3 := by rw [hw3]; exact ((Frm.refl w2).alloc _).put_new _ (Nat.le_refl _)
    have hE : w3.heap[w2.heap.size]? = some (.cells [str e.key, str e.value, .bool e.marked].toArray T.page_Entry (0, 0)) := by rw [hw3]; exact hp_put_same (by rw [sz_alloc]; omega)
    have hs3 := q3.size
    have hbl : (headT p ++ (p.ents.take i).flatMap entT).length ≤ 1000000 := by
      have h1 := ssize_le (l := p.ents.take i) (m := 167) (fun e hx => by have := hee e (List.mem_of_mem_take hx); omega)
      rw [List.length_append, flat_len, headT_len]
      have h2 : (p.ents.take i).length ≤ 1000 := by rw [List.length_take]; omega
      have := Nat.mul_le_mul_right 167 h2
      omega
    have go : ∀ {X1 : List Deferred × Value × Value × Value × Value × Value → World → Prop}, (∀ w', Qt w w' → B ≤ w'.heap.size → Bld B b (headT p ++ (p.ents.take (i + 1)).flatMap entT) w' → w'.heap[P]? = some (.cells (p.cells (.slice a p.ents.length cap)).toArray T.page_Page (0, 0)) → X1 ([], .pointer (some ⟨P, 0, none⟩), .pointer (some ⟨b, 0, none⟩), .slice a p.ents.length cap, int p.ents.length, int ((i + 1 : Nat) : Int)) w') →
        page_Encode_j3 K X1 [] (.pointer (some ⟨P, 0, none⟩)) (.pointer (some ⟨b, 0, none⟩)) (.pointer (some ⟨w2.heap.size, 0, none⟩)) (int (if e.marked then 1 else 0)) (.slice a p.ents.length cap) (int p.ents.length) (int i) w3 := by
      intro X1 hk
      refine Encode_step hE hei.1 hei.2 hbl (by omega) (hb2.qt q3) (by omega) (fun w4 b4 hB4 => ?_)
      have hs4 := b4.size
      refine hk w4 (Frm.then_below (q2.trans q3) b4 hBw) (by omega) ?_ ?_
      · rw [List.take_succ_eq_append_getElem hil, List.flatMap_append, ← he]
        simpa using hB4
      · rw [b4.block _ hPB]; exact q3.all hp2
    have fin : ∀ w', Qt w w' → B ≤ w'.heap.size → Bld B b (headT p ++ (p.ents.take (i + 1)).flatMap entT) w' → w'.heap[P]? = some (.cells (p.cells (.slice a p.ents.length cap)).toArray T.page_Page (0, 0)) →
        ((∃ j : Nat, (([], .pointer (some ⟨P, 0, none⟩), .pointer (some ⟨b, 0, none⟩), .slice a p.ents.length cap, int p.ents.length, int ((i + 1 : Nat) : Int)) : List Deferred × Value × Value × Value × Value × Value) = ([], .pointer (some ⟨P, 0, none⟩), .pointer (some ⟨b, 0, none⟩), .slice a p.ents.length cap, int p.ents.length, int j) ∧ j ≤ p.ents.length ∧ Qt w w' ∧ B ≤ w'.heap.size ∧ Bld B b (headT p ++ (p.ents.take j).flatMap entT) w' ∧ w'.heap[P]? = some (.cells (p.cells (.slice a p.ents.length cap)).toArray T.page_Page (0, 0))) ∧
          (p.ents.length - ((i + 1 : Nat) : Int)).toNat < (p.ents.length - (i : Int)).toNat) := by
      intro w' h1 h2 h3 h4
      exact ⟨⟨i + 1, rfl, by omega, h1, h2, h3, h4⟩, by omega⟩
    cases hm : e.marked with
    | true =>
      rw [hm] at go
      simp only [if_true] at go
      refine cn_ti ?_
      exact go (fun w' h1 h2 h3 h4 => fin w' h1 h2 h3 h4)
    | false =>
      rw [hm] at go
      simp only [if_false, Bool.false_eq_true] at go
      refine cn_fi ?_
      exact go (fun w' h1 h2 h3 h4 => fin w' h1 h2 h3 h4)
  · have hil' : ¬ (i : Int) < p.ents.length := by omega
    have e1 : p.ents.take i = p.ents := List.take_of_length_le (by omega)
    rw [e1] at hb2
    refine run_i (p_lssF (by omega) _) ?_
    refine cn_fi ?_
    exact k w2 q2 hB2 hb2 hp2

set_option maxHeartbeats 2000000 in
theorem Encode_c {p : PgT} {ev : Value} (hr : Rd w T.page_Entry 3 ev p.ents.length (ecells p.ents)) (hl : p.ents.length ≤ 1000000000) (hg : Glob w)
    (k : ∀ w', Qt w w' → K (if p.ok then (if p.free < 0 then .tuple #[str [], int 8] else .tuple #[str (encT p), int 0]) else .tuple #[str [], int 1]) w') : call Pg F.page_Encode [.agg (p.cells ev).toArray] K w := by
  have hrs := hr.shape
  refine page_Encode_call ?_
  unfold page_Encode
  obtain ⟨w0, hw0⟩ : ∃ w0, w0 = w.alloc (.cells (p.cells ev).toArray 64) := ⟨_, rfl⟩
  have q0 : Qt w w0 := by rw [hw0]; exact (Frm.refl w).alloc _
  have hp0 : w0.heap[w.heap.size]? = some (.cells (p.cells ev).toArray T.page_Page (0, 0)) := by rw [hw0]; exact hp_alloc_new
  refine run_i (s_box (l := p.cells ev)) ?_
  rw [← hw0]
  have hld : ∀ w', w'.heap[w.heap.size]? = some (.cells (p.cells ev).toArray T.page_Page (0, 0)) → (Instr.loadAt 64 (.pointer (some ⟨w.heap.size, 0, none⟩))).run Pg w' = .ok (.agg (p.cells ev).toArray) w' := fun w' h => s_loadW h rfl
  refine run_i (hld _ hp0) ?_
  refine right_c (hr.qt q0) hl (fun w1 q1 => ?_)
  cases hok : p.ok with
  | false =>
    rw [hok] at k
    refine run_i (p_not _) ?_
    refine cn_ti ?_
    refine lv_i ?_
    exact k w1 (q0.trans q1)
  | true =>
    rw [hok] at k
    simp only [if_true] at k
    have hok' := hok
    unfold PgT.ok at hok'
    simp only [Bool.and_eq_true, decide_eq_true_eq, Bool.not_eq_true'] at hok'
    obtain ⟨⟨l0, l1, k0, k1, v0, v1, r0, r1, hh⟩, hbig⟩ := hok'
    have hee : ∀ e ∈ p.ents, e.key.length ≤ 64 ∧ e.value.length ≤ 100 := by
      intro e he
      have := List.any_eq_false.1 hbig e he
      unfold Ent.big at this
      simp at this
      omega
    refine run_i (p_not _) ?_
    refine cn_fi ?_
    refine run_i (s_loadW (q1.all hp0) rfl) ?_
    refine Free_c (hr.qt (q0.trans q1)) hl (by omega) (fun e he => by have := hee e he; omega) (fun w2 q2 => ?_)
    by_cases hf : p.free < 0
    · rw [if_pos hf] at k
      refine run_i (p_lssT (by omega) _) ?_
      refine cn_ti ?_
      refine lv_i ?_
      exact k w2 (q0.trans (q1.trans q2))
    · rw [if_neg hf] at k
      have hcl := contT_len p
      have hfr : p.free = 489 - p.high.length - ssize p.ents := rfl
      have hge := ssize_ge p.ents
      have hp2 := q2.all (q1.all hp0)
      have q02 := q0.trans (q1.trans q2)
      refine run_i (p_lssF (by omega) _) ?_
      refine cn_fi ?_
      refine run_i s_alloc ?_
      obtain ⟨w3, hw3⟩ : ∃ w3, w3 = w2.alloc (.cells [.pointer none, .slice none 0 0].toArray 105) := ⟨_, rfl⟩
      rw [← hw3]
      have q3 : Qt w2 w3 := by rw [hw3]; exact (Frm.refl w2).alloc _
      have hb3 : w3.heap[w2.heap.size]? = some (.cells [.pointer none, .slice none 0 0].toArray T.strings_Builder (0, 0)) := by rw [hw3]; exact hp_alloc_new
      obtain ⟨b, hb⟩ : ∃ b, b = w2.heap.size := ⟨_, rfl⟩
      rw [← hb] at hb3 ⊢
      have hs2 := q02.size
      have hs3 := q3.size
      have hB : Bld w2.heap.size b [] w3 := .new hb3 (by omega)
      have hp3 := q3.all hp2
      unfold PgT.cells at hp3
      refine ⟨fun w' => w'.heap[w.heap.size]? = some (.cells [int p.lsn, int p.kind, int p.level, int p.right, str p.high, ev].toArray T.page_Page (0, 0)), hp3, ?_⟩
      have hlp := ssize_ge p.ents
      refine rnT_i (fun _ => s_field) ?_
      refine rnR_i (s_load (cellAt_l (drew_at hp3) rfl)) ?_
      refine sum_Put_c (size := 1) (by decide) (by decide) (by omega) (by omega) (fun w4 q4 => ?_)
      refine ⟨(q4.all (drew_at hp3)), ?_⟩
      refine rnT_i (fun _ => s_field) ?_
      refine rn_i (fun w' hS => s_load (cellAt_l hS rfl)) ?_
      refine sum_Put_c (size := 1) (by decide) (by decide) (by omega) (by omega) (fun w5 q5 => ?_)
      have n1 := putT_len 1 p.kind
      have n2 := putT_len 1 p.level
      have n3 := putT_len 2 p.right
      have n4 := putT_len 1 p.high.length
      have n5 := putT_len 2 p.ents.length
      refine ⟨(q5.all (q4.all (drew_at hp3))), ?_⟩
      refine rnT_i (fun _ => (p_cat (by first | omega | (simp only [List.length_append, List.length_take, List.length_drop, List.length_cons, List.length_nil, List.length_replicate, List.length_map, List.length_reverse] at *; omega)) _)) ?_
      refine rnT_i (fun _ => s_field) ?_
      refine rn_i (fun w' hS => s_load (cellAt_l hS rfl)) ?_
      refine sum_Put_c (size := 2) (by decide) (by decide) (by omega) (by omega) (fun w6 q6 => ?_)
      refine ⟨(q6.all (q5.all (q4.all (drew_at hp3)))), ?_⟩
      refine rnT_i (fun _ => (p_cat (by first | omega | (simp only [List.length_append, List.length_take, List.length_drop, List.length_cons, List.length_nil, List.length_replicate, List.length_map, List.length_reverse] at *; omega)) _)) ?_
      refine rnT_i (fun _ => s_field) ?_
      refine rn_i (fun w' hS => s_load (cellAt_l hS rfl)) ?_
      refine rnT_i (fun _ => s_len_str) ?_
      refine sum_Put_c (size := 1) (by decide) (by decide) (by omega) (by omega) (fun w7 q7 => ?_)
      refine ⟨(q7.all (q6.all (q5.all (q4.all (drew_at hp3))))), ?_⟩
      refine rnT_i (fun _ => (p_cat (by first | omega | (simp only [List.length_append, List.length_take, List.length_drop, List.length_cons, List.length_nil, List.length_replicate, List.length_map, List.length_reverse] at *; omega)) _)) ?_
      refine rnT_i (fun _ => s_field) ?_
      refine rn_i (fun w' hS => s_load (cellAt_l hS rfl)) ?_
      obtain ⟨a, cap, rfl⟩ := hrs
      refine rnT_i (fun _ => s_len_sl) ?_
      refine sum_Put_c (size := 2) (by decide) (by decide) (by omega) (by omega) (fun w8 q8 => ?_)
      refine ⟨(q8.all (q7.all (q6.all (q5.all (q4.all (drew_at hp3)))))), ?_⟩
      refine rnT_i (fun _ => (p_cat (by first | omega | (simp only [List.length_append, List.length_take, List.length_drop, List.length_cons, List.length_nil, List.length_replicate, List.length_map, List.length_reverse] at *; omega)) _)) ?_
      refine rnT_i (fun _ => s_field) ?_
      refine rn_i (fun w' hS => s_load (cellAt_l hS rfl)) ?_
      refine rnT_i (fun _ => (p_cat (by first | omega | (simp only [List.length_append, List.length_take, List.length_drop, List.length_cons, List.length_nil, List.length_replicate, List.length_map, List.length_reverse] at *; omega)) _)) ?_
      have q48 : Qt w3 w8 := ((Frm.refl w3).drew).trans (q4.trans (q5.trans (q6.trans (q7.trans q8))))
      have hs8 := q48.size
      refine WriteString_c (hB.qt q48) (by omega) (by simp only [List.length_append, List.length_nil, putT_len]; omega) (fun w9 hB9 b9 => ?_)
      have q9 : Qt w w9 := Frm.then_below (q02.trans (q3.trans q48)) b9 (by omega)
      have hs9 := b9.size
      have hp9 : w9.heap[w.heap.size]? = some (.cells (p.cells (.slice a p.ents.length cap)).toArray T.page_Page (0, 0)) := by
        rw [b9.block _ (by rw [hw0] at q1; have := q1.size; have := q2.size; rw [sz_alloc] at *; omega)]
        exact q48.all hp3
      have hP2 : w.heap.size < w2.heap.size := by rw [hw0] at q1; have := q1.size; have := q2.size; rw [sz_alloc] at *; omega
      have hp9' := hp9
      unfold PgT.cells at hp9
      refine run_i s_field ?_
      refine run_i (s_load (cellAt_l hp9 rfl)) ?_
      refine run_i s_len_sl ?_
      refine Encode_loop (B := w2.heap.size) hr (by omega) (Nat.le_refl _) hP2 (by omega) hee hh q9 (by omega) hB9 hp9' (fun w10 q10 hs10 hB10 hp10 => ?_)
      unfold page_Encode_j1
      refine BLen_c hB10 ?_
      refine run_i (p_subI (by omega) (by omega) _) ?_
      have e10 : (496 : Int) - (contT p).length = ((496 - (contT p).length : Nat) : Int) := by omega
      rw [e10]
      refine noughts_c (by omega) (fun w11 q11 => ?_)
      have hs11 := q11.size
      refine WriteString_c (hB10.qt q11) (by omega) (by rw [List.length_replicate]; omega) (fun w12 hB12 b12 => ?_)
      have q12 : Qt w w12 := Frm.then_below (q10.trans q11) b12 (by omega)
      have hp12 : w12.heap[w.heap.size]? = some (.cells (p.cells (.slice a p.ents.length cap)).toArray T.page_Page (0, 0)) := by
        rw [b12.block _ hP2]
        exact q11.all hp10
      have hs12 := b12.size
      unfold PgT.cells at hp12
      refine ⟨fun w' => w'.heap[w.heap.size]? = some (.cells [int p.lsn, int p.kind, int p.level, int p.right, str p.high, .slice a p.ents.length cap].toArray T.page_Page (0, 0)), by rw [World.drew]; exact hp12, ?_⟩
      refine rnT_i (fun _ => s_field) ?_
      refine rn_i (fun w' hS => s_load (cellAt_l hS rfl)) ?_
      have q12d : Qt w12 w12.drew := (Frm.refl w12).drew
      refine String_c (hB12.qt q12d) (by rw [sz_drew]; omega) (fun w13 b13 => ?_)
      have q13 : Qt w w13 := Frm.then_below (q12.trans q12d) b13 (by omega)
      have hp13 : w13.heap[w.heap.size]? = some (.cells [int p.lsn, int p.kind, int p.level, int p.right, str p.high, .slice a p.ents.length cap].toArray T.page_Page (0, 0)) := by
        rw [b13.block _ hP2]
        exact hp12
      refine ⟨hp13, ?_⟩
      have hbl := bodyT_len (p := p) (by omega)
      refine Build_c l0 l1 hbl (hg.qt q13) (fun w14 q14 => ?_)
      refine lv_i ?_
      exact k w14 (q13.trans q14)
end Go.Sx
end

section
/- Statements of layer 10: PoolKeeps. -/
set_option linter.unusedVariables false
set_option linter.unusedSimpArgs false
set_option maxRecDepth 100000
namespace Go.Sx
open Go Go.RowKit
variable {K : Value → World → Prop} {w : World}

/-- texts that page.Build makes are whole. -/
theorem build_whole {lsn : Int} {body : Text} (hb : body.length = 496) : WholeT (buildT lsn body) := by
  have hp := putT_len 6 lsn
  have hm : ∀ s : Text, (markT s).length = 4 := fun s => rfl
  have hl : (putT 6 lsn ++ body ++ putT 6 lsn).length = 508 := by simp only [List.length_append]; omega
  have h508 : (buildT lsn body).take 508 = putT 6 lsn ++ body ++ putT 6 lsn := by
    unfold buildT; rw [← hl, List.take_left]
  refine ⟨by unfold buildT; rw [List.length_append, hl, hm], .inr ⟨?_, ?_⟩⟩
  · rw [h508]
    unfold buildT
    rw [← hl, List.drop_left]
  · rw [h508]
    have e1 : (buildT lsn body).take 6 = putT 6 lsn := by
      have : (buildT lsn body).take 6 = ((buildT lsn body).take 508).take 6 := by rw [List.take_take]; rfl
      rw [this, h508, List.append_assoc, List.take_append_of_le_length (by omega)]
      exact List.take_of_length_le (by omega)
    rw [e1]
    have e2 : (putT 6 lsn ++ body).length = 502 := by rw [List.length_append]; omega
    rw [← e2, List.drop_left]
theorem enc_whole {p : PgT} (h : 0 ≤ p.free) : WholeT (encT p) := build_whole (bodyT_len h)

/-! ### the area of the statements works -/
def G10 (L : LogE) (av dv : Value) (hp : ∃ ab, av = .pointer (some ab)) (s : (env10 L av dv hp).σ) (D : Int → Text) : Prop :=
  Hale s.1 ∧ s.1.size = 40 ∧ ∀ n, 0 ≤ n → n < 8 → pageOf area10 s.1.read n = D n
theorem sound10 {f : FuncId} (h : ∀ x (K : Value → World → Prop) w, K (int 0) w → call Pg f [x] K w) (av dv : Value) (hp : ∃ ab, av = .pointer (some ab)) : Sound (env10 (okLog f h) av dv hp) (G10 (okLog f h) av dv hp) := by
  refine ⟨fun {s D n} hg h0 h1 => ?_, fun {s D l} hg hx => ?_, fun {s D n} hg => ⟨rfl, hg⟩⟩
  · show s.1.two' (area10.from_ + 2 * n) = (D n, 0)
    unfold Dev.two'
    rw [hg.1.off, ← hg.2.2 n h0 h1]
    rfl
  · obtain ⟨b1, b2, b3, b4⟩ := write_hale area10_ok hg.1 hg.2.1 (l := l) (fun x h => ⟨(hx x h).1, (hx x h).2.1, (hx x h).2.2.1⟩)
    refine ⟨b1, _, ⟨b2, b3, fun n h0 h1 => rfl⟩, fun n h0 h1 => ?_⟩
    show pageOf area10 _ n = _
    refine (b4 n h0 h1).trans (fold_upd_congr _ _ _ n (hg.2.2 n h0 h1))
theorem g10_new {L : LogE} {av dv : Value} {hp : ∃ ab, av = .pointer (some ab)} {t : L.τ} : G10 L av dv hp (dev0 40, t) (fun _ => Z512) := by
  refine ⟨⟨rfl, rfl⟩, rfl, fun n h0 h1 => ?_⟩
  simp [pageOf, Dev.read, dev0, Z512]

theorem okK (x : Value) (K : Value → World → Prop) (w : World) (h : K (int 0) w) : call Pg F.concordancelaw10_PoolKeeps_c1 [x] K w := by
  refine concordancelaw10_PoolKeeps_c1_call ?_
  unfold concordancelaw10_PoolKeeps_c1
  refine lv_i ?_
  exact h

/-- acts that come in: two numbers, a text -/
structure Act10 where
  what : Int
  page : Int
  text : Text
def Act10.cells (a : Act10) : List Value := [int a.what, int a.page, str a.text]
def acells (l : List Act10) : List Value := l.flatMap Act10.cells
theorem acells_len (l : List Act10) : (acells l).length = l.length * 3 := by
  induction l with
  | nil => rfl
  | cons e l ih => simp only [acells, List.flatMap_cons, List.length_append] at ih ⊢; rw [ih]; simp [Act10.cells]; omega
theorem acells_at {l : List Act10} {i : Nat} (hi : i < l.length) : (acells l)[i * 3]? = some (int l[i].what) ∧ (acells l)[i * 3 + 1]? = some (int l[i].page) ∧ (acells l)[i * 3 + 2]? = some (str l[i].text) := by
  induction l generalizing i with
  | nil => simp at hi
  | cons e l ih =>
    cases i with
    | zero => simp [acells, Act10.cells]
    | succ i =>
      have := ih (i := i) (by simpa using hi)
      have e1 : (i + 1) * 3 = i * 3 + 3 := by omega
      have e2 : ∀ k, (acells (e :: l))[(i + 1) * 3 + k]? = (acells l)[i * 3 + k]? := by
        intro k
        have : acells (e :: l) = e.cells ++ acells l := by simp [acells]
        rw [this, List.getElem?_append_right (by simp [Act10.cells]; omega)]
        congr 1
        simp [Act10.cells]; omega
      have e0 := e2 0
      simp only [Nat.add_zero] at e0
      rw [e0, e2 1, e2 2]
      simpa using this

section
variable {lv : Value} {l : List Act10} {i : Nat} {Kp : Value → World → Prop}
theorem act_at (h : Ar w 3 lv l.length (acells l)) (hi : i < l.length) : ∃ g o cap, lv = .slice (some ⟨g, o, none⟩) l.length cap ∧ cellAt (w.heap[g]?) (o + i * 3) = some (int l[i].what) ∧ cellAt (w.heap[g]?) (o + i * 3 + 1) = some (int l[i].page) ∧ cellAt (w.heap[g]?) (o + i * 3 + 2) = some (str l[i].text) := by
  obtain ⟨g, o, cap, rfl, hx⟩ := h.at_ (by decide) hi
  obtain ⟨a1, a2, a3⟩ := acells_at hi
  refine ⟨g, o, cap, rfl, ?_, ?_, ?_⟩
  · have := hx 0 (by decide); simp only [Nat.add_zero] at this; rw [this, a1]
  · rw [hx 1 (by decide), a2]
  · rw [hx 2 (by decide), a3]
theorem act_page (h : Ar w 3 lv l.length (acells l)) (hi : i < l.length) (k : Kp (int l[i].page) w) : run Pg (Instr.indexAt 45 lv (int i)) (fun p w => run Pg (Instr.fieldAt 55 p 1) (fun q w => run Pg (Instr.loadAt 3 q) Kp w) w) w := by
  obtain ⟨g, o, cap, rfl, _, h2, _⟩ := act_at h hi
  refine run_i (s_index (by omega) (by omega)) (run_i s_field (run_i (s_load ?_) k))
  rw [Int.toNat_natCast]; exact h2
theorem act_what (h : Ar w 3 lv l.length (acells l)) (hi : i < l.length) (k : Kp (int l[i].what) w) : run Pg (Instr.indexAt 45 lv (int i)) (fun p w => run Pg (Instr.fieldAt 55 p 0) (fun q w => run Pg (Instr.loadAt 3 q) Kp w) w) w := by
  obtain ⟨g, o, cap, rfl, h1, _, _⟩ := act_at h hi
  refine run_i (s_index (by omega) (by omega)) (run_i s_field (run_i (s_load ?_) k))
  rw [Int.toNat_natCast]; exact h1
end

/-- A row of eight texts: one is loaded, one is stored. -/
theorem row_load {v : Value} {t : List Text} {n : Nat} (h : Own w T.string 1 v t.length (t.map str)) (hn : n < t.length) {m : Int} (hm : m = n) {Kp : Value → World → Prop} (k : Kp (str t[n]) w) :
    run Pg (Instr.indexAt 47 v (int m)) (fun p w => run Pg (Instr.loadAt 9 p) Kp w) w :=
  (Rd.of_own h).load hn (u := str t[n]) (by simp [hn]) SliceC.get PlainC.get hm k
theorem row_store {v : Value} {t : List Text} {n : Nat} {x : Text} (h : Own w T.string 1 v t.length (t.map str)) (hn : n < t.length) {m : Int} (hm : m = n) {Kp : World → Prop}
    (k : ∀ w', Own w' T.string 1 v (t.set n x).length ((t.set n x).map str) → Frm (fun k _ => v.ownBlock = some k) w w' → Kp w') :
    run Pg (Instr.indexAt 47 v (int m)) (fun p w => runU Pg (Instr.storeAt 9 p (str x)) Kp w) w := by
  subst hm
  obtain ⟨h0, ⟨_, e⟩ | ⟨g, cap, rest, rfl, hg, h3, h4, h5⟩⟩ := h
  · omega
  · refine run_i (s_index (by omega) (by omega)) ?_
    refine runU_i (s_store hg rfl (by rw [List.length_append, List.length_map]; simp; omega)) ?_
    refine k _ ⟨by simp, .inr ⟨g, cap, rest, by simp, ?_, by simpa using h3, h4, by simpa using h5⟩⟩ ((Frm.refl w).put_may _ (fun _ _ => rfl))
    rw [hp_put_same (lt_of hg)]
    simp [List.set_append, hn, List.map_set]
end Go.Sx
end

section
/- Statements of layer 10: PoolKeeps, its rounds. -/
set_option linter.unusedVariables false
set_option linter.unusedSimpArgs false
set_option maxRecDepth 100000
namespace Go.Sx
open Go Go.RowKit
variable {K : Value → World → Prop} {w : World}

/-- Between rounds. -/
structure KI (W : World) (e : PEnv) (G : e.σ → (Int → Text) → Prop) (fr : Int) (pv vN : Value) (E : Cov) (s : e.σ) (p : PS) (D last : Int → Text) (tl : List Text) (w : World) : Prop where
  sys : Sys e w pv E s p
  kp : KP e G fr s p D last
  row : Own w T.string 1 vN tl.length (tl.map str)
  len : tl.length = 8
  val : ∀ n : Nat, n < 8 → tl[n]? = some (last n)
  apart : ∀ g, vN.ownBlock = some g → ¬ E g
  newR : ∀ g, vN.ownBlock = some g → W.heap.size ≤ g
  newE : ∀ k, E k → W.heap.size ≤ k
  q : Qt W w
  pos : 0 < W.heap.size

variable {W : World} {e : PEnv} {G : e.σ → (Int → Text) → Prop} {fr : Int} {pv vN : Value} {E : Cov} {s : e.σ} {p : PS} {D last : Int → Text} {tl : List Text}

/-- an act of the pool -/
theorem KI.act {s' : e.σ} {p' : PS} {D' : Int → Text} {w' : World} {E' : Cov} (h : KI W e G fr pv vN E s p D last tl w) (hS : Sys e w' pv E' s' p') (m : Mv w E w' E') (kp : KP e G fr s' p' D' last) : KI W e G fr pv vN E' s' p' D' last tl w' :=
  ⟨hS, kp, h.row.mv m h.apart, h.len, h.val, fun g hg => m.out (by obtain ⟨l, hl⟩ := h.row.block hg; exact lt_of hl) (h.apart g hg), h.newR, m.fresh h.q h.newE, m.done h.q h.newE, h.pos⟩
theorem KI.quiet {w' : World} (h : KI W e G fr pv vN E s p D last tl w) (q : Qt w w') : KI W e G fr pv vN E s p D last tl w' :=
  ⟨h.sys.qt q, h.kp, h.row.keep (fun g l hg hl => q.all hl), h.len, h.val, h.apart, h.newR, h.newE, h.q.trans q, h.pos⟩
theorem KI.put {s' : e.σ} {p' : PS} {w' w2 : World} {E' : Cov} {n : Nat} {t : Text} (h : KI W e G fr pv vN E s p D last tl w) (hn : n < 8) (hS : Sys e w' pv E' s' p') (m : Mv w E w' E') (kp : KP e G fr s' p' D (fun j => if j = (n : Int) then t else last j))
    (ho : Own w2 T.string 1 vN (tl.set n t).length ((tl.set n t).map str)) (f : Frm (fun k _ => vN.ownBlock = some k) w' w2) : KI W e G fr pv vN E' s' p' D (fun j => if j = (n : Int) then t else last j) (tl.set n t) w2 := by
  have hap : ∀ g, vN.ownBlock = some g → ¬ E' g := fun g hg => m.out (by obtain ⟨l, hl⟩ := h.row.block hg; exact lt_of hl) (h.apart g hg)
  have q1 := m.done h.q h.newE
  refine ⟨hS.away (A := fun k => vN.ownBlock = some k) f (fun k hk ha => hap k ha hk) (fun h0 => ?_), kp, ho, by rw [List.length_set]; exact h.len, fun j hj => ?_, hap, h.newR, m.fresh h.q h.newE, q1.trans' f fun k o hk _ hg => ?_, h.pos⟩
  · have := h.newR _ h0
    have h1 := h.pos
    omega
  · rw [List.getElem?_set]
    by_cases e : n = j
    · subst e
      rw [if_pos rfl, if_pos (by rw [h.len]; exact hn)]
      simp
    · rw [if_neg e, h.val j hj, if_neg (by omega)]
  · have := h.newR _ hg
    have := lt_of hk
    omega

abbrev StK := List Deferred × Value × Value × Value × Value × Value × Value

set_option maxHeartbeats 2000000 in
/-- the end of a round -/
theorem keep_tail (hs : Sound e G) (he : e.pages = 8) (hfr : fr ≤ 64) {lv av fl : Value} {l : List Act10} {i n : Nat} {f : FrT} (hl : Ar W 3 lv l.length (acells l)) (hi : i < l.length) (hi50 : i < 50) (h : KI W e G fr pv vN E s p D last tl w)
    (hg : fget p.held n = some f) (hp : f.pins = 1) (hz : ∀ m g, m ≠ (n : Int) → fget p.held m = some g → g.pins = 0)
    {X1 : StK → World → Prop} (k : ∀ E s p D w', KI W e G fr pv vN E s p D last tl w' → (∀ m g, fget p.held m = some g → g.pins = 0) → X1 ([], lv, av, fl, pv, vN, int ((i + 1 : Nat) : Int)) w') :
    concordancelaw10_PoolKeeps_j9 K X1 [] lv av fl pv vN (int i) (int n) w := by
  unfold concordancelaw10_PoolKeeps_j9
  obtain ⟨p1, u1, k1, g1, z1⟩ := kp_unpin h.kp hg hp
  refine Unpin_c h.sys h.kp.ok (by decide) (fun w1 E1 hS m1 => ?_)
  rw [u1] at hS
  simp only at hS
  have h1 := h.act hS m1 k1
  refine act_what (hl.qt h1.q) hi ?_
  have hz1 : ∀ m g, fget p1.held m = some g → g.pins = 0 := by
    intro m g hm
    by_cases e1 : m = (n : Int)
    · rw [e1, g1] at hm; cases hm; rfl
    · exact hz m g e1 (z1 m g e1 hm)
  refine run_i (p_and _) ?_
  refine run_i (p_eql _) ?_
  refine cnd_dec (fun hc => ?_) (fun hc => ?_)
  · obtain ⟨s2, D2, o1, o2⟩ := kp_out hs k1 g1
    have hev : pevict e s p1 n = pout e s p1 n := by
      unfold pevict; rw [g1]; simp
    refine Evict_c h1.sys k1.ok (fun w2 E2 hS2 m2 => ?_)
    rw [hev, o1] at hS2 ⊢
    simp only at hS2 ⊢
    refine run_i (p_neqF (by omega) _) ?_
    refine cn_fi ?_
    unfold concordancelaw10_PoolKeeps_j7
    refine run_i (p_addI (by omega) (by omega) _) ?_
    refine k _ _ _ _ _ (h1.act hS2 m2 o2) (fun m g hm => ?_)
    simp only [fget_fdel] at hm
    split at hm
    · cases hm
    · exact hz1 m g hm
  · unfold concordancelaw10_PoolKeeps_j7
    refine run_i (p_addI (by omega) (by omega) _) ?_
    exact k _ _ _ _ _ h1 hz1

set_option maxHeartbeats 4000000 in
theorem keep_round (hs : Sound e G) (he : e.pages = 8) (hf1 : 1 ≤ fr) (hfr : fr ≤ 64) {lv av fl : Value} {l : List Act10} {i : Nat} (hl : Ar W 3 lv l.length (acells l)) (hi : i < l.length) (hi50 : i < 50) (h : KI W e G fr pv vN E s p D last tl w)
    (hz : ∀ m g, fget p.held m = some g → g.pins = 0)
    {X1 : StK → World → Prop} (k : ∀ E s p D last tl w', KI W e G fr pv vN E s p D last tl w' → (∀ m g, fget p.held m = some g → g.pins = 0) → X1 ([], lv, av, fl, pv, vN, int ((i + 1 : Nat) : Int)) w') :
    concordancelaw10_PoolKeeps_j6 K X1 [] lv av fl pv vN (int i) w := by
  unfold concordancelaw10_PoolKeeps_j6
  refine act_page (hl.qt h.q) hi ?_
  have ha := and_le l[i].page (m := 7) (by decide) (by decide)
  refine run_i (p_and _) ?_
  obtain ⟨n, hn⟩ : ∃ n : Nat, bitv (fun _ x y => x &&& y) .i64 l[i].page 7 = (n : Int) := ⟨(bitv (fun _ x y => x &&& y) .i64 l[i].page 7).toNat, by omega⟩
  rw [hn] at ha ⊢
  have hn8 : n < 8 := by omega
  have hroom : (p.held.length : Int) < fr ∨ (∃ m f, fget p.held m = some f ∧ f.pins = 0) := by
    by_cases hlt : (p.held.length : Int) < fr
    · exact .inl hlt
    · cases hh : p.held with
      | nil => rw [hh] at hlt; simp at hlt; omega
      | cons x r =>
        have := fget_of_mem h.kp.wf.sorted (x := x) (by rw [hh]; simp)
        rw [hh] at this
        exact .inr ⟨x.1, x.2, this, hz _ _ (by rw [hh]; exact this)⟩
  obtain ⟨s1, p1, D1, u1, k1, ⟨f1, g1, hp1⟩, z1, _⟩ := kp_pin hs h.kp (n := (n : Int)) (by omega) (by omega) (fun f hf => hz _ _ hf) hroom
  refine Pin_c h.sys h.kp.ok (by decide) (h.kp.few hfr) (by omega) (by omega) (fun w1 E1 hS m1 => ?_)
  rw [u1] at hS ⊢
  simp only at hS ⊢
  have h1 := h.act hS m1 k1
  have hz1 : ∀ m g, m ≠ (n : Int) → fget p1.held m = some g → g.pins = 0 := fun m g hm hg => hz _ _ (z1 m g hm hg)
  have hln : n < tl.length := by rw [h.len]; exact hn8
  have hv : tl[n] = last n := by
    have := h.val n hn8
    rw [List.getElem?_eq_getElem hln] at this
    exact Option.some.inj this
  refine run_i (s_extract rfl) ?_
  refine run_i (s_extract rfl) ?_
  refine run_i (p_neqF (by omega) _) ?_
  refine gc_ffi ?_
  refine row_load h1.row hln rfl ?_
  rw [hv]
  refine run_i (p_sne _) ?_
  simp only [decide_true, Bool.not_true]
  unfold concordancelaw10_PoolKeeps_g10
  refine pk_fi ?_
  refine cn_fi ?_
  unfold concordancelaw10_PoolKeeps_j8
  refine act_what (hl.qt h1.q) hi ?_
  refine run_i (p_and _) ?_
  refine run_i (p_eql _) ?_
  refine cnd_dec (fun hc => ?_) (fun hc => ?_)
  · obtain ⟨g, o, cap, rfl, _, _, htx⟩ := act_at (hl.qt h1.q) hi
    have htx' : cellAt (w1.drew.heap[g]?) (o + (i : Int).toNat * 3 + 2) = some (str l[i].text) := by rw [Int.toNat_natCast]; exact htx
    refine rnT_i (fun _ => (p_addI (by omega) (by omega) _)) ?_
    refine rnT_i (fun _ => (s_index (by omega) (by omega))) ?_
    refine rnT_i (fun _ => s_field) ?_
    refine rnR_i (s_load htx') ?_
    refine rnT_i (fun _ => (s_index (by omega) (by omega))) ?_
    refine rnT_i (fun _ => s_field) ?_
    refine rnR_i (s_load htx') ?_
    refine rnT_i (fun _ => s_len_str) ?_
    refine rnT_i (fun _ => s_min) ?_
    refine rnT_i (fun _ => (s_str_h (by first | omega | (simp only [List.length_append, List.length_take, List.length_drop, List.length_cons, List.length_nil, List.length_replicate, List.length_map, List.length_reverse] at *; omega)) (by first | omega | (simp only [List.length_append, List.length_take, List.length_drop, List.length_cons, List.length_nil, List.length_replicate, List.length_map, List.length_reverse] at *; omega)))) ?_
    obtain ⟨tx, htx2⟩ : ∃ tx, tx = l[i].text.take (min ((l[i].text.length : Nat) : Int) 60).toNat := ⟨_, rfl⟩
    have hlx : tx.length ≤ 60 := by rw [htx2, List.length_take]; omega
    rw [← htx2]
    obtain ⟨pt, hpt⟩ : ∃ pt : PgT, pt = ⟨1 + i, 2, 0, 0, tx, []⟩ := ⟨_, rfl⟩
    refine rnT_i (fun w' => build_of (cells := (pt.cells (.slice none 0 0)).toArray) (by rw [hpt]; kernel_rfl) w') ?_
    have hfree : 0 ≤ pt.free := by rw [hpt]; simp [PgT.free, ssize]; omega
    have hok : pt.ok = true := by
      rw [hpt]
      unfold PgT.ok
      simp only [List.any_nil, Bool.not_false, Bool.and_true, decide_eq_true_eq]
      omega
    have hents : pt.ents = [] := by rw [hpt]
    have hrd : Rd w1.drew T.page_Entry 3 (.slice none 0 0) pt.ents.length (ecells pt.ents) := by rw [hents]; exact Rd.nil
    refine Encode_c hrd (by rw [hents]; simp) (h1.sys.glob.qt ((Frm.refl w1).drew)) (fun w2 q2 => ?_)
    rw [hok, if_pos rfl, if_neg (by omega)]
    have hwt := enc_whole hfree
    obtain ⟨p2, f2, v1, k2, g2, hp2, z2⟩ := kp_put k1 g1 hp1 hwt
    have h2 := h1.quiet (((Frm.refl w1).drew).trans q2)
    refine ⟨trivial, ?_⟩
    refine rnT_i (fun _ => (s_extract rfl)) ?_
    refine rnT_i (fun _ => (s_extract rfl)) ?_
    refine Put_c h2.sys (by rw [hwt.1]; decide) (fun w3 E3 hS3 m3 => ?_)
    rw [v1] at hS3 ⊢
    simp only at hS3 ⊢
    refine run_i (p_neqF (by omega) _) ?_
    refine cn_fi ?_
    have hrow3 := h2.row.mv m3 h2.apart
    refine row_store hrow3 hln rfl (fun w4 ho4 f4 => ?_)
    have h4 := h2.put hn8 hS3 m3 k2 ho4 f4
    exact keep_tail hs he hfr hl hi hi50 h4 g2 hp2 (fun m g hm hg => hz1 _ _ hm (z2 m g hm hg)) (fun E s p D w' h' hz' => k E s p D _ _ w' h' hz')
  · exact keep_tail hs he hfr hl hi hi50 h1 g1 hp1 hz1 (fun E s p D w' h' hz' => k E s p D last tl w' h' hz')
end Go.Sx
end
