/- Part 6 of the proof: ZP, SxCl, SxCm, SxL1, ZM, SxL2. -/
import Derived.Test.YtbpcalmbefkpgaaGreatDoorRefusesA
import Derived.Test.YtbpcalmbefkpgaaGreatDoorRefusesB
import Derived.Test.YtbpcalmbefkpgaaGreatDoorRefusesC
import Derived.Test.YtbpcalmbefkpgaaGreatDoorRefusesD
import Derived.Test.YtbpcalmbefkpgaaGreatDoorRefusesE
set_option linter.unusedVariables false
set_option linter.unusedSimpArgs false

section
set_option maxRecDepth 100000
set_option linter.unusedVariables false
namespace Go.Sx
open Go
/-- concordance/concordancelaw10.PoolPins -/
noncomputable def concordancelaw10_PoolPins_body : Code := (Go.Proofs.Tryz.f3.body).getD .skip

def concordancelaw10_PoolPins_g4 (K : Value → World → Prop) (ds : List Deferred) (x123 : Value) (x126 : Value) (w : World) : Prop :=
  pickV x123 x126 (.bool false) (fun t127_1 w =>
  leaveW Pg ds (fun w => K t127_1 w) w) w

theorem concordancelaw10_PoolPins_g4_eq (K : Value → World → Prop) : opsG (op1W Pg) (rOps (cL (cR (cR (cR (cR (cR (cR (cR (cR concordancelaw10_PoolPins_body)))))))))).toList ((groups (rOps (cL (cR (cR (cR (cR (cR (cR (cR (cR concordancelaw10_PoolPins_body)))))))))).toList).drop 6) 17 (W Pg (cR (cR (cR (cR (cR (cR (cR (cR (cR concordancelaw10_PoolPins_body))))))))) false (retQ Pg [.tmp 4] K)) = (fun s w => concordancelaw10_PoolPins_g4 K s.ds (s.f 123) (s.f 126) w) :=
  by kernel_rfl

def concordancelaw10_PoolPins_g3 (K : Value → World → Prop) (ds : List Deferred) (x9 : Value) (x118 : Value) (x121 : Value) (w : World) : Prop :=
  pickV x118 x121 (.bool false) (fun t122_2 w =>
  gcond t122_2 true (
  call Pg F.pool_Pool_Has [x9, (.int .i64 0)] (fun t125_3 w =>
  run Pg (Op.unary .not t125_3) (fun t126_4 w =>
  concordancelaw10_PoolPins_g4 K ds t122_2 t126_4 w) w) w) (
  concordancelaw10_PoolPins_g4 K ds t122_2 undef w)) w

theorem concordancelaw10_PoolPins_g3_eq (K : Value → World → Prop) : opsG (op1W Pg) (rOps (cL (cR (cR (cR (cR (cR (cR (cR (cR concordancelaw10_PoolPins_body)))))))))).toList ((groups (rOps (cL (cR (cR (cR (cR (cR (cR (cR (cR concordancelaw10_PoolPins_body)))))))))).toList).drop 4) 12 (W Pg (cR (cR (cR (cR (cR (cR (cR (cR (cR concordancelaw10_PoolPins_body))))))))) false (retQ Pg [.tmp 4] K)) = (fun s w => concordancelaw10_PoolPins_g3 K s.ds (s.f 9) (s.f 118) (s.f 121) w) :=
  Eq.trans (eqPlain (eqGrd (concordancelaw10_PoolPins_g4_eq K))) (by kernel_rfl)

def concordancelaw10_PoolPins_g2 (K : Value → World → Prop) (ds : List Deferred) (x9 : Value) (x113 : Value) (x116 : Value) (w : World) : Prop :=
  pickV x113 x116 (.bool false) (fun t117_5 w =>
  gcond t117_5 true (
  call Pg F.pool_Pool_Evict [x9, (.int .i64 0)] (fun t120_6 w =>
  run Pg (binS .eql 25 true t120_6 (.int .i64 0)) (fun t121_7 w =>
  concordancelaw10_PoolPins_g3 K ds x9 t117_5 t121_7 w) w) w) (
  concordancelaw10_PoolPins_g3 K ds x9 t117_5 undef w)) w

theorem concordancelaw10_PoolPins_g2_eq (K : Value → World → Prop) : opsG (op1W Pg) (rOps (cL (cR (cR (cR (cR (cR (cR (cR (cR concordancelaw10_PoolPins_body)))))))))).toList ((groups (rOps (cL (cR (cR (cR (cR (cR (cR (cR (cR concordancelaw10_PoolPins_body)))))))))).toList).drop 2) 7 (W Pg (cR (cR (cR (cR (cR (cR (cR (cR (cR concordancelaw10_PoolPins_body))))))))) false (retQ Pg [.tmp 4] K)) = (fun s w => concordancelaw10_PoolPins_g2 K s.ds (s.f 9) (s.f 113) (s.f 116) w) :=
  Eq.trans (eqPlain (eqGrd (concordancelaw10_PoolPins_g3_eq K))) (by kernel_rfl)

def concordancelaw10_PoolPins_j1 (K : Value → World → Prop) (ds : List Deferred) (x9 : Value) (w : World) : Prop :=
  call Pg F.pool_Pool_Unpin [x9, (.int .i64 0)] (fun t111_8 w =>
  run Pg (binS .eql 25 true t111_8 (.int .i64 0)) (fun t112_9 w =>
  gcond t112_9 true (
  call Pg F.pool_Pool_Unpin [x9, (.int .i64 0)] (fun t115_10 w =>
  run Pg (binS .eql 25 true t115_10 (.int .i64 17)) (fun t116_11 w =>
  concordancelaw10_PoolPins_g2 K ds x9 t112_9 t116_11 w) w) w) (
  concordancelaw10_PoolPins_g2 K ds x9 t112_9 undef w)) w) w

theorem concordancelaw10_PoolPins_j1_eq (K : Value → World → Prop) : W Pg (cR (cR (cR (cR (cR (cR (cR (cR concordancelaw10_PoolPins_body)))))))) false (retQ Pg [.tmp 4] K) = (fun s w => concordancelaw10_PoolPins_j1 K s.ds (s.f 9) w) :=
  Eq.trans (eqSeqL (eqReg (rd := false) (id := 22) (ops := rOps (cL (cR (cR (cR (cR (cR (cR (cR (cR concordancelaw10_PoolPins_body)))))))))) (by kernel_rfl) (eqPlain (eqGrd (concordancelaw10_PoolPins_g2_eq K))))) (by kernel_rfl)

def concordancelaw10_PoolPins_g10 (K : Value → World → Prop) (X1 : List Deferred × Value × Value × Value × Value → World → Prop) (ds : List Deferred) (x0 : Value) (x1 : Value) (x9 : Value) (x13 : Value) (x105 : Value) (x108 : Value) (w : World) : Prop :=
  pickV x105 (.bool true) x108 (fun t109_12 w =>
  cnd t109_12 (
  leaveW Pg ds (fun w => K (.bool false) w) w) (
  run Pg (binS .add 3 true x13 (.int .i64 1)) (fun t55_13 w =>
  X1 (ds, x0, x1, x9, t55_13) w) w)) w

theorem concordancelaw10_PoolPins_g10_eq (K : Value → World → Prop) (X1 : List Deferred × Value × Value × Value × Value → World → Prop) : opsG (op1W Pg) (rOps (cL (cR (cR (cR (cR (cR (cB (cL (cR (cB (cB (cR (cL (cR (cR (cR (cR (cR (cR (cR concordancelaw10_PoolPins_body))))))))))))))))))))).toList ((groups (rOps (cL (cR (cR (cR (cR (cR (cB (cL (cR (cB (cB (cR (cL (cR (cR (cR (cR (cR (cR (cR concordancelaw10_PoolPins_body))))))))))))))))))))).toList).drop 4) 13 (W Pg (cR (cR (cR (cR (cR (cR (cB (cL (cR (cB (cB (cR (cL (cR (cR (cR (cR (cR (cR (cR concordancelaw10_PoolPins_body)))))))))))))))))))) false (blockP 1 (thenP (W Pg (cR (cR (cB (cB (cR (cL (cR (cR (cR (cR (cR (cR (cR concordancelaw10_PoolPins_body))))))))))))) false (thenP (fun s w => X1 (s.ds, s.f 0, s.f 1, s.f 9, s.f 13) w) (blockP 0 (thenP (fun s w => concordancelaw10_PoolPins_j1 K s.ds (s.f 9) w) (retQ Pg [.tmp 4] K))))) (thenP (fun s w => X1 (s.ds, s.f 0, s.f 1, s.f 9, s.f 13) w) (blockP 0 (thenP (fun s w => concordancelaw10_PoolPins_j1 K s.ds (s.f 9) w) (retQ Pg [.tmp 4] K))))))) = (fun s w => concordancelaw10_PoolPins_g10 K X1 s.ds (s.f 0) (s.f 1) (s.f 9) (s.f 13) (s.f 105) (s.f 108) w) :=
  by kernel_rfl

def concordancelaw10_PoolPins_g9 (K : Value → World → Prop) (X1 : List Deferred × Value × Value × Value × Value → World → Prop) (ds : List Deferred) (x0 : Value) (x1 : Value) (x9 : Value) (x13 : Value) (x99 : Value) (x103 : Value) (w : World) : Prop :=
  pickV x99 (.bool true) x103 (fun t104_14 w =>
  gcond t104_14 false (
  call Pg F.pool_Pool_Evict [x9, (.int .i64 0)] (fun t107_15 w =>
  run Pg (binS .neq 25 true t107_15 (.int .i64 10)) (fun t108_16 w =>
  concordancelaw10_PoolPins_g10 K X1 ds x0 x1 x9 x13 t104_14 t108_16 w) w) w) (
  concordancelaw10_PoolPins_g10 K X1 ds x0 x1 x9 x13 t104_14 undef w)) w

theorem concordancelaw10_PoolPins_g9_eq (K : Value → World → Prop) (X1 : List Deferred × Value × Value × Value × Value → World → Prop) : opsG (op1W Pg) (rOps (cL (cR (cR (cR (cR (cR (cB (cL (cR (cB (cB (cR (cL (cR (cR (cR (cR (cR (cR (cR concordancelaw10_PoolPins_body))))))))))))))))))))).toList ((groups (rOps (cL (cR (cR (cR (cR (cR (cB (cL (cR (cB (cB (cR (cL (cR (cR (cR (cR (cR (cR (cR concordancelaw10_PoolPins_body))))))))))))))))))))).toList).drop 2) 8 (W Pg (cR (cR (cR (cR (cR (cR (cB (cL (cR (cB (cB (cR (cL (cR (cR (cR (cR (cR (cR (cR concordancelaw10_PoolPins_body)))))))))))))))))))) false (blockP 1 (thenP (W Pg (cR (cR (cB (cB (cR (cL (cR (cR (cR (cR (cR (cR (cR concordancelaw10_PoolPins_body))))))))))))) false (thenP (fun s w => X1 (s.ds, s.f 0, s.f 1, s.f 9, s.f 13) w) (blockP 0 (thenP (fun s w => concordancelaw10_PoolPins_j1 K s.ds (s.f 9) w) (retQ Pg [.tmp 4] K))))) (thenP (fun s w => X1 (s.ds, s.f 0, s.f 1, s.f 9, s.f 13) w) (blockP 0 (thenP (fun s w => concordancelaw10_PoolPins_j1 K s.ds (s.f 9) w) (retQ Pg [.tmp 4] K))))))) = (fun s w => concordancelaw10_PoolPins_g9 K X1 s.ds (s.f 0) (s.f 1) (s.f 9) (s.f 13) (s.f 99) (s.f 103) w) :=
  Eq.trans (eqPlain (eqGrd (concordancelaw10_PoolPins_g10_eq K X1))) (by kernel_rfl)

def concordancelaw10_PoolPins_j8 (K : Value → World → Prop) (X1 : List Deferred × Value × Value × Value × Value → World → Prop) (ds : List Deferred) (x0 : Value) (x1 : Value) (x9 : Value) (x13 : Value) (w : World) : Prop :=
  call Pg F.pool_Pool_Held [x9] (fun t93_17 w =>
  run Pg (Instr.extract t93_17 0) (fun t94_18 w =>
  run Pg (Instr.extract t93_17 1) (fun t95_19 w =>
  call Pg F.pool_Pool_Has [x9, (.int .i64 0)] (fun t97_20 w =>
  run Pg (Op.unary .not t97_20) (fun t98_21 w =>
  gcond t98_21 false (
  run Pg (Builtin.len_ #[22] 3 #[t94_18]) (fun t101_22 w =>
  run Pg (binS .gtr 3 false t101_22 x1) (fun t103_23 w =>
  concordancelaw10_PoolPins_g9 K X1 ds x0 x1 x9 x13 t98_21 t103_23 w) w) w) (
  concordancelaw10_PoolPins_g9 K X1 ds x0 x1 x9 x13 t98_21 undef w)) w) w) w) w) w

theorem concordancelaw10_PoolPins_j8_eq (K : Value → World → Prop) (X1 : List Deferred × Value × Value × Value × Value → World → Prop) : W Pg (cR (cR (cR (cR (cB (cL (cR (cB (cB (cR (cL (cR (cR (cR (cR (cR (cR (cR concordancelaw10_PoolPins_body)))))))))))))))))) false (blockP 1 (thenP (W Pg (cR (cR (cB (cB (cR (cL (cR (cR (cR (cR (cR (cR (cR concordancelaw10_PoolPins_body))))))))))))) false (thenP (fun s w => X1 (s.ds, s.f 0, s.f 1, s.f 9, s.f 13) w) (blockP 0 (thenP (fun s w => concordancelaw10_PoolPins_j1 K s.ds (s.f 9) w) (retQ Pg [.tmp 4] K))))) (thenP (fun s w => X1 (s.ds, s.f 0, s.f 1, s.f 9, s.f 13) w) (blockP 0 (thenP (fun s w => concordancelaw10_PoolPins_j1 K s.ds (s.f 9) w) (retQ Pg [.tmp 4] K)))))) = (fun s w => concordancelaw10_PoolPins_j8 K X1 s.ds (s.f 0) (s.f 1) (s.f 9) (s.f 13) w) :=
  Eq.trans (eqSeq (eqSeqL (eqReg (rd := false) (id := 20) (ops := rOps (cL (cR (cR (cR (cR (cR (cB (cL (cR (cB (cB (cR (cL (cR (cR (cR (cR (cR (cR (cR concordancelaw10_PoolPins_body))))))))))))))))))))) (by kernel_rfl) (eqPlain (eqGrd (concordancelaw10_PoolPins_g9_eq K X1)))))) (by kernel_rfl)

def concordancelaw10_PoolPins_g11 (K : Value → World → Prop) (X1 : List Deferred × Value × Value × Value × Value → World → Prop) (ds : List Deferred) (x0 : Value) (x1 : Value) (x9 : Value) (x13 : Value) (x85 : Value) (x89 : Value) (w : World) : Prop :=
  pickV x85 x89 (.bool false) (fun t90_24 w =>
  cnd t90_24 (
  leaveW Pg ds (fun w => K (.bool false) w) w) (
  concordancelaw10_PoolPins_j8 K X1 ds x0 x1 x9 x13 w)) w

theorem concordancelaw10_PoolPins_g11_eq (K : Value → World → Prop) (X1 : List Deferred × Value × Value × Value × Value → World → Prop) : opsG (op1W Pg) (rOps (cL (cL (cR (cR (cR (cB (cL (cR (cB (cB (cR (cL (cR (cR (cR (cR (cR (cR (cR concordancelaw10_PoolPins_body)))))))))))))))))))).toList ((groups (rOps (cL (cL (cR (cR (cR (cB (cL (cR (cB (cB (cR (cL (cR (cR (cR (cR (cR (cR (cR concordancelaw10_PoolPins_body)))))))))))))))))))).toList).drop 2) 7 (W Pg (cR (cL (cR (cR (cR (cB (cL (cR (cB (cB (cR (cL (cR (cR (cR (cR (cR (cR (cR concordancelaw10_PoolPins_body))))))))))))))))))) false (thenP (fun s w => concordancelaw10_PoolPins_j8 K X1 s.ds (s.f 0) (s.f 1) (s.f 9) (s.f 13) w) (blockP 1 (thenP (W Pg (cR (cR (cB (cB (cR (cL (cR (cR (cR (cR (cR (cR (cR concordancelaw10_PoolPins_body))))))))))))) false (thenP (fun s w => X1 (s.ds, s.f 0, s.f 1, s.f 9, s.f 13) w) (blockP 0 (thenP (fun s w => concordancelaw10_PoolPins_j1 K s.ds (s.f 9) w) (retQ Pg [.tmp 4] K))))) (thenP (fun s w => X1 (s.ds, s.f 0, s.f 1, s.f 9, s.f 13) w) (blockP 0 (thenP (fun s w => concordancelaw10_PoolPins_j1 K s.ds (s.f 9) w) (retQ Pg [.tmp 4] K)))))))) = (fun s w => concordancelaw10_PoolPins_g11 K X1 s.ds (s.f 0) (s.f 1) (s.f 9) (s.f 13) (s.f 85) (s.f 89) w) :=
  by kernel_rfl

def concordancelaw10_PoolPins_j7 (K : Value → World → Prop) (X1 : List Deferred × Value × Value × Value × Value → World → Prop) (ds : List Deferred) (x0 : Value) (x1 : Value) (x9 : Value) (x13 : Value) (x14 : Value) (x16 : Value) (w : World) : Prop :=
  run Pg (binS .eql 25 true x16 (.int .i64 0)) (fun t84_25 w =>
  gcond t84_25 true (
  call Pg F.pool_Pool_Unpin [x9, x14] (fun t88_26 w =>
  run Pg (binS .neq 25 true t88_26 (.int .i64 0)) (fun t89_27 w =>
  concordancelaw10_PoolPins_g11 K X1 ds x0 x1 x9 x13 t84_25 t89_27 w) w) w) (
  concordancelaw10_PoolPins_g11 K X1 ds x0 x1 x9 x13 t84_25 undef w)) w

theorem concordancelaw10_PoolPins_j7_eq (K : Value → World → Prop) (X1 : List Deferred × Value × Value × Value × Value → World → Prop) : W Pg (cR (cR (cR (cB (cL (cR (cB (cB (cR (cL (cR (cR (cR (cR (cR (cR (cR concordancelaw10_PoolPins_body))))))))))))))))) false (blockP 1 (thenP (W Pg (cR (cR (cB (cB (cR (cL (cR (cR (cR (cR (cR (cR (cR concordancelaw10_PoolPins_body))))))))))))) false (thenP (fun s w => X1 (s.ds, s.f 0, s.f 1, s.f 9, s.f 13) w) (blockP 0 (thenP (fun s w => concordancelaw10_PoolPins_j1 K s.ds (s.f 9) w) (retQ Pg [.tmp 4] K))))) (thenP (fun s w => X1 (s.ds, s.f 0, s.f 1, s.f 9, s.f 13) w) (blockP 0 (thenP (fun s w => concordancelaw10_PoolPins_j1 K s.ds (s.f 9) w) (retQ Pg [.tmp 4] K)))))) = (fun s w => concordancelaw10_PoolPins_j7 K X1 s.ds (s.f 0) (s.f 1) (s.f 9) (s.f 13) (s.f 14) (s.f 16) w) :=
  Eq.trans ((eqSeq (concordancelaw10_PoolPins_j8_eq K X1)).trans (eqSeqL (eqReg (rd := false) (id := 17) (ops := rOps (cL (cL (cR (cR (cR (cB (cL (cR (cB (cB (cR (cL (cR (cR (cR (cR (cR (cR (cR concordancelaw10_PoolPins_body)))))))))))))))))))) (by kernel_rfl) (eqPlain (eqGrd (concordancelaw10_PoolPins_g11_eq K X1)))))) (by kernel_rfl)

def concordancelaw10_PoolPins_g14 (K : Value → World → Prop) (X1 : List Deferred × Value × Value × Value × Value → World → Prop) (ds : List Deferred) (x0 : Value) (x1 : Value) (x9 : Value) (x13 : Value) (x14 : Value) (x16 : Value) (x75 : Value) (x81 : Value) (w : World) : Prop :=
  pickV x75 (.bool true) x81 (fun t82_28 w =>
  cnd t82_28 (
  leaveW Pg ds (fun w => K (.bool false) w) w) (
  concordancelaw10_PoolPins_j7 K X1 ds x0 x1 x9 x13 x14 x16 w)) w

theorem concordancelaw10_PoolPins_g14_eq (K : Value → World → Prop) (X1 : List Deferred × Value × Value × Value × Value → World → Prop) : opsG (op1W Pg) (rOps (cL (cL (cR (cR (cB (cL (cR (cB (cB (cR (cL (cR (cR (cR (cR (cR (cR (cR concordancelaw10_PoolPins_body))))))))))))))))))).toList ((groups (rOps (cL (cL (cR (cR (cB (cL (cR (cB (cB (cR (cL (cR (cR (cR (cR (cR (cR (cR concordancelaw10_PoolPins_body))))))))))))))))))).toList).drop 4) 12 (W Pg (cR (cL (cR (cR (cB (cL (cR (cB (cB (cR (cL (cR (cR (cR (cR (cR (cR (cR concordancelaw10_PoolPins_body)))))))))))))))))) false (thenP (fun s w => concordancelaw10_PoolPins_j7 K X1 s.ds (s.f 0) (s.f 1) (s.f 9) (s.f 13) (s.f 14) (s.f 16) w) (blockP 1 (thenP (W Pg (cR (cR (cB (cB (cR (cL (cR (cR (cR (cR (cR (cR (cR concordancelaw10_PoolPins_body))))))))))))) false (thenP (fun s w => X1 (s.ds, s.f 0, s.f 1, s.f 9, s.f 13) w) (blockP 0 (thenP (fun s w => concordancelaw10_PoolPins_j1 K s.ds (s.f 9) w) (retQ Pg [.tmp 4] K))))) (thenP (fun s w => X1 (s.ds, s.f 0, s.f 1, s.f 9, s.f 13) w) (blockP 0 (thenP (fun s w => concordancelaw10_PoolPins_j1 K s.ds (s.f 9) w) (retQ Pg [.tmp 4] K)))))))) = (fun s w => concordancelaw10_PoolPins_g14 K X1 s.ds (s.f 0) (s.f 1) (s.f 9) (s.f 13) (s.f 14) (s.f 16) (s.f 75) (s.f 81) w) :=
  by kernel_rfl

def concordancelaw10_PoolPins_g13 (K : Value → World → Prop) (X1 : List Deferred × Value × Value × Value × Value → World → Prop) (ds : List Deferred) (x0 : Value) (x1 : Value) (x9 : Value) (x13 : Value) (x14 : Value) (x16 : Value) (x75 : Value) (x78 : Value) (x80 : Value) (w : World) : Prop :=
  gcond x75 false (
  pickV x78 x80 (.bool false) (fun t81_29 w =>
  concordancelaw10_PoolPins_g14 K X1 ds x0 x1 x9 x13 x14 x16 x75 t81_29 w) w) (
  concordancelaw10_PoolPins_g14 K X1 ds x0 x1 x9 x13 x14 x16 x75 undef w)

theorem concordancelaw10_PoolPins_g13_eq (K : Value → World → Prop) (X1 : List Deferred × Value × Value × Value × Value → World → Prop) : opsG (op1W Pg) (rOps (cL (cL (cR (cR (cB (cL (cR (cB (cB (cR (cL (cR (cR (cR (cR (cR (cR (cR concordancelaw10_PoolPins_body))))))))))))))))))).toList ((groups (rOps (cL (cL (cR (cR (cB (cL (cR (cB (cB (cR (cL (cR (cR (cR (cR (cR (cR (cR concordancelaw10_PoolPins_body))))))))))))))))))).toList).drop 3) 11 (W Pg (cR (cL (cR (cR (cB (cL (cR (cB (cB (cR (cL (cR (cR (cR (cR (cR (cR (cR concordancelaw10_PoolPins_body)))))))))))))))))) false (thenP (fun s w => concordancelaw10_PoolPins_j7 K X1 s.ds (s.f 0) (s.f 1) (s.f 9) (s.f 13) (s.f 14) (s.f 16) w) (blockP 1 (thenP (W Pg (cR (cR (cB (cB (cR (cL (cR (cR (cR (cR (cR (cR (cR concordancelaw10_PoolPins_body))))))))))))) false (thenP (fun s w => X1 (s.ds, s.f 0, s.f 1, s.f 9, s.f 13) w) (blockP 0 (thenP (fun s w => concordancelaw10_PoolPins_j1 K s.ds (s.f 9) w) (retQ Pg [.tmp 4] K))))) (thenP (fun s w => X1 (s.ds, s.f 0, s.f 1, s.f 9, s.f 13) w) (blockP 0 (thenP (fun s w => concordancelaw10_PoolPins_j1 K s.ds (s.f 9) w) (retQ Pg [.tmp 4] K)))))))) = (fun s w => concordancelaw10_PoolPins_g13 K X1 s.ds (s.f 0) (s.f 1) (s.f 9) (s.f 13) (s.f 14) (s.f 16) (s.f 75) (s.f 78) (s.f 80) w) :=
  Eq.trans (eqGrd (concordancelaw10_PoolPins_g14_eq K X1)) (by kernel_rfl)

def concordancelaw10_PoolPins_g12 (K : Value → World → Prop) (X1 : List Deferred × Value × Value × Value × Value → World → Prop) (ds : List Deferred) (x0 : Value) (x1 : Value) (x9 : Value) (x13 : Value) (x14 : Value) (x16 : Value) (x75 : Value) (x78 : Value) (w : World) : Prop :=
  gcond x78 true (
  run Pg (binS .neq 25 true x16 (.int .i64 10)) (fun t80_30 w =>
  concordancelaw10_PoolPins_g13 K X1 ds x0 x1 x9 x13 x14 x16 x75 x78 t80_30 w) w) (
  concordancelaw10_PoolPins_g13 K X1 ds x0 x1 x9 x13 x14 x16 x75 x78 undef w)

theorem concordancelaw10_PoolPins_g12_eq (K : Value → World → Prop) (X1 : List Deferred × Value × Value × Value × Value → World → Prop) : opsG (op1W Pg) (rOps (cL (cL (cR (cR (cB (cL (cR (cB (cB (cR (cL (cR (cR (cR (cR (cR (cR (cR concordancelaw10_PoolPins_body))))))))))))))))))).toList ((groups (rOps (cL (cL (cR (cR (cB (cL (cR (cB (cB (cR (cL (cR (cR (cR (cR (cR (cR (cR concordancelaw10_PoolPins_body))))))))))))))))))).toList).drop 2) 9 (W Pg (cR (cL (cR (cR (cB (cL (cR (cB (cB (cR (cL (cR (cR (cR (cR (cR (cR (cR concordancelaw10_PoolPins_body)))))))))))))))))) false (thenP (fun s w => concordancelaw10_PoolPins_j7 K X1 s.ds (s.f 0) (s.f 1) (s.f 9) (s.f 13) (s.f 14) (s.f 16) w) (blockP 1 (thenP (W Pg (cR (cR (cB (cB (cR (cL (cR (cR (cR (cR (cR (cR (cR concordancelaw10_PoolPins_body))))))))))))) false (thenP (fun s w => X1 (s.ds, s.f 0, s.f 1, s.f 9, s.f 13) w) (blockP 0 (thenP (fun s w => concordancelaw10_PoolPins_j1 K s.ds (s.f 9) w) (retQ Pg [.tmp 4] K))))) (thenP (fun s w => X1 (s.ds, s.f 0, s.f 1, s.f 9, s.f 13) w) (blockP 0 (thenP (fun s w => concordancelaw10_PoolPins_j1 K s.ds (s.f 9) w) (retQ Pg [.tmp 4] K)))))))) = (fun s w => concordancelaw10_PoolPins_g12 K X1 s.ds (s.f 0) (s.f 1) (s.f 9) (s.f 13) (s.f 14) (s.f 16) (s.f 75) (s.f 78) w) :=
  Eq.trans (eqGrd (concordancelaw10_PoolPins_g13_eq K X1)) (by kernel_rfl)

def concordancelaw10_PoolPins_j6 (K : Value → World → Prop) (X1 : List Deferred × Value × Value × Value × Value → World → Prop) (ds : List Deferred) (x0 : Value) (x1 : Value) (x9 : Value) (x13 : Value) (w : World) : Prop :=
  run Pg (Instr.indexAt 22 x0 x13) (fun t58_31 w =>
  run Pg (Instr.loadAt 3 t58_31) (fun t59_32 w =>
  run Pg (binS .rem 3 true t59_32 (.int .i64 7)) (fun t60_33 w =>
  run Pg (binS .add 3 true t60_33 (.int .i64 7)) (fun t61_34 w =>
  run Pg (binS .rem 3 true t61_34 (.int .i64 7)) (fun t62_35 w =>
  run Pg (binS .add 3 true (.int .i64 1) t62_35) (fun t63_36 w =>
  call Pg F.pool_Pool_Pin [x9, t63_36] (fun t67_37 w =>
  run Pg (Instr.extract t67_37 0) (fun t68_38 w =>
  run Pg (Instr.extract t67_37 1) (fun t69_39 w =>
  run Pg (binS .eql 25 true t69_39 (.int .i64 0)) (fun t71_40 w =>
  run Pg (binS .gtr 3 true x1 (.int .i64 1)) (fun t73_41 w =>
  run Pg (binS .neq 4 false t71_40 t73_41) (fun t74_42 w =>
  gcond t74_42 false (
  run Pg (binS .eql 3 true x1 (.int .i64 1)) (fun t77_43 w =>
  concordancelaw10_PoolPins_g12 K X1 ds x0 x1 x9 x13 t63_36 t69_39 t74_42 t77_43 w) w) (
  concordancelaw10_PoolPins_g12 K X1 ds x0 x1 x9 x13 t63_36 t69_39 t74_42 undef w)) w) w) w) w) w) w) w) w) w) w) w) w

theorem concordancelaw10_PoolPins_j6_eq (K : Value → World → Prop) (X1 : List Deferred × Value × Value × Value × Value → World → Prop) : W Pg (cR (cB (cB (cR (cL (cR (cR (cR (cR (cR (cR (cR concordancelaw10_PoolPins_body)))))))))))) false (thenP (fun s w => X1 (s.ds, s.f 0, s.f 1, s.f 9, s.f 13) w) (blockP 0 (thenP (fun s w => concordancelaw10_PoolPins_j1 K s.ds (s.f 9) w) (retQ Pg [.tmp 4] K)))) = (fun s w => concordancelaw10_PoolPins_j6 K X1 s.ds (s.f 0) (s.f 1) (s.f 9) (s.f 13) w) :=
  Eq.trans (eqSeqL (eqBlock (eqSeq (eqSeq ((eqSeq (concordancelaw10_PoolPins_j7_eq K X1)).trans (eqSeqL (eqReg (rd := false) (id := 15) (ops := rOps (cL (cL (cR (cR (cB (cL (cR (cB (cB (cR (cL (cR (cR (cR (cR (cR (cR (cR concordancelaw10_PoolPins_body))))))))))))))))))) (by kernel_rfl) (eqPlain (eqGrd (concordancelaw10_PoolPins_g12_eq K X1)))))))))) (by kernel_rfl)

def concordancelaw10_PoolPins_g15 (K : Value → World → Prop) (X1 : List Deferred × Value × Value × Value × Value → World → Prop) (ds : List Deferred) (x0 : Value) (x1 : Value) (x9 : Value) (x13 : Value) (x50 : Value) (x52 : Value) (w : World) : Prop :=
  pickV x50 x52 (.bool false) (fun t53_44 w =>
  cnd t53_44 (
  concordancelaw10_PoolPins_j6 K X1 ds x0 x1 x9 x13 w) (
  concordancelaw10_PoolPins_j1 K ds x9 w)) w

theorem concordancelaw10_PoolPins_g15_eq (K : Value → World → Prop) (X1 : List Deferred × Value × Value × Value × Value → World → Prop) : opsG (op1W Pg) (rOps (cL (cL (cB (cB (cR (cL (cR (cR (cR (cR (cR (cR (cR concordancelaw10_PoolPins_body)))))))))))))).toList ((groups (rOps (cL (cL (cB (cB (cR (cL (cR (cR (cR (cR (cR (cR (cR concordancelaw10_PoolPins_body)))))))))))))).toList).drop 2) 7 (W Pg (cR (cL (cB (cB (cR (cL (cR (cR (cR (cR (cR (cR (cR concordancelaw10_PoolPins_body))))))))))))) false (thenP (fun s w => concordancelaw10_PoolPins_j6 K X1 s.ds (s.f 0) (s.f 1) (s.f 9) (s.f 13) w) (thenP (fun s w => X1 (s.ds, s.f 0, s.f 1, s.f 9, s.f 13) w) (blockP 0 (thenP (fun s w => concordancelaw10_PoolPins_j1 K s.ds (s.f 9) w) (retQ Pg [.tmp 4] K)))))) = (fun s w => concordancelaw10_PoolPins_g15 K X1 s.ds (s.f 0) (s.f 1) (s.f 9) (s.f 13) (s.f 50) (s.f 52) w) :=
  by kernel_rfl

def concordancelaw10_PoolPins_l5 (K : Value → World → Prop) (X1 : List Deferred × Value × Value × Value × Value → World → Prop) (st : List Deferred × Value × Value × Value × Value) (w : World) : Prop :=
  run Pg (Builtin.len_ #[22] 3 #[st.2.1]) (fun t48_45 w =>
  run Pg (binS .lss 3 false st.2.2.2.2 t48_45) (fun t49_46 w =>
  gcond t49_46 true (
  run Pg (binS .lss 3 true st.2.2.2.2 (.int .i64 40)) (fun t52_47 w =>
  concordancelaw10_PoolPins_g15 K X1 st.1 st.2.1 st.2.2.1 st.2.2.2.1 st.2.2.2.2 t49_46 t52_47 w) w) (
  concordancelaw10_PoolPins_g15 K X1 st.1 st.2.1 st.2.2.1 st.2.2.2.1 st.2.2.2.2 t49_46 undef w)) w) w

theorem concordancelaw10_PoolPins_l5_eq (K : Value → World → Prop) (X1 : List Deferred × Value × Value × Value × Value → World → Prop) : W Pg (cB (cB (cR (cL (cR (cR (cR (cR (cR (cR (cR concordancelaw10_PoolPins_body))))))))))) false (thenP (fun s w => X1 (s.ds, s.f 0, s.f 1, s.f 9, s.f 13) w) (blockP 0 (thenP (fun s w => concordancelaw10_PoolPins_j1 K s.ds (s.f 9) w) (retQ Pg [.tmp 4] K)))) = (fun s w => concordancelaw10_PoolPins_l5 K X1 (s.ds, s.f 0, s.f 1, s.f 9, s.f 13) w) :=
  Eq.trans ((eqSeq (concordancelaw10_PoolPins_j6_eq K X1)).trans (eqSeqL (eqReg (rd := false) (id := 11) (ops := rOps (cL (cL (cB (cB (cR (cL (cR (cR (cR (cR (cR (cR (cR concordancelaw10_PoolPins_body)))))))))))))) (by kernel_rfl) (eqPlain (eqGrd (concordancelaw10_PoolPins_g15_eq K X1)))))) (by kernel_rfl)

theorem concordancelaw10_PoolPins_l5_mono (K : Value → World → Prop) : ∀ X Y : List Deferred × Value × Value × Value × Value → World → Prop, (∀ t w, X t w → Y t w) → ∀ t w, concordancelaw10_PoolPins_l5 K X t w → concordancelaw10_PoolPins_l5 K Y t w :=
  loop_mono (fun s : St => ((s.ds, s.f 0, s.f 1, s.f 9, s.f 13) : List Deferred × Value × Value × Value × Value)) (fun X1 => concordancelaw10_PoolPins_l5_eq K X1) (fun t => ⟨fun i => (bif Nat.beq i 0 then t.2.1 else (bif Nat.beq i 1 then t.2.2.1 else (bif Nat.beq i 9 then t.2.2.2.1 else (bif Nat.beq i 13 then t.2.2.2.2 else undef)))), t.1⟩) (fun _ => rfl)

def concordancelaw10_PoolPins (K : Value → World → Prop) (ds : List Deferred) (x0 : Value) (x1 : Value) (w : World) : Prop :=
  call Pg F.concordancelaw10_speaks [] (fun t19_48 w =>
  run Pg (Op.unary .not t19_48) (fun t20_49 w =>
  cnd t20_49 (
  leaveW Pg ds (fun w => K (.bool false) w) w) (
  run Pg (binS .and 3 true x1 (.int .i64 3)) (fun t22_50 w =>
  run Pg (binS .add 3 true (.int .i64 1) t22_50) (fun t23_51 w =>
  call Pg F.device_New [(.int .i64 40)] (fun t25_52 w =>
  run Pg (Instr.extract t25_52 0) (fun t26_53 w =>
  run Pg (Instr.extract t25_52 1) (fun t27_54 w =>
  call Pg F.twin_New [t26_53, (.int .i64 0), (.int .i64 2), (.int .i64 10), (.int .i64 8)] (fun t30_55 w =>
  run Pg (Instr.extract t30_55 0) (fun t31_56 w =>
  run Pg (Instr.extract t30_55 1) (fun t32_57 w =>
  call Pg F.pool_New [t31_56, t23_51, (.func (.func 11) #[] #[])] (fun t36_58 w =>
  run Pg (Instr.extract t36_58 0) (fun t37_59 w =>
  run Pg (Instr.extract t36_58 1) (fun t38_60 w =>
  call Pg F.pool_Pool_Pin [t37_59, (.int .i64 0)] (fun t41_61 w =>
  run Pg (Instr.extract t41_61 0) (fun t42_62 w =>
  run Pg (Instr.extract t41_61 1) (fun t43_63 w =>
  run Pg (binS .neq 25 true t43_63 (.int .i64 0)) (fun t45_64 w =>
  cnd t45_64 (
  leaveW Pg ds (fun w => K (.bool false) w) w) (
  Lp (concordancelaw10_PoolPins_l5 K) (ds, x0, t23_51, t37_59, (.int .i64 0)) w)) w) w) w) w) w) w) w) w) w) w) w) w) w) w) w)) w) w

theorem concordancelaw10_PoolPins_eq (K : Value → World → Prop) : W Pg concordancelaw10_PoolPins_body false (retQ Pg [.tmp 4] K) = (fun s w => concordancelaw10_PoolPins K s.ds (s.f 0) (s.f 1) w) :=
  Eq.trans (eqSeq (eqSeq (eqSeq (eqSeq (eqSeq (eqSeq (eqSeq ((eqSeq (concordancelaw10_PoolPins_j1_eq K)).trans (eqSeq (eqBlock (eqLoop (rd := false) (fun s : St => ((s.ds, s.f 0, s.f 1, s.f 9, s.f 13) : List Deferred × Value × Value × Value × Value)) (fun X1 => concordancelaw10_PoolPins_l5_eq K X1)))))))))))) (by kernel_rfl)

theorem concordancelaw10_PoolPins_ok : FnOk Pg F.concordancelaw10_PoolPins Go.Proofs.Tryz.f3 concordancelaw10_PoolPins_body 2 := ⟨Go.Proofs.Tryz.func3, by kernel_rfl, by kernel_rfl, by kernel_rfl, by kernel_rfl, by kernel_rfl⟩

theorem concordancelaw10_PoolPins_callS {K : Value → World → Prop} {x0 : Value} {x1 : Value} {w : World} (h : concordancelaw10_PoolPins K [] x0 x1 w) : callS Pg F.concordancelaw10_PoolPins [x0, x1] K w :=
  call_of_W concordancelaw10_PoolPins_ok (Eq.mpr (congrFun (congrFun (concordancelaw10_PoolPins_eq K) ⟨argFr [x0, x1], []⟩) w) h)

theorem concordancelaw10_PoolPins_call {K : Value → World → Prop} {x0 : Value} {x1 : Value} {w : World} (h : concordancelaw10_PoolPins K [] x0 x1 w) : call Pg F.concordancelaw10_PoolPins [x0, x1] K w := .inl (concordancelaw10_PoolPins_callS h)

/-- concordance/concordancelaw10.speaks -/
noncomputable def concordancelaw10_speaks_body : Code := (Go.Proofs.Tryz.f7.body).getD .skip

def concordancelaw10_speaks_g4 (K : Value → World → Prop) (ds : List Deferred) (x52 : Value) (x54 : Value) (w : World) : Prop :=
  pickV x52 x54 (.bool false) (fun t55_1 w =>
  leaveW Pg ds (fun w => K t55_1 w) w) w

theorem concordancelaw10_speaks_g4_eq (K : Value → World → Prop) : opsG (op1W Pg) (rOps (cL (cR (cR (cR (cR (cR (cR (cR (cR (cR concordancelaw10_speaks_body))))))))))).toList ((groups (rOps (cL (cR (cR (cR (cR (cR (cR (cR (cR (cR concordancelaw10_speaks_body))))))))))).toList).drop 8) 19 (W Pg (cR (cR (cR (cR (cR (cR (cR (cR (cR (cR concordancelaw10_speaks_body)))))))))) false (retQ Pg [.tmp 0] K)) = (fun s w => concordancelaw10_speaks_g4 K s.ds (s.f 52) (s.f 54) w) :=
  by kernel_rfl

def concordancelaw10_speaks_g3 (K : Value → World → Prop) (ds : List Deferred) (x5 : Value) (x48 : Value) (x50 : Value) (w : World) : Prop :=
  pickV x48 x50 (.bool false) (fun t51_2 w =>
  gcond t51_2 true (
  call Pg F.pool_Pool_Has [x5, (.int .i64 3)] (fun t54_3 w =>
  concordancelaw10_speaks_g4 K ds t51_2 t54_3 w) w) (
  concordancelaw10_speaks_g4 K ds t51_2 undef w)) w

theorem concordancelaw10_speaks_g3_eq (K : Value → World → Prop) : opsG (op1W Pg) (rOps (cL (cR (cR (cR (cR (cR (cR (cR (cR (cR concordancelaw10_speaks_body))))))))))).toList ((groups (rOps (cL (cR (cR (cR (cR (cR (cR (cR (cR (cR concordancelaw10_speaks_body))))))))))).toList).drop 6) 15 (W Pg (cR (cR (cR (cR (cR (cR (cR (cR (cR (cR concordancelaw10_speaks_body)))))))))) false (retQ Pg [.tmp 0] K)) = (fun s w => concordancelaw10_speaks_g3 K s.ds (s.f 5) (s.f 48) (s.f 50) w) :=
  Eq.trans (eqPlain (eqGrd (concordancelaw10_speaks_g4_eq K))) (by kernel_rfl)

def concordancelaw10_speaks_g2 (K : Value → World → Prop) (ds : List Deferred) (x5 : Value) (x43 : Value) (x46 : Value) (w : World) : Prop :=
  pickV x43 x46 (.bool false) (fun t47_4 w =>
  gcond t47_4 true (
  call Pg F.pool_Pool_Has [x5, (.int .i64 2)] (fun t50_5 w =>
  concordancelaw10_speaks_g3 K ds x5 t47_4 t50_5 w) w) (
  concordancelaw10_speaks_g3 K ds x5 t47_4 undef w)) w

theorem concordancelaw10_speaks_g2_eq (K : Value → World → Prop) : opsG (op1W Pg) (rOps (cL (cR (cR (cR (cR (cR (cR (cR (cR (cR concordancelaw10_speaks_body))))))))))).toList ((groups (rOps (cL (cR (cR (cR (cR (cR (cR (cR (cR (cR concordancelaw10_speaks_body))))))))))).toList).drop 4) 11 (W Pg (cR (cR (cR (cR (cR (cR (cR (cR (cR (cR concordancelaw10_speaks_body)))))))))) false (retQ Pg [.tmp 0] K)) = (fun s w => concordancelaw10_speaks_g2 K s.ds (s.f 5) (s.f 43) (s.f 46) w) :=
  Eq.trans (eqPlain (eqGrd (concordancelaw10_speaks_g3_eq K))) (by kernel_rfl)

def concordancelaw10_speaks_g1 (K : Value → World → Prop) (ds : List Deferred) (x5 : Value) (x38 : Value) (x41 : Value) (w : World) : Prop :=
  pickV x38 x41 (.bool false) (fun t42_6 w =>
  gcond t42_6 true (
  call Pg F.pool_Pool_Has [x5, (.int .i64 1)] (fun t45_7 w =>
  run Pg (Op.unary .not t45_7) (fun t46_8 w =>
  concordancelaw10_speaks_g2 K ds x5 t42_6 t46_8 w) w) w) (
  concordancelaw10_speaks_g2 K ds x5 t42_6 undef w)) w

theorem concordancelaw10_speaks_g1_eq (K : Value → World → Prop) : opsG (op1W Pg) (rOps (cL (cR (cR (cR (cR (cR (cR (cR (cR (cR concordancelaw10_speaks_body))))))))))).toList ((groups (rOps (cL (cR (cR (cR (cR (cR (cR (cR (cR (cR concordancelaw10_speaks_body))))))))))).toList).drop 2) 6 (W Pg (cR (cR (cR (cR (cR (cR (cR (cR (cR (cR concordancelaw10_speaks_body)))))))))) false (retQ Pg [.tmp 0] K)) = (fun s w => concordancelaw10_speaks_g1 K s.ds (s.f 5) (s.f 38) (s.f 41) w) :=
  Eq.trans (eqPlain (eqGrd (concordancelaw10_speaks_g2_eq K))) (by kernel_rfl)

def concordancelaw10_speaks (K : Value → World → Prop) (ds : List Deferred) (w : World) : Prop :=
  call Pg F.device_New [(.int .i64 40)] (fun t10_9 w =>
  run Pg (Instr.extract t10_9 0) (fun t11_10 w =>
  run Pg (Instr.extract t10_9 1) (fun t12_11 w =>
  call Pg F.twin_New [t11_10, (.int .i64 0), (.int .i64 2), (.int .i64 10), (.int .i64 8)] (fun t15_12 w =>
  run Pg (Instr.extract t15_12 0) (fun t16_13 w =>
  run Pg (Instr.extract t15_12 1) (fun t17_14 w =>
  call Pg F.pool_New [t16_13, (.int .i64 2), (.func (.func 32) #[] #[])] (fun t20_15 w =>
  run Pg (Instr.extract t20_15 0) (fun t21_16 w =>
  run Pg (Instr.extract t20_15 1) (fun t22_17 w =>
  run Pg (binS .neq 25 true t22_17 (.int .i64 0)) (fun t24_18 w =>
  cnd t24_18 (
  leaveW Pg ds (fun w => K (.bool false) w) w) (
  call Pg F.pool_Pool_Pin [t21_16, (.int .i64 1)] (fun t26_19 w =>
  call Pg F.pool_Pool_Pin [t21_16, (.int .i64 2)] (fun t28_20 w =>
  call Pg F.pool_Pool_Unpin [t21_16, (.int .i64 1)] (fun t30_21 w =>
  call Pg F.pool_Pool_Pin [t21_16, (.int .i64 3)] (fun t33_22 w =>
  run Pg (Instr.extract t33_22 0) (fun t34_23 w =>
  run Pg (Instr.extract t33_22 1) (fun t35_24 w =>
  run Pg (binS .eql 25 true t35_24 (.int .i64 0)) (fun t37_25 w =>
  gcond t37_25 true (
  run Pg (Builtin.len_ #[9] 3 #[t34_23]) (fun t40_26 w =>
  run Pg (binS .eql 3 true t40_26 (.int .i64 512)) (fun t41_27 w =>
  concordancelaw10_speaks_g1 K ds t21_16 t37_25 t41_27 w) w) w) (
  concordancelaw10_speaks_g1 K ds t21_16 t37_25 undef w)) w) w) w) w) w) w) w)) w) w) w) w) w) w) w) w) w) w

theorem concordancelaw10_speaks_eq (K : Value → World → Prop) : W Pg concordancelaw10_speaks_body false (retQ Pg [.tmp 0] K) = (fun s w => concordancelaw10_speaks K s.ds  w) :=
  Eq.trans (eqSeq (eqSeq (eqSeq (eqSeq (eqSeq (eqSeq (eqSeq (eqSeq (eqSeq (eqSeqL (eqReg (rd := false) (id := 10) (ops := rOps (cL (cR (cR (cR (cR (cR (cR (cR (cR (cR concordancelaw10_speaks_body))))))))))) (by kernel_rfl) (eqPlain (eqGrd (concordancelaw10_speaks_g1_eq K)))))))))))))) (by kernel_rfl)

theorem concordancelaw10_speaks_ok : FnOk Pg F.concordancelaw10_speaks Go.Proofs.Tryz.f7 concordancelaw10_speaks_body 0 := ⟨Go.Proofs.Tryz.func7, by kernel_rfl, by kernel_rfl, by kernel_rfl, by kernel_rfl, by kernel_rfl⟩

theorem concordancelaw10_speaks_callS {K : Value → World → Prop} {w : World} (h : concordancelaw10_speaks K []  w) : callS Pg F.concordancelaw10_speaks [] K w :=
  call_of_W concordancelaw10_speaks_ok (Eq.mpr (congrFun (congrFun (concordancelaw10_speaks_eq K) ⟨argFr [], []⟩) w) h)

theorem concordancelaw10_speaks_call {K : Value → World → Prop} {w : World} (h : concordancelaw10_speaks K []  w) : call Pg F.concordancelaw10_speaks [] K w := .inl (concordancelaw10_speaks_callS h)

/-- concordance/concordancelaw10.PoolPins$1 -/
noncomputable def concordancelaw10_PoolPins_c1_body : Code := (Go.Proofs.Tryz.f11.body).getD .skip

def concordancelaw10_PoolPins_c1 (K : Value → World → Prop) (ds : List Deferred) (w : World) : Prop :=
  leaveW Pg ds (fun w => K (.int .i64 0) w) w

theorem concordancelaw10_PoolPins_c1_eq (K : Value → World → Prop) : W Pg concordancelaw10_PoolPins_c1_body false (retQ Pg [.tmp 2] K) = (fun s w => concordancelaw10_PoolPins_c1 K s.ds  w) :=
  by kernel_rfl

theorem concordancelaw10_PoolPins_c1_ok : FnOk Pg F.concordancelaw10_PoolPins_c1 Go.Proofs.Tryz.f11 concordancelaw10_PoolPins_c1_body 1 := ⟨Go.Proofs.Tryz.func11, by kernel_rfl, by kernel_rfl, by kernel_rfl, by kernel_rfl, by kernel_rfl⟩

theorem concordancelaw10_PoolPins_c1_callS {K : Value → World → Prop} {x0 : Value} {w : World} (h : concordancelaw10_PoolPins_c1 K []  w) : callS Pg F.concordancelaw10_PoolPins_c1 [x0] K w :=
  call_of_W concordancelaw10_PoolPins_c1_ok (Eq.mpr (congrFun (congrFun (concordancelaw10_PoolPins_c1_eq K) ⟨argFr [x0], []⟩) w) h)

theorem concordancelaw10_PoolPins_c1_call {K : Value → World → Prop} {x0 : Value} {w : World} (h : concordancelaw10_PoolPins_c1 K []  w) : call Pg F.concordancelaw10_PoolPins_c1 [x0] K w := .inl (concordancelaw10_PoolPins_c1_callS h)

/-- concordance/concordancelaw10.speaks$1 -/
noncomputable def concordancelaw10_speaks_c1_body : Code := (Go.Proofs.Tryz.f32.body).getD .skip

def concordancelaw10_speaks_c1 (K : Value → World → Prop) (ds : List Deferred) (w : World) : Prop :=
  leaveW Pg ds (fun w => K (.int .i64 0) w) w

theorem concordancelaw10_speaks_c1_eq (K : Value → World → Prop) : W Pg concordancelaw10_speaks_c1_body false (retQ Pg [.tmp 2] K) = (fun s w => concordancelaw10_speaks_c1 K s.ds  w) :=
  by kernel_rfl

theorem concordancelaw10_speaks_c1_ok : FnOk Pg F.concordancelaw10_speaks_c1 Go.Proofs.Tryz.f32 concordancelaw10_speaks_c1_body 1 := ⟨Go.Proofs.Tryz.func32, by kernel_rfl, by kernel_rfl, by kernel_rfl, by kernel_rfl, by kernel_rfl⟩

theorem concordancelaw10_speaks_c1_callS {K : Value → World → Prop} {x0 : Value} {w : World} (h : concordancelaw10_speaks_c1 K []  w) : callS Pg F.concordancelaw10_speaks_c1 [x0] K w :=
  call_of_W concordancelaw10_speaks_c1_ok (Eq.mpr (congrFun (congrFun (concordancelaw10_speaks_c1_eq K) ⟨argFr [x0], []⟩) w) h)

theorem concordancelaw10_speaks_c1_call {K : Value → World → Prop} {x0 : Value} {w : World} (h : concordancelaw10_speaks_c1 K []  w) : call Pg F.concordancelaw10_speaks_c1 [x0] K w := .inl (concordancelaw10_speaks_c1_callS h)

end Go.Sx
end

section
/- Pools whose pages are clean; what the statements of layer 10 begin with. -/
set_option linter.unusedVariables false
set_option linter.unusedSimpArgs false
set_option maxRecDepth 100000
namespace Go.Sx
open Go Go.RowKit
variable {K : Value → World → Prop} {w : World}

/-- A log that takes all. -/
def okLog (f : FuncId) (h : ∀ x (K : Value → World → Prop) w, K (int 0) w → call Pg f [x] K w) : LogE := {
  τ := Unit
  J _ E _ := ∀ k, ¬ E k
  fl := .func (.func f) #[] #[]
  f _ _ := ((), 0)
  isFn := ⟨_, _, _, rfl⟩
  live h hk := absurd hk (h _)
  no0 h := h 0
  keep h _ _ := h
  call := by
    intro t E w n K hJ k
    exact h _ _ _ (k w E hJ .refl) }

/-! ### Pin, of clean pools -/
section
variable {e : PEnv} {s : e.σ} {p : PS} {n : Int}
theorem ppin_hit {f : FrT} (h : fget p.held n = some f) : ppin e s p n = (s, puse p n f, f.bytes, 0) := by unfold ppin; rw [h]
theorem ppin_room {Z : Text} (h : fget p.held n = none) (hl : (p.held.length : Int) < p.frames) (hr : e.rd s n = (Z, 0)) (hZ : WholeT Z) :
    ppin e s p n = (s, puse { p with held := fins p.held n ⟨Z, 0, false⟩ } n ⟨Z, 0, false⟩, Z, 0) := by
  unfold ppin pspace
  rw [h, if_pos hl]
  simp [hr, hZ]
theorem ppin_swap {Z : Text} {v : Int} {f : FrT} (h : fget p.held n = none) (hl : ¬ (p.held.length : Int) < p.frames) (hv : pvictim p = some v) (hf : fget p.held v = some f) (hd : f.dirty = false) (hr : e.rd s n = (Z, 0)) (hZ : WholeT Z) :
    ppin e s p n = (s, puse { p with held := fins (fdel p.held v) n ⟨Z, 0, false⟩, used := p.used.erase v } n ⟨Z, 0, false⟩, Z, 0) := by
  unfold ppin pspace
  rw [h, if_neg hl, hv]
  simp [pout, hf, hd, hr, hZ]
theorem ppin_full (h : fget p.held n = none) (hl : ¬ (p.held.length : Int) < p.frames) (hv : pvictim p = none) : ppin e s p n = (s, p, [], 10) := by
  unfold ppin pspace
  rw [h, if_neg hl, hv]
  simp
theorem pevict_clean {f : FrT} (h : fget p.held n = some f) (h0 : ¬ 0 < f.pins) (hd : f.dirty = false) : pevict e s p n = (s, { p with held := fdel p.held n, used := p.used.erase n }, 0) := by
  unfold pevict pout
  rw [h]
  simp [h0, hd, h]
theorem pevict_pinned {f : FrT} (h : fget p.held n = some f) (h0 : 0 < f.pins) : pevict e s p n = (s, p, 10) := by
  unfold pevict
  rw [h]
  simp [h0]
theorem punpin_at {f : FrT} (h : fget p.held n = some f) (h0 : ¬ f.pins = 0) : punpin p n = ({ p with held := fset p.held n { f with pins := f.pins - 1 } }, 0) := by
  unfold punpin; rw [h]; simp [h0]
theorem punpin_no {f : FrT} (h : fget p.held n = some f) (h0 : f.pins = 0) : punpin p n = (p, 17) := by
  unfold punpin; rw [h]; simp [h0]
end

/-- one that isn't pinned is found, if there is one. -/
theorem pvictim_some {p : PS} (hw : p.Wf) {n : Int} {f : FrT} (h : fget p.held n = some f) (h0 : f.pins = 0) : ∃ v g, pvictim p = some v ∧ fget p.held v = some g ∧ g.pins = 0 := by
  cases hv : pvictim p with
  | some v =>
    unfold pvictim at hv
    have := List.find?_some hv
    unfold free1P at this
    cases hg : fget p.held v with
    | none => rw [hg] at this; cases this
    | some g => rw [hg] at this; exact ⟨v, g, rfl, hg, by simpa using this⟩
  | none =>
    unfold pvictim at hv
    rw [List.find?_eq_none] at hv
    have hm : n ∈ p.used := (hw.same n).2 (by rw [h]; rfl)
    have := hv n hm
    unfold free1P at this
    rw [h] at this
    simp [h0] at this
theorem pvictim_none {p : PS} (h : ∀ n f, fget p.held n = some f → f.pins ≠ 0) : pvictim p = none := by
  unfold pvictim
  rw [List.find?_eq_none]
  intro n _
  unfold free1P
  cases hg : fget p.held n with
  | none => simp
  | some f => simpa using h n f hg

/-- A page of noughts. -/
def Z512 : Text := List.replicate 512 0
theorem Z512_whole : WholeT Z512 := ⟨by simp [Z512], .inl (fun b hb => (List.mem_replicate.1 hb).2)⟩

def dev0 (n : Int) : Dev := ⟨n, fun _ => none, [], false, 0, [], 0⟩
theorem dev0_two (n i : Int) : (dev0 n).two' i = (Z512, 0) := by
  unfold Dev.two' Dev.two Dev.read dev0
  simp [Z512]
theorem dev0_rest (n : Int) : Rest (dev0 n) n := ⟨by simp [dev0], fun _ => rfl, ⟨(fun i t h => by cases h), (fun x hx => by cases hx)⟩, by simp [dev0], rfl⟩

/-- the statements' area -/
def area10 : Area := ⟨0, 2, 10, 8⟩
theorem area10_ok : area10.Ok 40 := ⟨by decide, by decide, by decide, by decide, by decide, by decide, by decide, by decide, .inr (by decide)⟩

abbrev env10 (L : LogE) (av dv : Value) (hp : ∃ ab, av = .pointer (some ab)) : PEnv := areaEnv L av dv area10 40 area10_ok (by decide) hp

/-- A device, an area. -/
theorem begin10 {K : Value → Value → World → Prop} (hg : Glob w)
    (k : ∀ w' av dv E, (∃ ab, av = .pointer (some ab)) → TwinI w' av dv area10 (dev0 40) E → Glob w' → (∀ k, E k → w.heap.size ≤ k) → Qt w w' → K dv av w') :
    call Pg F.device_New [(.int .i64 40)] (fun t25 w => run Pg (Instr.extract t25 0) (fun t26 w => run Pg (Instr.extract t25 1) (fun t27 w =>
      call Pg F.twin_New [t26, (.int .i64 0), (.int .i64 2), (.int .i64 10), (.int .i64 8)] (fun t30 w => run Pg (Instr.extract t30 0) (fun t31 w => run Pg (Instr.extract t30 1) (fun t32 w =>
        K t26 t31 w) w) w) w) w) w) w := by
  refine device_New_c (by decide) (by decide) (fun b m w1 q1 hm hd hb => ?_)
  refine run_i (s_extract rfl) ?_
  refine run_i (s_extract rfl) ?_
  have hdv : IsDev w1 (.pointer (some ⟨b, 0, none⟩)) m (dev0 40) := ⟨b, _, _, rfl, hd⟩
  refine twin_New_c (a := area10) hdv (by decide) area10_ok (fun av w2 q2 har hfr => ?_)
  obtain ⟨ab, rfl, hab⟩ := har
  refine run_i (s_extract rfl) ?_
  refine run_i (s_extract rfl) ?_
  have hd2 := hd.qt q2
  have hs1 := q1.size
  have hs2 := q2.size
  have hfa := hfr _ rfl
  simp only at hfa
  have lb := lt_of hd.at_
  have lm : m < w1.heap.size := by obtain ⟨es, c, h, _⟩ := hd.map; exact lt_of h
  have hEd : ∀ k, devX b m (.slice none 0 0) (.slice none 0 0) k → w.heap.size ≤ k ∧ k < w1.heap.size := by
    rintro k (rfl | rfl | h | h)
    · exact ⟨hb, lb⟩
    · exact ⟨hm, lm⟩
    · cases h
    · cases h
  have hT : TwinI w2 (.pointer (some ⟨ab, 0, none⟩)) (.pointer (some ⟨b, 0, none⟩)) area10 (dev0 40) (fun k => k = ab ∨ devX b m (.slice none 0 0) (.slice none 0 0) k) :=
    ⟨ab, _, rfl, hab, ⟨b, m, _, _, rfl, hd2, rfl⟩, fun h => by have := hEd _ h; omega, rfl⟩
  refine k w2 _ _ _ ⟨_, rfl⟩ hT ((hg.qt q1).qt q2) (fun k hk => ?_) (q1.trans q2)
  rcases hk with h | h
  · omega
  · exact (hEd _ h).1

/-- with a log that takes all -/
theorem okEnv {f : FuncId} (h : ∀ x (K : Value → World → Prop) w, K (int 0) w → call Pg f [x] K w) {av dv : Value} (hp : ∃ ab, av = .pointer (some ab)) {d : Dev} {E : Cov}
    (hT : TwinI w av dv area10 d E) (hR : Rest d 40) (h0 : ¬ E 0) : (env10 (okLog f h) av dv hp).I (d, ()) (fun k => E k ∨ False) w :=
  ⟨_, _, hT, hR, fun _ h => h, fun k _ h => h, h0, rfl⟩
end Go.Sx
end

section
/- Pools whose pages are clean: Pin, Unpin. -/
set_option linter.unusedVariables false
set_option linter.unusedSimpArgs false
set_option maxRecDepth 100000
namespace Go.Sx
open Go Go.RowKit

theorem and_le (a : Int) {m : Int} (h0 : 0 ≤ m) (h1 : m < 2 ^ 62) : 0 ≤ bitv (fun _ x y => x &&& y) .i64 a m ∧ bitv (fun _ x y => x &&& y) .i64 a m ≤ m := by
  unfold bitv
  have e : (BitVec.ofInt IntKind.i64.bits m).toNat = m.toNat := by
    show (BitVec.ofInt 64 m).toNat = m.toNat
    rw [BitVec.toNat_ofInt]
    have : m % ((2 ^ 64 : Nat) : Int) = m := Int.emod_eq_of_lt h0 (by norm_cast; omega)
    rw [this]
  have e2 : (BitVec.ofInt IntKind.i64.bits a &&& BitVec.ofInt IntKind.i64.bits m).toNat ≤ m.toNat := by
    rw [BitVec.toNat_and, e]; exact Nat.and_le_right
  generalize (BitVec.ofInt IntKind.i64.bits a &&& BitVec.ofInt IntKind.i64.bits m).toNat = x at e2
  have hx : (x : Int) ≤ m := by omega
  rw [wrapI (by omega) (by omega)]
  omega

/-- All that is held is clean, each frame pinned once at most. -/
structure Cln (F : Int) (p : PS) : Prop where
  fr : p.frames = F
  wf : p.Wf
  len : (p.held.length : Int) ≤ F
  pg : ∀ n f, fget p.held n = some f → 0 ≤ n ∧ n < 8 ∧ f.bytes = Z512 ∧ f.dirty = false ∧ 0 ≤ f.pins ∧ f.pins ≤ 1

theorem Cln.ok {F : Int} {p : PS} (h : Cln F p) : p.Ok 8 1 := by
  refine ⟨fun n hn => (h.wf.same n).1 hn, fun x hx => ?_, fun x hx => ?_, h.wf.sorted, h.wf.nodup⟩
  · exact (h.pg _ _ (fget_of_mem h.wf.sorted hx)).2.2.2.2
  · have := h.pg _ _ (fget_of_mem h.wf.sorted hx)
    exact ⟨this.1, this.2.1, by rw [this.2.2.1]; exact Z512_whole⟩
theorem Cln.few {F : Int} {p : PS} (h : Cln F p) (hF : F ≤ 64) : p.Few := by
  have := h.len
  exact ⟨by omega, by rw [h.wf.len]; omega⟩

/-- of those that are held, what isn't pinned. -/
theorem cl_two {p : PS} (hw : p.Wf) (h2 : 2 ≤ p.held.length) (n : Int) : ∃ m f, fget p.held m = some f ∧ m ≠ n := by
  obtain ⟨held, hh⟩ : ∃ l, l = p.held := ⟨_, rfl⟩
  have hs := hw.sorted
  rw [← hh] at h2 hs ⊢
  match held, h2 with
  | x :: y :: l, _ =>
    have hlt : x.1 < y.1 := (List.pairwise_cons.1 hs).1 y (by simp)
    have hx := fget_of_mem hs (x := x) (by simp)
    have hy := fget_of_mem hs (x := y) (by simp)
    by_cases e : x.1 = n
    · exact ⟨_, _, hy, by omega⟩
    · exact ⟨_, _, hx, e⟩
theorem cl_one {p : PS} (hw : p.Wf) (h2 : p.held.length ≤ 1) {n m : Int} {f : FrT} (h : fget p.held n = some f) (hm : m ≠ n) : fget p.held m = none := by
  cases hg : fget p.held m with
  | none => rfl
  | some g =>
    have a := fget_mem h
    have b := fget_mem hg
    obtain ⟨held, hh⟩ : ∃ l, l = p.held := ⟨_, rfl⟩
    rw [← hh] at h2 a b
    match held, h2 with
    | [], _ => cases a
    | [x], _ =>
      simp at a b
      rw [← a] at b
      exact absurd (congrArg Prod.fst b) hm

/-- Pin takes it. -/
theorem cl_pin {e : PEnv} {s : e.σ} {p : PS} {F n : Int} (h : Cln F p) (hr : e.rd s n = (Z512, 0)) (h0 : 0 ≤ n) (h1 : n < 8) (hn : ∀ f, fget p.held n = some f → f.pins = 0)
    (hroom : (p.held.length : Int) < F ∨ (∃ m f, fget p.held m = some f ∧ f.pins = 0)) :
    ∃ p', ppin e s p n = (s, p', Z512, 0) ∧ Cln F p' ∧ (∃ f, fget p'.held n = some f ∧ f.pins = 1) ∧
      ∀ m, m ≠ n → fget p'.held m = fget p.held m ∨ (fget p'.held m = none ∧ ∃ f, fget p.held m = some f ∧ f.pins = 0) := by
  cases hg : fget p.held n with
  | some f =>
    have hf := h.pg _ _ hg
    have hp := hn _ hg
    refine ⟨puse p n f, by rw [ppin_hit hg, hf.2.2.1], ⟨h.fr, h.wf.use (by rw [hg]; rfl), by simp only [puse, fset_len]; exact h.len, fun m g hm => ?_⟩, ⟨{ f with pins := f.pins + 1 }, ?_, ?_⟩, fun m hm => .inl ?_⟩
    · simp only [puse, fget_fset] at hm
      split at hm
      · rename_i hmn
        rw [hg] at hm
        simp at hm
        subst hm hmn
        exact ⟨h0, h1, hf.2.2.1, hf.2.2.2.1, by simp only; omega, by simp only; omega⟩
      · exact h.pg _ _ hm
    · simp [puse, fget_fset, hg]
    · simp only; omega
    · simp [puse, fget_fset, hm]
  | none =>
    by_cases hl : (p.held.length : Int) < p.frames
    · have hl' := hl
      rw [h.fr] at hl'
      refine ⟨_, ppin_room hg hl hr Z512_whole, ⟨h.fr, h.wf.ins hg, by simp only [puse, fset_len, fins_len hg]; omega, fun m g hm => ?_⟩, ⟨⟨Z512, 1, false⟩, ?_, rfl⟩, fun m hm => .inl ?_⟩
      · simp only [puse, fget_fset, fget_fins h.wf.sorted hg] at hm
        split at hm
        · rename_i hmn
          simp at hm
          subst hm hmn
          exact ⟨h0, h1, rfl, rfl, by simp, by simp⟩
        · exact h.pg _ _ hm
      · simp [puse, fget_fset, fget_fins h.wf.sorted hg]
      · simp [puse, fget_fset, fget_fins h.wf.sorted hg, hm]
    · obtain ⟨m0, f0, hm0, hp0⟩ : ∃ m f, fget p.held m = some f ∧ f.pins = 0 := by
        rcases hroom with hr | hr
        · rw [h.fr] at hl; exact absurd hr hl
        · exact hr
      obtain ⟨v, g, hv, hvg, hvp⟩ := pvictim_some h.wf hm0 hp0
      have hvc := h.pg _ _ hvg
      have hw' := h.wf.del v
      have hg' : fget (fdel p.held v) n = none := by
        rw [fget_fdel]; split
        · rfl
        · exact hg
      have hl2 := fdel_len h.wf.sorted (n := v) (by rw [hvg]; rfl)
      have hl3 := h.len
      have hw3 : (puse { p with held := fins (fdel p.held v) n ⟨Z512, 0, false⟩, used := p.used.erase v } n ⟨Z512, 0, false⟩).Wf := hw'.ins (p := { p with held := fdel p.held v, used := p.used.erase v }) hg'
      refine ⟨_, ppin_swap hg hl hv hvg hvc.2.2.2.1 hr Z512_whole, ⟨h.fr, hw3, by simp only [puse, fset_len, fins_len hg']; omega, fun m g hm => ?_⟩, ⟨⟨Z512, 1, false⟩, ?_, rfl⟩, fun m hm => ?_⟩
      · simp only [puse, fget_fset, fget_fins hw'.sorted hg', fget_fdel] at hm
        split at hm
        · rename_i hmn
          simp at hm
          subst hm hmn
          exact ⟨h0, h1, rfl, rfl, by simp, by simp⟩
        · split at hm
          · cases hm
          · exact h.pg _ _ hm
      · simp [puse, fget_fset, fget_fins hw'.sorted hg']
      · by_cases hmv : m = v
        · subst hmv
          exact .inr ⟨by simp [puse, fget_fset, fget_fins hw'.sorted hg', fget_fdel, hm], g, hvg, hvp⟩
        · exact .inl (by simp [puse, fget_fset, fget_fins hw'.sorted hg', fget_fdel, hm, hmv])

/-- Unpin lets it go. -/
theorem cl_unpin {p : PS} {F n : Int} {f : FrT} (h : Cln F p) (hg : fget p.held n = some f) (h1 : f.pins = 1) :
    ∃ p', punpin p n = (p', 0) ∧ Cln F p' ∧ p'.held = fset p.held n { f with pins := 0 } := by
  have hf := h.pg _ _ hg
  refine ⟨{ p with held := fset p.held n { f with pins := 0 } }, by rw [punpin_at hg (by omega), h1]; rfl, ⟨h.fr, h.wf.set (by rw [hg]; rfl), by simp only [fset_len]; exact h.len, fun m g hm => ?_⟩, rfl⟩
  simp only [fget_fset] at hm
  split at hm
  · rename_i hmn
    rw [hg] at hm
    simp at hm
    subst hm hmn
    exact ⟨hf.1, hf.2.1, hf.2.2.1, hf.2.2.2.1, by simp, by simp⟩
  · exact h.pg _ _ hm

/-- Page 0 is pinned, and no other. -/
structure PinsI (F : Int) (p : PS) : Prop extends Cln F p where
  zero : ∃ f, fget p.held 0 = some f ∧ f.pins = 1
  rest : ∀ n f, fget p.held n = some f → n ≠ 0 → f.pins = 0

theorem pins_step {e : PEnv} {s : e.σ} {p : PS} {F n : Int} (h : PinsI F p) (hF : 2 ≤ F) (hr : e.rd s n = (Z512, 0)) (h0 : 1 ≤ n) (h1 : n < 8) :
    ∃ p1 p2, ppin e s p n = (s, p1, Z512, 0) ∧ punpin p1 n = (p2, 0) ∧ Cln F p1 ∧ PinsI F p2 := by
  obtain ⟨f0, hf0, hp0⟩ := h.zero
  have hroom : (p.held.length : Int) < F ∨ (∃ m f, fget p.held m = some f ∧ f.pins = 0) := by
    by_cases hl : (p.held.length : Int) < F
    · exact .inl hl
    · obtain ⟨m, f, hm, hne⟩ := cl_two h.wf (by omega) 0
      exact .inr ⟨m, f, hm, h.rest _ _ hm hne⟩
  obtain ⟨p1, e1, c1, ⟨f1, hg1, hp1⟩, k1⟩ := cl_pin h.toCln hr (by omega) h1 (fun f hf => h.rest _ _ hf (by omega)) hroom
  obtain ⟨p2, e2, c2, k2⟩ := cl_unpin c1 hg1 hp1
  refine ⟨p1, p2, e1, e2, c1, { c2 with zero := ?_, rest := ?_ }⟩
  · refine ⟨f0, ?_, hp0⟩
    rw [k2, fget_fset, if_neg (by omega)]
    rcases k1 0 (by omega) with h | ⟨_, f, h, hp⟩
    · rw [h]; exact hf0
    · rw [hf0] at h; cases h; omega
  · intro m g hm hm0
    rw [k2, fget_fset] at hm
    split at hm
    · rw [hg1] at hm
      simp at hm
      subst hm; rfl
    · rename_i hmn
      rcases k1 m hmn with h2 | ⟨h2, _⟩
      · rw [h2] at hm; exact h.rest _ _ hm hm0
      · rw [h2] at hm; cases hm
theorem pins_full {e : PEnv} {s : e.σ} {p : PS} {n : Int} (h : PinsI 1 p) (h0 : 1 ≤ n) : ppin e s p n = (s, p, [], 10) := by
  obtain ⟨f0, hf0, hp0⟩ := h.zero
  have hl := h.len
  have hne : p.held.length ≠ 0 := by
    intro h
    have := fget_mem hf0
    rw [List.length_eq_zero_iff.1 h] at this
    cases this
  have hno : ∀ m, m ≠ 0 → fget p.held m = none := fun m hm => cl_one h.wf (by omega) hf0 hm
  refine ppin_full (hno n (by omega)) (by rw [h.fr]; omega) (pvictim_none fun m f hm => ?_)
  by_cases hm0 : m = 0
  · subst hm0; rw [hf0] at hm; cases hm; omega
  · rw [hno m hm0] at hm; cases hm
theorem pins_first {e : PEnv} {s : e.σ} {F : Int} (h1 : 1 ≤ F) (hr : e.rd s 0 = (Z512, 0)) : ∃ p, ppin e s ⟨F, [], []⟩ 0 = (s, p, Z512, 0) ∧ PinsI F p := by
  have c : Cln F ⟨F, [], []⟩ := ⟨rfl, ⟨List.Pairwise.nil, fun n => by simp [fget], List.nodup_nil⟩, by simp; omega, fun n f h => by simp [fget] at h⟩
  obtain ⟨p, e1, c1, z, k⟩ := cl_pin (e := e) (s := s) c hr (by omega) (by omega) (fun f h => by simp [fget] at h) (.inl (by simp; omega))
  refine ⟨p, e1, { c1 with zero := z, rest := fun m f hm hm0 => ?_ }⟩
  rcases k m hm0 with h | ⟨h, _⟩
  · rw [h] at hm; simp [fget] at hm
  · rw [h] at hm; cases hm
end Go.Sx
end

section
/- Statements of layer 10: what each begins with; PoolPins. -/
set_option linter.unusedVariables false
set_option linter.unusedSimpArgs false
set_option maxRecDepth 100000
namespace Go.Sx
open Go Go.RowKit
variable {K : Value → World → Prop} {w : World}

theorem Cln.ok8 {F : Int} {p : PS} {e : PEnv} (h : Cln F p) (he : e.pages = 8) : p.Ok e.pages 1 := by rw [he]; exact h.ok

/-! ### speaks -/
def fz : FrT := ⟨Z512, 0, false⟩
def fo : FrT := ⟨Z512, 1, false⟩
section
variable {e : PEnv} {s : e.σ}
theorem sp1 (hr : e.rd s 1 = (Z512, 0)) : ppin e s ⟨2, [], []⟩ 1 = (s, ⟨2, [(1, fo)], [1]⟩, Z512, 0) := by
  rw [ppin_room rfl (by decide) hr Z512_whole]; rfl
theorem sp2 (hr : e.rd s 2 = (Z512, 0)) : ppin e s ⟨2, [(1, fo)], [1]⟩ 2 = (s, ⟨2, [(1, fo), (2, fo)], [1, 2]⟩, Z512, 0) := by
  rw [ppin_room rfl (by decide) hr Z512_whole]; rfl
theorem sp3 : punpin ⟨2, [(1, fo), (2, fo)], [1, 2]⟩ 1 = (⟨2, [(1, fz), (2, fo)], [1, 2]⟩, 0) := by
  rw [punpin_at (f := fo) rfl (by decide)]; rfl
theorem sp4 (hr : e.rd s 3 = (Z512, 0)) : ppin e s ⟨2, [(1, fz), (2, fo)], [1, 2]⟩ 3 = (s, ⟨2, [(2, fo), (3, fo)], [2, 3]⟩, Z512, 0) := by
  rw [ppin_swap (v := 1) (f := fz) rfl (by decide) rfl rfl rfl hr Z512_whole]; rfl
theorem spWf {p : PS} (h : p.held.Pairwise fun a b => a.1 < b.1) (hu : p.used = p.held.map Prod.fst) : p.Wf := by
  refine ⟨h, fun n => ?_, ?_⟩
  · rw [hu, fget_isSome]; simp
  · rw [hu, List.nodup_iff_pairwise_ne, List.pairwise_map]; exact h.imp (fun h => by omega)
theorem spCl {p : PS} (h : p.held.Pairwise fun a b => a.1 < b.1) (hu : p.used = p.held.map Prod.fst) (hf : p.frames = 2) (hl : p.held.length ≤ 2) (hx : ∀ x ∈ p.held, 0 ≤ x.1 ∧ x.1 < 8 ∧ (x.2 = fz ∨ x.2 = fo)) : Cln 2 p := by
  refine ⟨hf, spWf h hu, by omega, fun n f hg => ?_⟩
  obtain ⟨a, b, c⟩ := hx _ (fget_mem hg)
  rcases c with rfl | rfl
  · exact ⟨a, b, rfl, rfl, by decide, by decide⟩
  · exact ⟨a, b, rfl, rfl, by decide, by decide⟩
end

/-- each log of the statements that takes all -/
theorem okS (x : Value) (K : Value → World → Prop) (w : World) (h : K (int 0) w) : call Pg F.concordancelaw10_speaks_c1 [x] K w := by
  refine concordancelaw10_speaks_c1_call ?_
  unfold concordancelaw10_speaks_c1
  refine lv_i ?_
  exact h
theorem okP (x : Value) (K : Value → World → Prop) (w : World) (h : K (int 0) w) : call Pg F.concordancelaw10_PoolPins_c1 [x] K w := by
  refine concordancelaw10_PoolPins_c1_call ?_
  unfold concordancelaw10_PoolPins_c1
  refine lv_i ?_
  exact h

/-- A device, an area, a pool with a log that takes all. -/
theorem begin10ok {f : FuncId} (h : ∀ x (K : Value → World → Prop) w, K (int 0) w → call Pg f [x] K w) {fr : Int} (h1 : 1 ≤ fr) (h2 : fr ≤ 64) (hg : Glob w)
    (k : ∀ w' pv E (e : PEnv) (s : e.σ), e.pages = 8 → (∀ n, e.rd s n = (Z512, 0)) → Sys e w' pv E s ⟨fr, [], []⟩ → (∀ k, E k → w.heap.size ≤ k) → Qt w w' → K (.tuple #[pv, int 0]) w') :
    call Pg F.device_New [(.int .i64 40)] (fun t25 w => run Pg (Instr.extract t25 0) (fun t26 w => run Pg (Instr.extract t25 1) (fun t27 w =>
      call Pg F.twin_New [t26, (.int .i64 0), (.int .i64 2), (.int .i64 10), (.int .i64 8)] (fun t30 w => run Pg (Instr.extract t30 0) (fun t31 w => run Pg (Instr.extract t30 1) (fun t32 w =>
        call Pg F.pool_New [t31, int fr, .func (.func f) #[] #[]] K w) w) w) w) w) w) w := by
  refine begin10 hg (fun w1 av dv E1 hp hT hg1 hE1 q1 => ?_)
  have hI := okEnv h hp hT (dev0_rest 40) (fun h => by have := hE1 _ h; have := hg.lt; omega)
  refine @New_c _ w1 (env10 (okLog _ h) av dv hp) (dev0 40, ()) _ fr hI hg1 h1 h2 (fun pv w2 E2 hS q2 hE2 => ?_)
  refine k w2 pv E2 (env10 (okLog _ h) av dv hp) (dev0 40, ()) rfl (fun n => dev0_two _ _) hS (fun k hk => ?_) (q1.trans q2)
  have := q1.size
  rcases hE2 k hk with (h | h) | h
  · exact hE1 k h
  · exact h.elim
  · omega

theorem speaks10_c (hg : Glob w) (k : ∀ w', Qt w w' → K (.bool true) w') : call Pg F.concordancelaw10_speaks [] K w := by
  refine concordancelaw10_speaks_call ?_
  unfold concordancelaw10_speaks
  refine begin10ok okS (by decide) (by decide) hg (fun w2 pv E2 e s he hr hS hE2 q2 => ?_)
  refine run_i (s_extract rfl) ?_
  refine run_i (s_extract rfl) ?_
  refine run_i (p_neqF (by omega) _) ?_
  refine cn_fi ?_
  have c1 : Cln 2 ⟨2, [], []⟩ := spCl .nil rfl rfl (by decide) (fun x h => by cases h)
  have c2 : Cln 2 ⟨2, [(1, fo)], [1]⟩ := spCl (by simp) rfl rfl (by decide) (fun x h => by simp at h; subst h; exact ⟨by decide, by decide, .inr rfl⟩)
  have c3 : Cln 2 ⟨2, [(1, fo), (2, fo)], [1, 2]⟩ := spCl (by simp) rfl rfl (by decide) (fun x h => by simp at h; rcases h with rfl | rfl <;> exact ⟨by decide, by decide, .inr rfl⟩)
  have c4 : Cln 2 ⟨2, [(1, fz), (2, fo)], [1, 2]⟩ := spCl (by simp) rfl rfl (by decide) (fun x h => by simp at h; rcases h with rfl | rfl; exact ⟨by decide, by decide, .inl rfl⟩; exact ⟨by decide, by decide, .inr rfl⟩)
  refine Pin_c hS (c1.ok8 he) (by decide) (c1.few (by decide)) (by decide) (by omega) (fun w3 E3 hS m3 => ?_)
  rw [sp1 (hr 1)] at hS
  refine Pin_c hS (c2.ok8 he) (by decide) (c2.few (by decide)) (by decide) (by omega) (fun w4 E4 hS m4 => ?_)
  rw [sp2 (hr 2)] at hS
  refine Unpin_c hS (c3.ok8 he) (by decide) (fun w5 E5 hS m5 => ?_)
  rw [sp3] at hS
  refine Pin_c hS (c4.ok8 he) (by decide) (c4.few (by decide)) (by decide) (by omega) (fun w6 E6 hS m6 => ?_)
  rw [sp4 (hr 3)] at hS ⊢
  simp only at hS ⊢
  have q6 : Qt w w6 := (m3.trans (m4.trans (m5.trans m6))).done q2 hE2
  have hZ : Z512.length = 512 := by simp [Z512]
  refine run_i (s_extract rfl) ?_
  refine run_i (s_extract rfl) ?_
  refine run_i (p_eqlT (by omega) _) ?_
  refine gc_tti ?_
  refine run_i s_len_str ?_
  refine run_i (p_eqlT (by omega) _) ?_
  unfold concordancelaw10_speaks_g1
  refine pk_ti ?_
  refine gc_tti ?_
  refine Has_c hS (fun w7 q7 => ?_)
  have e1 : (fget [(2, fo), (3, fo)] 1).isSome = false := rfl
  have e2 : (fget [(2, fo), (3, fo)] 2).isSome = true := rfl
  have e3 : (fget [(2, fo), (3, fo)] 3).isSome = true := rfl
  simp only [e1]
  have hS := hS.qt q7
  refine run_i (p_not _) ?_
  unfold concordancelaw10_speaks_g2
  refine pk_ti ?_
  refine gc_tti ?_
  refine Has_c hS (fun w8 q8 => ?_)
  simp only [e2]
  have hS := hS.qt q8
  unfold concordancelaw10_speaks_g3
  refine pk_ti ?_
  refine gc_tti ?_
  refine Has_c hS (fun w9 q9 => ?_)
  simp only [e3]
  unfold concordancelaw10_speaks_g4
  refine pk_ti ?_
  refine lv_i ?_
  exact k w9 (q6.trans (q7.trans (q8.trans q9)))

/-! ### PoolPins -/
theorem Mv.fresh {w w1 w2 : World} {E E2 : Cov} (m : Mv w1 E w2 E2) (q : Qt w w1) (hE : ∀ k, E k → w.heap.size ≤ k) : ∀ k, E2 k → w.heap.size ≤ k := fun k hk => (m.grow k hk).elim (hE k) (fun h => by have := q.size; omega)
theorem mod7 (x : Int) : 0 ≤ ((x.tmod 7 + 7).tmod 7) ∧ ((x.tmod 7 + 7).tmod 7) < 7 := by
  have h1 := Int.tmod_lt_of_pos x (show (0 : Int) < 7 by decide)
  have h2 : -7 < x.tmod 7 := by
    have := Int.tmod_lt_of_pos (-x) (show (0 : Int) < 7 by decide)
    rw [Int.neg_tmod] at this; omega
  rw [Int.tmod_eq_emod_of_nonneg (by omega)]
  omega
theorem pins_shut {e : PEnv} {s : e.σ} {p : PS} {fr : Int} (h : PinsI fr p) : ∃ p1 p2, punpin p 0 = (p1, 0) ∧ punpin p1 0 = (p1, 17) ∧ pevict e s p1 0 = (s, p2, 0) ∧ Cln fr p1 ∧ fget p2.held 0 = none := by
  obtain ⟨f0, hf0, hp0⟩ := h.zero
  obtain ⟨p1, e1, c1, k1⟩ := cl_unpin h.toCln hf0 hp0
  have hg : fget p1.held 0 = some { f0 with pins := 0 } := by rw [k1, fget_fset, if_pos rfl, hf0]; rfl
  have hd := (h.pg _ _ hf0).2.2.2.1
  refine ⟨p1, _, e1, punpin_no hg rfl, pevict_clean hg (by simp) hd, c1, ?_⟩
  simp only
  rw [fget_fdel, if_pos rfl]

set_option maxHeartbeats 1000000 in
theorem PoolPins_c {lv : Value} {l : List Int} {a : Int} (hg : Glob w) (hl : Ar w 1 lv l.length (icells l)) (k : ∀ w', Qt w w' → K (.bool true) w') : callS Pg F.concordancelaw10_PoolPins [lv, int a] K w := by
  refine concordancelaw10_PoolPins_callS ?_
  unfold concordancelaw10_PoolPins
  refine speaks10_c hg (fun w1 q1 => ?_)
  have ha := and_le a (m := 3) (by decide) (by decide)
  refine run_i (p_not _) ?_
  refine cn_fi ?_
  refine run_i (p_and _) ?_
  refine run_i (p_addI (by omega) (by omega) _) ?_
  obtain ⟨fr, hfr⟩ : ∃ fr, fr = 1 + bitv (fun _ x y => x &&& y) .i64 a 3 := ⟨_, rfl⟩
  rw [← hfr]
  refine begin10ok okP (by omega) (by omega) (hg.qt q1) (fun w2 pv E2 e s he hr hS hE2 q2 => ?_)
  refine run_i (s_extract rfl) ?_
  refine run_i (s_extract rfl) ?_
  have hE2' : ∀ k, E2 k → w.heap.size ≤ k := fun k hk => by have := hE2 k hk; have := q1.size; omega
  have c0 : Cln fr ⟨fr, [], []⟩ := ⟨rfl, spWf .nil rfl, by simp; omega, fun n f h => by simp [fget] at h⟩
  obtain ⟨p3, e3, c3⟩ := pins_first (e := e) (s := s) (F := fr) (by omega) (hr 0)
  refine Pin_c hS (c0.ok8 he) (by decide) (c0.few (by omega)) (by decide) (by omega) (fun w3 E3 hS m3 => ?_)
  rw [e3] at hS ⊢
  simp only at hS ⊢
  refine run_i (s_extract rfl) ?_
  refine run_i (s_extract rfl) ?_
  refine run_i (p_neqF (by omega) _) ?_
  refine cn_fi ?_
  refine Lp_inv (concordancelaw10_PoolPins_l5_mono K) (fun st w' => ∃ (i : Nat) (E : Cov) (p : PS), st = ([], lv, int fr, pv, int i) ∧ i ≤ l.length ∧ i ≤ 40 ∧ Sys e w' pv E s p ∧ PinsI fr p ∧ (∀ k, E k → w.heap.size ≤ k) ∧ Qt w w')
    (fun st _ => match st.2.2.2.2 with | .int _ k => (40 - k).toNat | _ => 0) ⟨0, E3, p3, rfl, by omega, by omega, hS, c3, m3.fresh (q1.trans q2) hE2', m3.done (q1.trans q2) hE2'⟩ ?_
  rintro st w' ⟨i, E, p, rfl, hil, hi40, hS, hp, hE, q⟩
  obtain ⟨sa, sc, rfl⟩ := hl.shape
  have out : ∀ {w' : World} {E : Cov} {p : PS}, Sys e w' pv E s p → PinsI fr p → (∀ k, E k → w.heap.size ≤ k) → Qt w w' → concordancelaw10_PoolPins_j1 K [] pv w' := by
    intro w' E p hS hp hE q
    obtain ⟨p1, p2, u1, u2, u3, u4, u5⟩ := pins_shut (e := e) (s := s) hp
    unfold concordancelaw10_PoolPins_j1
    refine Unpin_c hS (hp.toCln.ok8 he) (by decide) (fun w4 E4 hS m4 => ?_)
    rw [u1] at hS ⊢
    simp only at hS ⊢
    refine run_i (p_eqlT (by omega) _) ?_
    refine gc_tti ?_
    refine Unpin_c hS (u4.ok8 he) (by decide) (fun w5 E5 hS m5 => ?_)
    rw [u2] at hS ⊢
    simp only at hS ⊢
    refine run_i (p_eqlT (by omega) _) ?_
    unfold concordancelaw10_PoolPins_g2
    refine pk_ti ?_
    refine gc_tti ?_
    refine Evict_c hS (u4.ok8 he) (fun w6 E6 hS m6 => ?_)
    rw [u3] at hS ⊢
    simp only at hS ⊢
    refine run_i (p_eqlT (by omega) _) ?_
    unfold concordancelaw10_PoolPins_g3
    refine pk_ti ?_
    refine gc_tti ?_
    refine Has_c hS (fun w7 q7 => ?_)
    rw [u5]
    simp only [Option.isSome_none]
    refine run_i (p_not _) ?_
    unfold concordancelaw10_PoolPins_g4
    refine pk_ti ?_
    refine lv_i ?_
    exact k w7 (((m4.trans (m5.trans m6)).done q hE).trans q7)
  by_cases h1 : (i : Int) < l.length
  · by_cases h2 : (i : Int) < 40
    · unfold concordancelaw10_PoolPins_l5
      simp only
      refine run_i s_len_sl ?_
      refine run_i (p_lssT (by omega) _) ?_
      refine gc_tti ?_
      refine run_i (p_lssT (by omega) _) ?_
      unfold concordancelaw10_PoolPins_g15
      refine pk_ti ?_
      refine cn_ti ?_
      unfold concordancelaw10_PoolPins_j6
      have hi : i < l.length := by omega
      refine (hl.qt q).load hi (u := int l[i]) (by simp [icells, hi]) SliceC.get PlainC.get rfl ?_
      have hm := mod7 l[i]
      refine run_i (p_rem (by omega) _) ?_
      refine run_i (p_add _) ?_
      refine run_i (p_rem (by omega) _) ?_
      refine run_i (p_add _) ?_
      have hm0 : -7 < l[i].tmod 7 ∧ l[i].tmod 7 < 7 := by
        have h1 := Int.tmod_lt_of_pos l[i] (show (0 : Int) < 7 by decide)
        have := Int.tmod_lt_of_pos (-l[i]) (show (0 : Int) < 7 by decide)
        rw [Int.neg_tmod] at this; omega
      rw [wrapI (a := l[i].tmod 7 + 7) (by omega) (by omega), wrapI (by omega) (by omega)]
      obtain ⟨n, hn⟩ : ∃ n, n = 1 + (l[i].tmod 7 + 7).tmod 7 := ⟨_, rfl⟩
      rw [← hn]
      have next : ∀ {w5 : World} {E5 : Cov} {p5 : PS}, Sys e w5 pv E5 s p5 → PinsI fr p5 → (∀ k, E5 k → w.heap.size ≤ k) → Qt w w5 → concordancelaw10_PoolPins_j8 K (fun s' w' => (∃ (i : Nat) (E : Cov) (p : PS), s' = ([], Value.slice sa l.length sc, int fr, pv, int i) ∧ i ≤ l.length ∧ i ≤ 40 ∧ Sys e w' pv E s p ∧ PinsI fr p ∧ (∀ k, E k → w.heap.size ≤ k) ∧ Qt w w') ∧ (match s'.2.2.2.2 with | .int _ k => (40 - k).toNat | _ => 0) < (40 - (i : Int)).toNat) [] (.slice sa l.length sc) (int fr) pv (int i) w5 := by
        intro w5 E5 p5 hS hp hE q
        unfold concordancelaw10_PoolPins_j8
        refine Held_c hS (fun w6 va vd ha hd _ _ q6 => ?_)
        have hS := hS.qt q6
        obtain ⟨va1, va2, rfl⟩ := (Rd.of_own ha).shape
        obtain ⟨f0, hf0, hp0⟩ := hp.zero
        refine run_i (s_extract rfl) ?_
        refine run_i (s_extract rfl) ?_
        refine Has_c hS (fun w7 q7 => ?_)
        rw [hf0]
        simp only [Option.isSome_some]
        have hS := hS.qt q7
        have hlen := hp.len
        have hkl : (keysP p5.held).length = p5.held.length := by simp [keysP]
        refine run_i (p_not _) ?_
        refine gc_ffi ?_
        refine run_i s_len_sl ?_
        refine run_i (p_gtrF (by omega) _) ?_
        unfold concordancelaw10_PoolPins_g9
        refine pk_fi ?_
        refine gc_ffi ?_
        refine Evict_c hS (hp.toCln.ok8 he) (fun w8 E8 hS m8 => ?_)
        rw [pevict_pinned hf0 (by omega)] at hS ⊢
        simp only at hS ⊢
        refine run_i (p_neqF (by omega) _) ?_
        unfold concordancelaw10_PoolPins_g10
        refine pk_fi ?_
        refine cn_fi ?_
        refine run_i (p_addI (by omega) (by omega) _) ?_
        have q8 := q.trans (q6.trans q7)
        refine ⟨⟨i + 1, E8, p5, rfl, by omega, by omega, hS, hp, m8.fresh q8 hE, m8.done q8 hE⟩, ?_⟩
        simp only
        omega
      by_cases hf1 : fr = 1
      · have hp1 : PinsI 1 p := hf1 ▸ hp
        refine Pin_c hS (hp.toCln.ok8 he) (by decide) (hp.toCln.few (by omega)) (by omega) (by omega) (fun w3 E3 hS m3 => ?_)
        rw [pins_full hp1 (by omega)] at hS ⊢
        simp only at hS ⊢
        refine run_i (s_extract rfl) ?_
        refine run_i (s_extract rfl) ?_
        refine run_i (p_eqlF (by omega) _) ?_
        refine run_i (p_gtrF (by omega) _) ?_
        refine run_i s_bool_neq ?_
        refine gc_ffi ?_
        refine run_i (p_eqlT (by omega) _) ?_
        unfold concordancelaw10_PoolPins_g12
        refine gc_tti ?_
        refine run_i (p_neqF (by omega) _) ?_
        unfold concordancelaw10_PoolPins_g13
        refine gc_ffi ?_
        refine pk_ti ?_
        unfold concordancelaw10_PoolPins_g14
        refine pk_fi ?_
        refine cn_fi ?_
        unfold concordancelaw10_PoolPins_j7
        refine run_i (p_eqlF (by omega) _) ?_
        refine gc_fti ?_
        unfold concordancelaw10_PoolPins_g11
        refine pk_fi ?_
        refine cn_fi ?_
        exact next hS hp (m3.fresh q hE) (m3.done q hE)
      · obtain ⟨p1, p2, u1, u2, u3, u4⟩ := pins_step (e := e) (s := s) hp (by omega) (hr n) (by omega) (by omega)
        refine Pin_c hS (hp.toCln.ok8 he) (by decide) (hp.toCln.few (by omega)) (by omega) (by omega) (fun w3 E3 hS m3 => ?_)
        rw [u1] at hS ⊢
        simp only at hS ⊢
        refine run_i (s_extract rfl) ?_
        refine run_i (s_extract rfl) ?_
        refine run_i (p_eqlT (by omega) _) ?_
        refine run_i (p_gtrT (by omega) _) ?_
        refine run_i s_bool_neq ?_
        refine gc_ffi ?_
        refine run_i (p_eqlF (by omega) _) ?_
        unfold concordancelaw10_PoolPins_g12
        refine gc_fti ?_
        unfold concordancelaw10_PoolPins_g13
        refine gc_ffi ?_
        refine pk_fi ?_
        unfold concordancelaw10_PoolPins_g14
        refine pk_fi ?_
        refine cn_fi ?_
        unfold concordancelaw10_PoolPins_j7
        refine run_i (p_eqlT (by omega) _) ?_
        refine gc_tti ?_
        refine Unpin_c hS (u3.ok8 he) (by decide) (fun w4 E4 hS m4 => ?_)
        rw [u2] at hS ⊢
        simp only at hS ⊢
        refine run_i (p_neqF (by omega) _) ?_
        unfold concordancelaw10_PoolPins_g11
        refine pk_ti ?_
        refine cn_fi ?_
        exact next hS u4 ((m3.trans m4).fresh q hE) ((m3.trans m4).done q hE)
    · unfold concordancelaw10_PoolPins_l5
      simp only
      refine run_i s_len_sl ?_
      refine run_i (p_lssT (by omega) _) ?_
      refine gc_tti ?_
      refine run_i (p_lssF (by omega) _) ?_
      unfold concordancelaw10_PoolPins_g15
      refine pk_ti ?_
      refine cn_fi ?_
      exact out hS hp hE q
  · unfold concordancelaw10_PoolPins_l5
    simp only
    refine run_i s_len_sl ?_
    refine run_i (p_lssF (by omega) _) ?_
    refine gc_fti ?_
    unfold concordancelaw10_PoolPins_g15
    refine pk_fi ?_
    refine cn_fi ?_
    exact out hS hp hE q
end Go.Sx
end

section
set_option maxRecDepth 100000
set_option linter.unusedVariables false
namespace Go.Sx
open Go
/-- concordance/concordancelaw10.PoolRefuses -/
noncomputable def concordancelaw10_PoolRefuses_body : Code := (Go.Proofs.Tryz.f4.body).getD .skip

def concordancelaw10_PoolRefuses_g10 (K : Value → World → Prop) (ds : List Deferred) (x156 : Value) (x159 : Value) (w : World) : Prop :=
  pickV x156 x159 (.bool false) (fun t160_1 w =>
  leaveW Pg ds (fun w => K t160_1 w) w) w

theorem concordancelaw10_PoolRefuses_g10_eq (K : Value → World → Prop) : opsG (op1W Pg) (rOps (cL (cR (cR (cR (cR (cR (cR (cR (cR (cR (cR (cR (cR (cR (cR (cR concordancelaw10_PoolRefuses_body))))))))))))))))).toList ((groups (rOps (cL (cR (cR (cR (cR (cR (cR (cR (cR (cR (cR (cR (cR (cR (cR (cR concordancelaw10_PoolRefuses_body))))))))))))))))).toList).drop 18) 54 (W Pg (cR (cR (cR (cR (cR (cR (cR (cR (cR (cR (cR (cR (cR (cR (cR (cR concordancelaw10_PoolRefuses_body)))))))))))))))) false (retQ Pg [.tmp 6] K)) = (fun s w => concordancelaw10_PoolRefuses_g10 K s.ds (s.f 156) (s.f 159) w) :=
  by kernel_rfl

def concordancelaw10_PoolRefuses_g9 (K : Value → World → Prop) (ds : List Deferred) (x26 : Value) (x151 : Value) (x154 : Value) (w : World) : Prop :=
  pickV x151 x154 (.bool false) (fun t155_2 w =>
  gcond t155_2 true (
  run Pg (Builtin.len_ #[22] 3 #[x26]) (fun t158_3 w =>
  run Pg (binS .eql 3 true t158_3 (.int .i64 0)) (fun t159_4 w =>
  concordancelaw10_PoolRefuses_g10 K ds t155_2 t159_4 w) w) w) (
  concordancelaw10_PoolRefuses_g10 K ds t155_2 undef w)) w

theorem concordancelaw10_PoolRefuses_g9_eq (K : Value → World → Prop) : opsG (op1W Pg) (rOps (cL (cR (cR (cR (cR (cR (cR (cR (cR (cR (cR (cR (cR (cR (cR (cR concordancelaw10_PoolRefuses_body))))))))))))))))).toList ((groups (rOps (cL (cR (cR (cR (cR (cR (cR (cR (cR (cR (cR (cR (cR (cR (cR (cR concordancelaw10_PoolRefuses_body))))))))))))))))).toList).drop 16) 49 (W Pg (cR (cR (cR (cR (cR (cR (cR (cR (cR (cR (cR (cR (cR (cR (cR (cR concordancelaw10_PoolRefuses_body)))))))))))))))) false (retQ Pg [.tmp 6] K)) = (fun s w => concordancelaw10_PoolRefuses_g9 K s.ds (s.f 26) (s.f 151) (s.f 154) w) :=
  Eq.trans (eqPlain (eqGrd (concordancelaw10_PoolRefuses_g10_eq K))) (by kernel_rfl)

def concordancelaw10_PoolRefuses_g8 (K : Value → World → Prop) (ds : List Deferred) (x25 : Value) (x26 : Value) (x145 : Value) (x149 : Value) (w : World) : Prop :=
  pickV x145 x149 (.bool false) (fun t150_5 w =>
  gcond t150_5 true (
  run Pg (Builtin.len_ #[22] 3 #[x25]) (fun t153_6 w =>
  run Pg (binS .eql 3 true t153_6 (.int .i64 0)) (fun t154_7 w =>
  concordancelaw10_PoolRefuses_g9 K ds x26 t150_5 t154_7 w) w) w) (
  concordancelaw10_PoolRefuses_g9 K ds x26 t150_5 undef w)) w

theorem concordancelaw10_PoolRefuses_g8_eq (K : Value → World → Prop) : opsG (op1W Pg) (rOps (cL (cR (cR (cR (cR (cR (cR (cR (cR (cR (cR (cR (cR (cR (cR (cR concordancelaw10_PoolRefuses_body))))))))))))))))).toList ((groups (rOps (cL (cR (cR (cR (cR (cR (cR (cR (cR (cR (cR (cR (cR (cR (cR (cR concordancelaw10_PoolRefuses_body))))))))))))))))).toList).drop 14) 44 (W Pg (cR (cR (cR (cR (cR (cR (cR (cR (cR (cR (cR (cR (cR (cR (cR (cR concordancelaw10_PoolRefuses_body)))))))))))))))) false (retQ Pg [.tmp 6] K)) = (fun s w => concordancelaw10_PoolRefuses_g8 K s.ds (s.f 25) (s.f 26) (s.f 145) (s.f 149) w) :=
  Eq.trans (eqPlain (eqGrd (concordancelaw10_PoolRefuses_g9_eq K))) (by kernel_rfl)

def concordancelaw10_PoolRefuses_g7 (K : Value → World → Prop) (ds : List Deferred) (x1 : Value) (x22 : Value) (x25 : Value) (x26 : Value) (x140 : Value) (x143 : Value) (w : World) : Prop :=
  pickV x140 x143 (.bool false) (fun t144_8 w =>
  gcond t144_8 true (
  call Pg F.pool_Pool_Has [x22, x1] (fun t148_9 w =>
  run Pg (Op.unary .not t148_9) (fun t149_10 w =>
  concordancelaw10_PoolRefuses_g8 K ds x25 x26 t144_8 t149_10 w) w) w) (
  concordancelaw10_PoolRefuses_g8 K ds x25 x26 t144_8 undef w)) w

theorem concordancelaw10_PoolRefuses_g7_eq (K : Value → World → Prop) : opsG (op1W Pg) (rOps (cL (cR (cR (cR (cR (cR (cR (cR (cR (cR (cR (cR (cR (cR (cR (cR concordancelaw10_PoolRefuses_body))))))))))))))))).toList ((groups (rOps (cL (cR (cR (cR (cR (cR (cR (cR (cR (cR (cR (cR (cR (cR (cR (cR concordancelaw10_PoolRefuses_body))))))))))))))))).toList).drop 12) 38 (W Pg (cR (cR (cR (cR (cR (cR (cR (cR (cR (cR (cR (cR (cR (cR (cR (cR concordancelaw10_PoolRefuses_body)))))))))))))))) false (retQ Pg [.tmp 6] K)) = (fun s w => concordancelaw10_PoolRefuses_g7 K s.ds (s.f 1) (s.f 22) (s.f 25) (s.f 26) (s.f 140) (s.f 143) w) :=
  Eq.trans (eqPlain (eqGrd (concordancelaw10_PoolRefuses_g8_eq K))) (by kernel_rfl)

def concordancelaw10_PoolRefuses_g6 (K : Value → World → Prop) (ds : List Deferred) (x1 : Value) (x22 : Value) (x25 : Value) (x26 : Value) (x134 : Value) (x138 : Value) (w : World) : Prop :=
  pickV x134 x138 (.bool false) (fun t139_11 w =>
  gcond t139_11 true (
  call Pg F.pool_Pool_Flush [x22] (fun t142_12 w =>
  run Pg (binS .eql 25 true t142_12 (.int .i64 1)) (fun t143_13 w =>
  concordancelaw10_PoolRefuses_g7 K ds x1 x22 x25 x26 t139_11 t143_13 w) w) w) (
  concordancelaw10_PoolRefuses_g7 K ds x1 x22 x25 x26 t139_11 undef w)) w

theorem concordancelaw10_PoolRefuses_g6_eq (K : Value → World → Prop) : opsG (op1W Pg) (rOps (cL (cR (cR (cR (cR (cR (cR (cR (cR (cR (cR (cR (cR (cR (cR (cR concordancelaw10_PoolRefuses_body))))))))))))))))).toList ((groups (rOps (cL (cR (cR (cR (cR (cR (cR (cR (cR (cR (cR (cR (cR (cR (cR (cR concordancelaw10_PoolRefuses_body))))))))))))))))).toList).drop 10) 33 (W Pg (cR (cR (cR (cR (cR (cR (cR (cR (cR (cR (cR (cR (cR (cR (cR (cR concordancelaw10_PoolRefuses_body)))))))))))))))) false (retQ Pg [.tmp 6] K)) = (fun s w => concordancelaw10_PoolRefuses_g6 K s.ds (s.f 1) (s.f 22) (s.f 25) (s.f 26) (s.f 134) (s.f 138) w) :=
  Eq.trans (eqPlain (eqGrd (concordancelaw10_PoolRefuses_g7_eq K))) (by kernel_rfl)

def concordancelaw10_PoolRefuses_g5 (K : Value → World → Prop) (ds : List Deferred) (x1 : Value) (x22 : Value) (x25 : Value) (x26 : Value) (x128 : Value) (x132 : Value) (w : World) : Prop :=
  pickV x128 x132 (.bool false) (fun t133_14 w =>
  gcond t133_14 true (
  call Pg F.pool_Pool_Evict [x22, x1] (fun t137_15 w =>
  run Pg (binS .eql 25 true t137_15 (.int .i64 1)) (fun t138_16 w =>
  concordancelaw10_PoolRefuses_g6 K ds x1 x22 x25 x26 t133_14 t138_16 w) w) w) (
  concordancelaw10_PoolRefuses_g6 K ds x1 x22 x25 x26 t133_14 undef w)) w

theorem concordancelaw10_PoolRefuses_g5_eq (K : Value → World → Prop) : opsG (op1W Pg) (rOps (cL (cR (cR (cR (cR (cR (cR (cR (cR (cR (cR (cR (cR (cR (cR (cR concordancelaw10_PoolRefuses_body))))))))))))))))).toList ((groups (rOps (cL (cR (cR (cR (cR (cR (cR (cR (cR (cR (cR (cR (cR (cR (cR (cR concordancelaw10_PoolRefuses_body))))))))))))))))).toList).drop 8) 27 (W Pg (cR (cR (cR (cR (cR (cR (cR (cR (cR (cR (cR (cR (cR (cR (cR (cR concordancelaw10_PoolRefuses_body)))))))))))))))) false (retQ Pg [.tmp 6] K)) = (fun s w => concordancelaw10_PoolRefuses_g5 K s.ds (s.f 1) (s.f 22) (s.f 25) (s.f 26) (s.f 128) (s.f 132) w) :=
  Eq.trans (eqPlain (eqGrd (concordancelaw10_PoolRefuses_g6_eq K))) (by kernel_rfl)

def concordancelaw10_PoolRefuses_g4 (K : Value → World → Prop) (ds : List Deferred) (x1 : Value) (x22 : Value) (x25 : Value) (x26 : Value) (x122 : Value) (x126 : Value) (w : World) : Prop :=
  pickV x122 x126 (.bool false) (fun t127_17 w =>
  gcond t127_17 true (
  call Pg F.pool_Pool_Put [x22, x1, (.string ⟨#[]⟩)] (fun t131_18 w =>
  run Pg (binS .eql 25 true t131_18 (.int .i64 1)) (fun t132_19 w =>
  concordancelaw10_PoolRefuses_g5 K ds x1 x22 x25 x26 t127_17 t132_19 w) w) w) (
  concordancelaw10_PoolRefuses_g5 K ds x1 x22 x25 x26 t127_17 undef w)) w

theorem concordancelaw10_PoolRefuses_g4_eq (K : Value → World → Prop) : opsG (op1W Pg) (rOps (cL (cR (cR (cR (cR (cR (cR (cR (cR (cR (cR (cR (cR (cR (cR (cR concordancelaw10_PoolRefuses_body))))))))))))))))).toList ((groups (rOps (cL (cR (cR (cR (cR (cR (cR (cR (cR (cR (cR (cR (cR (cR (cR (cR concordancelaw10_PoolRefuses_body))))))))))))))))).toList).drop 6) 21 (W Pg (cR (cR (cR (cR (cR (cR (cR (cR (cR (cR (cR (cR (cR (cR (cR (cR concordancelaw10_PoolRefuses_body)))))))))))))))) false (retQ Pg [.tmp 6] K)) = (fun s w => concordancelaw10_PoolRefuses_g4 K s.ds (s.f 1) (s.f 22) (s.f 25) (s.f 26) (s.f 122) (s.f 126) w) :=
  Eq.trans (eqPlain (eqGrd (concordancelaw10_PoolRefuses_g5_eq K))) (by kernel_rfl)

def concordancelaw10_PoolRefuses_g3 (K : Value → World → Prop) (ds : List Deferred) (x1 : Value) (x22 : Value) (x25 : Value) (x26 : Value) (x118 : Value) (x120 : Value) (w : World) : Prop :=
  pickV x118 x120 (.bool false) (fun t121_20 w =>
  gcond t121_20 true (
  call Pg F.pool_Pool_Unpin [x22, x1] (fun t125_21 w =>
  run Pg (binS .eql 25 true t125_21 (.int .i64 1)) (fun t126_22 w =>
  concordancelaw10_PoolRefuses_g4 K ds x1 x22 x25 x26 t121_20 t126_22 w) w) w) (
  concordancelaw10_PoolRefuses_g4 K ds x1 x22 x25 x26 t121_20 undef w)) w

theorem concordancelaw10_PoolRefuses_g3_eq (K : Value → World → Prop) : opsG (op1W Pg) (rOps (cL (cR (cR (cR (cR (cR (cR (cR (cR (cR (cR (cR (cR (cR (cR (cR concordancelaw10_PoolRefuses_body))))))))))))))))).toList ((groups (rOps (cL (cR (cR (cR (cR (cR (cR (cR (cR (cR (cR (cR (cR (cR (cR (cR concordancelaw10_PoolRefuses_body))))))))))))))))).toList).drop 4) 15 (W Pg (cR (cR (cR (cR (cR (cR (cR (cR (cR (cR (cR (cR (cR (cR (cR (cR concordancelaw10_PoolRefuses_body)))))))))))))))) false (retQ Pg [.tmp 6] K)) = (fun s w => concordancelaw10_PoolRefuses_g3 K s.ds (s.f 1) (s.f 22) (s.f 25) (s.f 26) (s.f 118) (s.f 120) w) :=
  Eq.trans (eqPlain (eqGrd (concordancelaw10_PoolRefuses_g4_eq K))) (by kernel_rfl)

def concordancelaw10_PoolRefuses_g2 (K : Value → World → Prop) (ds : List Deferred) (x1 : Value) (x22 : Value) (x24 : Value) (x25 : Value) (x26 : Value) (x111 : Value) (x116 : Value) (w : World) : Prop :=
  pickV x111 x116 (.bool false) (fun t117_23 w =>
  gcond t117_23 true (
  run Pg (binS .eql 25 true x24 (.int .i64 1)) (fun t120_24 w =>
  concordancelaw10_PoolRefuses_g3 K ds x1 x22 x25 x26 t117_23 t120_24 w) w) (
  concordancelaw10_PoolRefuses_g3 K ds x1 x22 x25 x26 t117_23 undef w)) w

theorem concordancelaw10_PoolRefuses_g2_eq (K : Value → World → Prop) : opsG (op1W Pg) (rOps (cL (cR (cR (cR (cR (cR (cR (cR (cR (cR (cR (cR (cR (cR (cR (cR concordancelaw10_PoolRefuses_body))))))))))))))))).toList ((groups (rOps (cL (cR (cR (cR (cR (cR (cR (cR (cR (cR (cR (cR (cR (cR (cR (cR concordancelaw10_PoolRefuses_body))))))))))))))))).toList).drop 2) 11 (W Pg (cR (cR (cR (cR (cR (cR (cR (cR (cR (cR (cR (cR (cR (cR (cR (cR concordancelaw10_PoolRefuses_body)))))))))))))))) false (retQ Pg [.tmp 6] K)) = (fun s w => concordancelaw10_PoolRefuses_g2 K s.ds (s.f 1) (s.f 22) (s.f 24) (s.f 25) (s.f 26) (s.f 111) (s.f 116) w) :=
  Eq.trans (eqPlain (eqGrd (concordancelaw10_PoolRefuses_g3_eq K))) (by kernel_rfl)

def concordancelaw10_PoolRefuses_j1 (K : Value → World → Prop) (ds : List Deferred) (x1 : Value) (x2 : Value) (x7 : Value) (x9 : Value) (x11 : Value) (w : World) : Prop :=
  run Pg (Instr.buildSlice 42 2 #[(0, (.int .u8 0)), (1, x2)]) (fun t81_25 w =>
  run Pg (convert 42 9 t81_25) (fun t82_26 w =>
  call Pg F.device_Device_Write [x7, (.int .i64 12), t82_26] (fun t83_27 w =>
  call Pg F.pool_New [x9, (.int .i64 4), x11] (fun t87_28 w =>
  run Pg (Instr.extract t87_28 0) (fun t88_29 w =>
  run Pg (Instr.extract t87_28 1) (fun t89_30 w =>
  call Pg F.pool_Pool_Pin [t88_29, (.int .i64 1)] (fun t92_31 w =>
  run Pg (Instr.extract t92_31 0) (fun t93_32 w =>
  run Pg (Instr.extract t92_31 1) (fun t94_33 w =>
  call Pg F.pool_Pool_Pin [(.pointer none), x1] (fun t98_34 w =>
  run Pg (Instr.extract t98_34 0) (fun t99_35 w =>
  run Pg (Instr.extract t98_34 1) (fun t100_36 w =>
  call Pg F.pool_Pool_Held [(.pointer none)] (fun t103_37 w =>
  run Pg (Instr.extract t103_37 0) (fun t104_38 w =>
  run Pg (Instr.extract t103_37 1) (fun t105_39 w =>
  run Pg (binS .eql 25 true t94_33 (.int .i64 19)) (fun t107_40 w =>
  run Pg (binS .neq 5 true x2 (.int .u8 0)) (fun t109_41 w =>
  run Pg (binS .eql 4 false t107_40 t109_41) (fun t110_42 w =>
  gcond t110_42 true (
  call Pg F.pool_Pool_Has [t88_29, (.int .i64 1)] (fun t113_43 w =>
  run Pg (binS .eql 5 true x2 (.int .u8 0)) (fun t115_44 w =>
  run Pg (binS .eql 4 false t113_43 t115_44) (fun t116_45 w =>
  concordancelaw10_PoolRefuses_g2 K ds x1 (.pointer none) t100_36 t104_38 t105_39 t110_42 t116_45 w) w) w) w) (
  concordancelaw10_PoolRefuses_g2 K ds x1 (.pointer none) t100_36 t104_38 t105_39 t110_42 undef w)) w) w) w) w) w) w) w) w) w) w) w) w) w) w) w) w) w) w

theorem concordancelaw10_PoolRefuses_j1_eq (K : Value → World → Prop) : W Pg (cR (cR (cR (cR (cR (cR (cR (cR (cR concordancelaw10_PoolRefuses_body))))))))) false (retQ Pg [.tmp 6] K) = (fun s w => concordancelaw10_PoolRefuses_j1 K s.ds (s.f 1) (s.f 2) (s.f 7) (s.f 9) (s.f 11) w) :=
  Eq.trans (eqSeq (eqSeq (eqSeq (eqSeq (eqSeq (eqSeq (eqSeqL (eqReg (rd := false) (id := 17) (ops := rOps (cL (cR (cR (cR (cR (cR (cR (cR (cR (cR (cR (cR (cR (cR (cR (cR concordancelaw10_PoolRefuses_body))))))))))))))))) (by kernel_rfl) (eqPlain (eqGrd (concordancelaw10_PoolRefuses_g2_eq K))))))))))) (by kernel_rfl)

def concordancelaw10_PoolRefuses_g14 (K : Value → World → Prop) (ds : List Deferred) (x1 : Value) (x2 : Value) (x7 : Value) (x9 : Value) (x11 : Value) (x75 : Value) (x77 : Value) (w : World) : Prop :=
  pickV x75 (.bool true) x77 (fun t78_46 w =>
  cnd t78_46 (
  leaveW Pg ds (fun w => K (.bool false) w) w) (
  concordancelaw10_PoolRefuses_j1 K ds x1 x2 x7 x9 x11 w)) w

theorem concordancelaw10_PoolRefuses_g14_eq (K : Value → World → Prop) : opsG (op1W Pg) (rOps (cL (cL (cR (cR (cR (cR (cR (cR (cR (cR concordancelaw10_PoolRefuses_body))))))))))).toList ((groups (rOps (cL (cL (cR (cR (cR (cR (cR (cR (cR (cR concordancelaw10_PoolRefuses_body))))))))))).toList).drop 8) 23 (W Pg (cR (cL (cR (cR (cR (cR (cR (cR (cR (cR concordancelaw10_PoolRefuses_body)))))))))) false (thenP (fun s w => concordancelaw10_PoolRefuses_j1 K s.ds (s.f 1) (s.f 2) (s.f 7) (s.f 9) (s.f 11) w) (retQ Pg [.tmp 6] K))) = (fun s w => concordancelaw10_PoolRefuses_g14 K s.ds (s.f 1) (s.f 2) (s.f 7) (s.f 9) (s.f 11) (s.f 75) (s.f 77) w) :=
  by kernel_rfl

def concordancelaw10_PoolRefuses_g13 (K : Value → World → Prop) (ds : List Deferred) (x1 : Value) (x2 : Value) (x7 : Value) (x9 : Value) (x11 : Value) (x17 : Value) (x71 : Value) (x73 : Value) (w : World) : Prop :=
  pickV x71 (.bool true) x73 (fun t74_47 w =>
  gcond t74_47 false (
  run Pg (binS .neq 25 true x17 (.int .i64 1)) (fun t77_48 w =>
  concordancelaw10_PoolRefuses_g14 K ds x1 x2 x7 x9 x11 t74_47 t77_48 w) w) (
  concordancelaw10_PoolRefuses_g14 K ds x1 x2 x7 x9 x11 t74_47 undef w)) w

theorem concordancelaw10_PoolRefuses_g13_eq (K : Value → World → Prop) : opsG (op1W Pg) (rOps (cL (cL (cR (cR (cR (cR (cR (cR (cR (cR concordancelaw10_PoolRefuses_body))))))))))).toList ((groups (rOps (cL (cL (cR (cR (cR (cR (cR (cR (cR (cR concordancelaw10_PoolRefuses_body))))))))))).toList).drop 6) 19 (W Pg (cR (cL (cR (cR (cR (cR (cR (cR (cR (cR concordancelaw10_PoolRefuses_body)))))))))) false (thenP (fun s w => concordancelaw10_PoolRefuses_j1 K s.ds (s.f 1) (s.f 2) (s.f 7) (s.f 9) (s.f 11) w) (retQ Pg [.tmp 6] K))) = (fun s w => concordancelaw10_PoolRefuses_g13 K s.ds (s.f 1) (s.f 2) (s.f 7) (s.f 9) (s.f 11) (s.f 17) (s.f 71) (s.f 73) w) :=
  Eq.trans (eqPlain (eqGrd (concordancelaw10_PoolRefuses_g14_eq K))) (by kernel_rfl)

def concordancelaw10_PoolRefuses_g12 (K : Value → World → Prop) (ds : List Deferred) (x1 : Value) (x2 : Value) (x7 : Value) (x9 : Value) (x11 : Value) (x15 : Value) (x17 : Value) (x64 : Value) (x69 : Value) (w : World) : Prop :=
  pickV x64 (.bool true) x69 (fun t70_49 w =>
  gcond t70_49 false (
  run Pg (binS .neq 25 true x15 (.int .i64 1)) (fun t73_50 w =>
  concordancelaw10_PoolRefuses_g13 K ds x1 x2 x7 x9 x11 x17 t70_49 t73_50 w) w) (
  concordancelaw10_PoolRefuses_g13 K ds x1 x2 x7 x9 x11 x17 t70_49 undef w)) w

theorem concordancelaw10_PoolRefuses_g12_eq (K : Value → World → Prop) : opsG (op1W Pg) (rOps (cL (cL (cR (cR (cR (cR (cR (cR (cR (cR concordancelaw10_PoolRefuses_body))))))))))).toList ((groups (rOps (cL (cL (cR (cR (cR (cR (cR (cR (cR (cR concordancelaw10_PoolRefuses_body))))))))))).toList).drop 4) 15 (W Pg (cR (cL (cR (cR (cR (cR (cR (cR (cR (cR concordancelaw10_PoolRefuses_body)))))))))) false (thenP (fun s w => concordancelaw10_PoolRefuses_j1 K s.ds (s.f 1) (s.f 2) (s.f 7) (s.f 9) (s.f 11) w) (retQ Pg [.tmp 6] K))) = (fun s w => concordancelaw10_PoolRefuses_g12 K s.ds (s.f 1) (s.f 2) (s.f 7) (s.f 9) (s.f 11) (s.f 15) (s.f 17) (s.f 64) (s.f 69) w) :=
  Eq.trans (eqPlain (eqGrd (concordancelaw10_PoolRefuses_g13_eq K))) (by kernel_rfl)

def concordancelaw10_PoolRefuses_g11 (K : Value → World → Prop) (ds : List Deferred) (x1 : Value) (x2 : Value) (x7 : Value) (x9 : Value) (x11 : Value) (x12 : Value) (x13 : Value) (x15 : Value) (x17 : Value) (x56 : Value) (x59 : Value) (x61 : Value) (w : World) : Prop :=
  pickV x59 x61 (.bool false) (fun t62_51 w =>
  run Pg (binS .neq 4 false x56 t62_51) (fun t63_52 w =>
  gcond t63_52 false (
  run Pg (binS .neq 31 true x12 (.pointer none)) (fun t66_53 w =>
  run Pg (binS .eql 25 true x13 (.int .i64 0)) (fun t68_54 w =>
  run Pg (binS .neq 4 false t66_53 t68_54) (fun t69_55 w =>
  concordancelaw10_PoolRefuses_g12 K ds x1 x2 x7 x9 x11 x15 x17 t63_52 t69_55 w) w) w) w) (
  concordancelaw10_PoolRefuses_g12 K ds x1 x2 x7 x9 x11 x15 x17 t63_52 undef w)) w) w

theorem concordancelaw10_PoolRefuses_g11_eq (K : Value → World → Prop) : opsG (op1W Pg) (rOps (cL (cL (cR (cR (cR (cR (cR (cR (cR (cR concordancelaw10_PoolRefuses_body))))))))))).toList ((groups (rOps (cL (cL (cR (cR (cR (cR (cR (cR (cR (cR concordancelaw10_PoolRefuses_body))))))))))).toList).drop 2) 7 (W Pg (cR (cL (cR (cR (cR (cR (cR (cR (cR (cR concordancelaw10_PoolRefuses_body)))))))))) false (thenP (fun s w => concordancelaw10_PoolRefuses_j1 K s.ds (s.f 1) (s.f 2) (s.f 7) (s.f 9) (s.f 11) w) (retQ Pg [.tmp 6] K))) = (fun s w => concordancelaw10_PoolRefuses_g11 K s.ds (s.f 1) (s.f 2) (s.f 7) (s.f 9) (s.f 11) (s.f 12) (s.f 13) (s.f 15) (s.f 17) (s.f 56) (s.f 59) (s.f 61) w) :=
  Eq.trans (eqPlain (eqGrd (concordancelaw10_PoolRefuses_g12_eq K))) (by kernel_rfl)

def concordancelaw10_PoolRefuses (K : Value → World → Prop) (ds : List Deferred) (x0 : Value) (x1 : Value) (x2 : Value) (w : World) : Prop :=
  call Pg F.concordancelaw10_speaks [] (fun t27_56 w =>
  run Pg (Op.unary .not t27_56) (fun t28_57 w =>
  cnd t28_57 (
  leaveW Pg ds (fun w => K (.bool false) w) w) (
  call Pg F.device_New [(.int .i64 40)] (fun t30_58 w =>
  run Pg (Instr.extract t30_58 0) (fun t31_59 w =>
  run Pg (Instr.extract t30_58 1) (fun t32_60 w =>
  call Pg F.twin_New [t31_59, (.int .i64 0), (.int .i64 2), (.int .i64 10), (.int .i64 8)] (fun t35_61 w =>
  run Pg (Instr.extract t35_61 0) (fun t36_62 w =>
  run Pg (Instr.extract t35_61 1) (fun t37_63 w =>
  call Pg F.pool_New [t36_62, x0, (.func (.func 17) #[] #[])] (fun t42_64 w =>
  run Pg (Instr.extract t42_64 0) (fun t43_65 w =>
  run Pg (Instr.extract t42_64 1) (fun t44_66 w =>
  call Pg F.pool_New [(.pointer none), (.int .i64 4), (.func (.func 17) #[] #[])] (fun t47_67 w =>
  run Pg (Instr.extract t47_67 0) (fun t48_68 w =>
  run Pg (Instr.extract t47_67 1) (fun t49_69 w =>
  call Pg F.pool_New [t36_62, (.int .i64 4), .nilFunc] (fun t52_70 w =>
  run Pg (Instr.extract t52_70 0) (fun t53_71 w =>
  run Pg (Instr.extract t52_70 1) (fun t54_72 w =>
  run Pg (binS .eql 25 true t44_66 (.int .i64 0)) (fun t56_73 w =>
  run Pg (binS .geq 3 true x0 (.int .i64 1)) (fun t58_74 w =>
  gcond t58_74 true (
  run Pg (binS .leq 3 true x0 (.int .i64 64)) (fun t61_75 w =>
  concordancelaw10_PoolRefuses_g11 K ds x1 x2 t31_59 t36_62 (.func (.func 17) #[] #[]) t43_65 t44_66 t49_69 t54_72 t56_73 t58_74 t61_75 w) w) (
  concordancelaw10_PoolRefuses_g11 K ds x1 x2 t31_59 t36_62 (.func (.func 17) #[] #[]) t43_65 t44_66 t49_69 t54_72 t56_73 t58_74 undef w)) w) w) w) w) w) w) w) w) w) w) w) w) w) w) w) w) w)) w) w

theorem concordancelaw10_PoolRefuses_eq (K : Value → World → Prop) : W Pg concordancelaw10_PoolRefuses_body false (retQ Pg [.tmp 6] K) = (fun s w => concordancelaw10_PoolRefuses K s.ds (s.f 0) (s.f 1) (s.f 2) w) :=
  Eq.trans (eqSeq (eqSeq (eqSeq (eqSeq (eqSeq (eqSeq (eqSeq (eqSeq ((eqSeq (concordancelaw10_PoolRefuses_j1_eq K)).trans (eqSeqL (eqReg (rd := false) (id := 9) (ops := rOps (cL (cL (cR (cR (cR (cR (cR (cR (cR (cR concordancelaw10_PoolRefuses_body))))))))))) (by kernel_rfl) (eqPlain (eqGrd (concordancelaw10_PoolRefuses_g11_eq K)))))))))))))) (by kernel_rfl)

theorem concordancelaw10_PoolRefuses_ok : FnOk Pg F.concordancelaw10_PoolRefuses Go.Proofs.Tryz.f4 concordancelaw10_PoolRefuses_body 3 := ⟨Go.Proofs.Tryz.func4, by kernel_rfl, by kernel_rfl, by kernel_rfl, by kernel_rfl, by kernel_rfl⟩

theorem concordancelaw10_PoolRefuses_callS {K : Value → World → Prop} {x0 : Value} {x1 : Value} {x2 : Value} {w : World} (h : concordancelaw10_PoolRefuses K [] x0 x1 x2 w) : callS Pg F.concordancelaw10_PoolRefuses [x0, x1, x2] K w :=
  call_of_W concordancelaw10_PoolRefuses_ok (Eq.mpr (congrFun (congrFun (concordancelaw10_PoolRefuses_eq K) ⟨argFr [x0, x1, x2], []⟩) w) h)

theorem concordancelaw10_PoolRefuses_call {K : Value → World → Prop} {x0 : Value} {x1 : Value} {x2 : Value} {w : World} (h : concordancelaw10_PoolRefuses K [] x0 x1 x2 w) : call Pg F.concordancelaw10_PoolRefuses [x0, x1, x2] K w := .inl (concordancelaw10_PoolRefuses_callS h)

/-- concordance/concordancelaw10.PoolRefuses$1 -/
noncomputable def concordancelaw10_PoolRefuses_c1_body : Code := (Go.Proofs.Tryz.f17.body).getD .skip

def concordancelaw10_PoolRefuses_c1 (K : Value → World → Prop) (ds : List Deferred) (w : World) : Prop :=
  leaveW Pg ds (fun w => K (.int .i64 0) w) w

theorem concordancelaw10_PoolRefuses_c1_eq (K : Value → World → Prop) : W Pg concordancelaw10_PoolRefuses_c1_body false (retQ Pg [.tmp 2] K) = (fun s w => concordancelaw10_PoolRefuses_c1 K s.ds  w) :=
  by kernel_rfl

theorem concordancelaw10_PoolRefuses_c1_ok : FnOk Pg F.concordancelaw10_PoolRefuses_c1 Go.Proofs.Tryz.f17 concordancelaw10_PoolRefuses_c1_body 1 := ⟨Go.Proofs.Tryz.func17, by kernel_rfl, by kernel_rfl, by kernel_rfl, by kernel_rfl, by kernel_rfl⟩

theorem concordancelaw10_PoolRefuses_c1_callS {K : Value → World → Prop} {x0 : Value} {w : World} (h : concordancelaw10_PoolRefuses_c1 K []  w) : callS Pg F.concordancelaw10_PoolRefuses_c1 [x0] K w :=
  call_of_W concordancelaw10_PoolRefuses_c1_ok (Eq.mpr (congrFun (congrFun (concordancelaw10_PoolRefuses_c1_eq K) ⟨argFr [x0], []⟩) w) h)

theorem concordancelaw10_PoolRefuses_c1_call {K : Value → World → Prop} {x0 : Value} {w : World} (h : concordancelaw10_PoolRefuses_c1 K []  w) : call Pg F.concordancelaw10_PoolRefuses_c1 [x0] K w := .inl (concordancelaw10_PoolRefuses_c1_callS h)

end Go.Sx
end

section
/- Statements of layer 10: PoolRefuses. -/
set_option linter.unusedVariables false
set_option linter.unusedSimpArgs false
set_option maxRecDepth 100000
namespace Go.Sx
open Go Go.RowKit
variable {K : Value → World → Prop} {w : World}

/-! ### no pool -/
theorem none_Pin {n : Int} (k : K (.tuple #[str [], int 1]) w) : call Pg F.pool_Pool_Pin [.pointer none, int n] K w := by
  refine pool_Pool_Pin_call ?_
  unfold pool_Pool_Pin
  refine run_i s_ptr_eql ?_
  refine gc_tfi ?_
  unfold pool_Pool_Pin_g3
  refine pk_ti ?_
  refine gc_tfi ?_
  unfold pool_Pool_Pin_g4
  refine pk_ti ?_
  refine cn_ti ?_
  refine lv_i ?_
  exact k
theorem none_Held (k : ∀ w', Qt w w' → K (.tuple #[.slice none 0 0, .slice none 0 0]) w') : call Pg F.pool_Pool_Held [.pointer none] K w := by
  refine pool_Pool_Held_call ?_
  unfold pool_Pool_Held
  refine run_i s_alloc ?_
  refine run_i s_alloc ?_
  refine run_i s_ptr_eql ?_
  refine cn_ti ?_
  refine lv_i ?_
  exact k _ (by (refine (((Frm.refl _).alloc _).alloc _)))
theorem none_Has {n : Int} (k : K (.bool false) w) : call Pg F.pool_Pool_Has [.pointer none, int n] K w := by
  refine pool_Pool_Has_call ?_
  unfold pool_Pool_Has
  refine run_i s_ptr_eql ?_
  refine cn_ti ?_
  refine lv_i ?_
  exact k
theorem none_Flush (k : K (int 1) w) : call Pg F.pool_Pool_Flush [.pointer none] K w := by
  refine pool_Pool_Flush_call ?_
  unfold pool_Pool_Flush
  refine run_i s_ptr_eql ?_
  refine cn_ti ?_
  refine lv_i ?_
  exact k
theorem none_Evict {n : Int} (k : K (int 1) w) : call Pg F.pool_Pool_Evict [.pointer none, int n] K w := by
  refine pool_Pool_Evict_call ?_
  unfold pool_Pool_Evict
  refine run_i s_ptr_eql ?_
  refine cn_ti ?_
  refine lv_i ?_
  exact k
theorem none_pinned {n : Int} (k : K (.tuple #[.pointer none, int 1]) w) : call Pg F.pool_Pool_pinned [.pointer none, int n] K w := by
  refine pool_Pool_pinned_call ?_
  unfold pool_Pool_pinned
  refine run_i s_ptr_eql ?_
  refine cn_ti ?_
  refine lv_i ?_
  exact k
theorem none_Unpin {n : Int} (k : K (int 1) w) : call Pg F.pool_Pool_Unpin [.pointer none, int n] K w := by
  refine pool_Pool_Unpin_call ?_
  unfold pool_Pool_Unpin
  refine none_pinned ?_
  refine run_i (s_extract rfl) ?_
  refine run_i (s_extract rfl) ?_
  refine run_i (p_eqlF (by omega) _) ?_
  refine cn_fi ?_
  unfold pool_Pool_Unpin_j1
  refine lv_i ?_
  exact k
theorem none_Put {n : Int} {v : Value} (k : K (int 1) w) : call Pg F.pool_Pool_Put [.pointer none, int n, v] K w := by
  refine pool_Pool_Put_call ?_
  unfold pool_Pool_Put
  refine none_pinned ?_
  refine run_i (s_extract rfl) ?_
  refine run_i (s_extract rfl) ?_
  refine run_i (p_neqT (by omega) _) ?_
  refine cn_ti ?_
  refine lv_i ?_
  exact k

/-! ### pools that may not be -/
theorem New_noArea {n : Int} {fl : Value} (k : K (.tuple #[.pointer none, int 1]) w) : call Pg F.pool_New [.pointer none, int n, fl] K w := by
  refine pool_New_call ?_
  unfold pool_New
  refine run_i s_ptr_eql ?_
  refine gc_tfi ?_
  unfold pool_New_g1
  refine pk_ti ?_
  refine gc_tfi ?_
  unfold pool_New_g2
  refine pk_ti ?_
  refine gc_tfi ?_
  unfold pool_New_g3
  refine pk_ti ?_
  refine cn_ti ?_
  refine lv_i ?_
  exact k
theorem New_noLog {n : Int} {ab : Addr} (k : K (.tuple #[.pointer none, int 1]) w) : call Pg F.pool_New [.pointer (some ab), int n, .nilFunc] K w := by
  refine pool_New_call ?_
  unfold pool_New
  refine run_i s_ptr_eql ?_
  refine gc_ffi ?_
  refine run_i s_fun_nil ?_
  unfold pool_New_g1
  refine pk_fi ?_
  refine gc_tfi ?_
  unfold pool_New_g2
  refine pk_ti ?_
  refine gc_tfi ?_
  unfold pool_New_g3
  refine pk_ti ?_
  refine cn_ti ?_
  refine lv_i ?_
  exact k
theorem New_noFrames {n : Int} {ab : Addr} {fn : Fn} {f1 f2 : Array Value} (h : ¬ (1 ≤ n ∧ n ≤ 64)) (k : K (.tuple #[.pointer none, int 1]) w) : call Pg F.pool_New [.pointer (some ab), int n, .func fn f1 f2] K w := by
  refine pool_New_call ?_
  unfold pool_New
  by_cases h1 : n < 1
  · refine run_i s_ptr_eql ?_
    refine gc_ffi ?_
    refine run_i s_fun_eql ?_
    unfold pool_New_g1
    refine pk_fi ?_
    refine gc_ffi ?_
    refine run_i (p_lssT (by omega) _) ?_
    unfold pool_New_g2
    refine pk_fi ?_
    refine gc_tfi ?_
    unfold pool_New_g3
    refine pk_ti ?_
    refine cn_ti ?_
    refine lv_i ?_
    exact k
  · by_cases h2 : 64 < n
    · refine run_i s_ptr_eql ?_
      refine gc_ffi ?_
      refine run_i s_fun_eql ?_
      unfold pool_New_g1
      refine pk_fi ?_
      refine gc_ffi ?_
      refine run_i (p_lssF (by omega) _) ?_
      unfold pool_New_g2
      refine pk_fi ?_
      refine gc_ffi ?_
      refine run_i (p_gtrT (by omega) _) ?_
      unfold pool_New_g3
      refine pk_fi ?_
      refine cn_ti ?_
      refine lv_i ?_
      exact k
    · omega

theorem ppin_torn {e : PEnv} {s : e.σ} {p : PS} {n : Int} {Z : Text} (h : fget p.held n = none) (hl : (p.held.length : Int) < p.frames) (hr : e.rd s n = (Z, 0)) (hZ : ¬ WholeT Z) : ppin e s p n = (s, p, [], 19) := by
  unfold ppin pspace
  rw [h, if_pos hl]
  simp [hr, hZ]

theorem okR (x : Value) (K : Value → World → Prop) (w : World) (h : K (int 0) w) : call Pg F.concordancelaw10_PoolRefuses_c1 [x] K w := by
  refine concordancelaw10_PoolRefuses_c1_call ?_
  unfold concordancelaw10_PoolRefuses_c1
  refine lv_i ?_
  exact h

/-! ### the torn page -/
def tornT (b : Int) : Text := [0, UInt8.ofNat b.toNat]
def torn1 (b : Int) : Text := padT (tornT b) ++ List.replicate 256 0
theorem torn1_eq (b : Int) : torn1 b = 0 :: UInt8.ofNat b.toNat :: List.replicate 510 0 := by
  unfold torn1 padT tornT
  simp only [List.cons_append, List.nil_append, List.length_cons, List.length_nil, List.append_assoc, List.replicate_append_replicate]
theorem torn1_whole {b : Int} (h0 : 0 ≤ b) (h1 : b < 256) : WholeT (torn1 b) ↔ b = 0 := by
  rw [torn1_eq]
  constructor
  · rintro ⟨_, h | ⟨_, h⟩⟩
    · have : UInt8.ofNat b.toNat = 0 := h _ (by simp)
      have := congrArg UInt8.toNat this
      simp at this
      omega
    · have := congrArg (fun l : Text => l[1]?) h
      simp [List.getElem?_take, List.getElem?_drop, List.getElem?_replicate] at this
      have := congrArg UInt8.toNat this
      simp at this
      omega
  · rintro rfl
    refine ⟨by simp, .inl fun x hx => ?_⟩
    simp at hx
    exact hx
def devT (b : Int) : Dev := ((dev0 40).write 12 (tornT b)).1
theorem devT_eq (b : Int) : (dev0 40).write 12 (tornT b) = (devT b, 0) ∧ devT b = ⟨40, fun _ => none, [(12, padT (tornT b))], false, 0, [], 1⟩ := by
  have h : (dev0 40).write 12 (tornT b) = (⟨40, fun _ => none, [(12, padT (tornT b))], false, 0, [], 1⟩, 0) := rfl
  unfold devT
  rw [h]
  exact ⟨rfl, rfl⟩
theorem devT_rest (b : Int) : Rest (devT b) 40 := by
  rw [(devT_eq b).2]
  refine ⟨by simp, (fun h => by cases h), ⟨(fun i t h => by cases h), fun x hx => ?_⟩, by simp, rfl⟩
  simp at hx
  subst hx
  simp [padT, tornT]
theorem devT_two (b : Int) : (devT b).two' 12 = (torn1 b, 0) := by
  rw [(devT_eq b).2]
  simp [Dev.two', Dev.two, Dev.read, torn1]

set_option maxHeartbeats 1000000 in
theorem PoolRefuses_c {a n b : Int} (hg : Glob w) (h0 : 0 ≤ b) (h1 : b < 256) (k : ∀ w', Qt w w' → K (.bool true) w') : callS Pg F.concordancelaw10_PoolRefuses [int a, int n, .int .u8 b] K w := by
  refine concordancelaw10_PoolRefuses_callS ?_
  unfold concordancelaw10_PoolRefuses
  refine speaks10_c hg (fun w1 q1 => ?_)
  refine run_i (p_not _) ?_
  refine cn_fi ?_
  refine begin10 (hg.qt q1) (fun w2 av dv E hp hT hg2 hE q2 => ?_)
  obtain ⟨ab, rfl⟩ := hp
  have hE' : ∀ k, E k → w.heap.size ≤ k := fun k hk => by have := hE k hk; have := q1.size; omega
  have q12 := q1.trans q2
  have tail : ∀ w3, Qt w2 w3 → concordancelaw10_PoolRefuses_j1 K [] (int n) (.int .u8 b) dv (.pointer (some ab)) (.func (.func 17) #[] #[]) w3 := by
    intro w3 q3
    unfold concordancelaw10_PoolRefuses_j1
    refine run_i (bslice_of (cells := [.int .u8 0, .int .u8 b]) (by decide) (by decide) (by kernel_rfl)) ?_
    refine run_i (b2s_of (e := T.u8) (m := 2) (ns := [0, b]) (by kernel_rfl) (by kernel_rfl) (by kernel_rfl) rfl hp_alloc_new rfl) ?_
    have q4 : Qt w3 (w3.alloc (.cells [.int .u8 0, .int .u8 b].toArray T.u8)) := (Frm.refl w3).alloc _
    obtain ⟨w4, hw4⟩ : ∃ w4, w4 = w3.alloc (.cells [.int .u8 0, .int .u8 b].toArray T.u8) := ⟨_, rfl⟩
    have e4 : ([0, b] : List Int).map (fun n => UInt8.ofNat n.toNat) = tornT b := rfl
    have hT4 : TwinI w4 (.pointer (some ab)) dv area10 (dev0 40) E := by rw [hw4]; exact hT.keep (fun k o h _ => (q3.trans q4).all h)
    have q4' : Qt w w4 := by rw [hw4]; exact q12.trans (q3.trans q4)
    have hg4 : Glob w4 := hg.qt q4'
    rw [e4]
    rw [← hw4]
    obtain ⟨ab0, Ed, hv, hab, hdev, hn, rfl⟩ := hT4
    refine device_Write_c hdev (by simp [dev0]) (by simp [dev0]) (by simp [tornT]) (fun w5 Ed' hdev' m5 => ?_)
    have hT5 : TwinI w5 (.pointer (some ab)) dv area10 (devT b) (fun k => k = ab0 ∨ Ed' k) := ⟨ab0, Ed', hv, m5.keep hab hn, hdev', m5.out (lt_of hab) hn, rfl⟩
    have hl := hg4.lt
    have h00 : ¬ (0 = ab0 ∨ Ed 0) := fun h => by have := hE' 0 h; have := hg.lt; omega
    have hE5 : ∀ k, (k = ab0 ∨ Ed' k) → w.heap.size ≤ k := fun k hk => hk.elim (fun h => hE' k (.inl h)) (fun h => m5.fresh q4' (fun k hk => hE' k (.inr hk)) k h)
    have q5 : Qt w w5 := m5.done q4' (fun k hk => hE' k (.inr hk))
    have hg5 : Glob w5 := hg.qt q5
    have hI := okEnv okR (⟨_, rfl⟩ : ∃ a, Value.pointer (some ab) = .pointer (some a)) hT5 (devT_rest b) (fun h => by have := hE5 0 h; have := hg.lt; omega)
    obtain ⟨e, s, hav, hfl, he, hr, hI⟩ : ∃ (e : PEnv) (s : e.σ), e.av = .pointer (some ab) ∧ e.fl = .func (.func 17) #[] #[] ∧ e.pages = 8 ∧ e.rd s 1 = (torn1 b, 0) ∧ e.I s (fun k => (k = ab0 ∨ Ed' k) ∨ False) w5 :=
      ⟨_, _, rfl, rfl, rfl, devT_two b, hI⟩
    have hN := fun K k => @New_c K w5 e s _ 4 hI hg5 (by decide) (by decide) k
    rw [hav, hfl] at hN
    refine hN _ (fun pv w6 E6 hS q6 hE6 => ?_)
    have hE6' : ∀ k, E6 k → w.heap.size ≤ k := fun k hk => by
      have := q5.size
      rcases hE6 k hk with (h | h) | h
      · exact hE5 k h
      · exact h.elim
      · omega
    refine run_i (s_extract rfl) ?_
    refine run_i (s_extract rfl) ?_
    have c0 : Cln 4 ⟨4, [], []⟩ := ⟨rfl, spWf .nil rfl, by decide, fun n f h => by simp [fget] at h⟩
    refine Pin_c hS (c0.ok8 he) (by decide) (c0.few (by decide)) (by decide) (by omega) (fun w7 E7 hS m7 => ?_)
    have q7 : Qt w w7 := m7.done (q5.trans q6) hE6'
    have fin : ∀ w8, Qt w w8 → concordancelaw10_PoolRefuses_g2 K [] (int n) (.pointer none) (int 1) (.slice none 0 0) (.slice none 0 0) (.bool true) (.bool true) w8 := by
      intro w8 q8
      unfold concordancelaw10_PoolRefuses_g2
      refine pk_ti ?_
      refine gc_tti ?_
      refine run_i (p_eqlT (by omega) _) ?_
      unfold concordancelaw10_PoolRefuses_g3
      refine pk_ti ?_
      refine gc_tti ?_
      refine none_Unpin ?_
      refine run_i (p_eqlT (by omega) _) ?_
      unfold concordancelaw10_PoolRefuses_g4
      refine pk_ti ?_
      refine gc_tti ?_
      refine none_Put ?_
      refine run_i (p_eqlT (by omega) _) ?_
      unfold concordancelaw10_PoolRefuses_g5
      refine pk_ti ?_
      refine gc_tti ?_
      refine none_Evict ?_
      refine run_i (p_eqlT (by omega) _) ?_
      unfold concordancelaw10_PoolRefuses_g6
      refine pk_ti ?_
      refine gc_tti ?_
      refine none_Flush ?_
      refine run_i (p_eqlT (by omega) _) ?_
      unfold concordancelaw10_PoolRefuses_g7
      refine pk_ti ?_
      refine gc_tti ?_
      refine none_Has ?_
      refine run_i (p_not _) ?_
      unfold concordancelaw10_PoolRefuses_g8
      refine pk_ti ?_
      refine gc_tti ?_
      refine run_i s_len_sl ?_
      refine run_i (p_eqlT (by omega) _) ?_
      unfold concordancelaw10_PoolRefuses_g9
      refine pk_ti ?_
      refine gc_tti ?_
      refine run_i s_len_sl ?_
      refine run_i (p_eqlT (by omega) _) ?_
      unfold concordancelaw10_PoolRefuses_g10
      refine pk_ti ?_
      refine lv_i ?_
      exact k w8 q8
    by_cases hb : b = 0
    · rw [ppin_room rfl (by decide) hr ((torn1_whole h0 h1).2 hb)] at hS ⊢
      simp only at hS ⊢
      refine run_i (s_extract rfl) ?_
      refine run_i (s_extract rfl) ?_
      refine none_Pin ?_
      refine run_i (s_extract rfl) ?_
      refine run_i (s_extract rfl) ?_
      refine none_Held (fun w8 q8 => ?_)
      have hS := hS.qt q8
      refine run_i (s_extract rfl) ?_
      refine run_i (s_extract rfl) ?_
      refine run_i (p_eqlF (by omega) _) ?_
      refine run_i (p_neqF (by omega) _) ?_
      refine run_i s_bool_eql ?_
      refine gc_tti ?_
      refine Has_c hS (fun w9 q9 => ?_)
      have e9 : (fget (puse (⟨4, fins [] 1 ⟨torn1 b, 0, false⟩, []⟩ : PS) 1 ⟨torn1 b, 0, false⟩).held 1).isSome = true := rfl
      rw [e9]
      refine run_i (p_eqlT (by omega) _) ?_
      refine run_i s_bool_eql ?_
      unfold concordancelaw10_PoolRefuses_g2
      refine pk_ti ?_
      refine gc_tti ?_
      refine run_i (p_eqlT (by omega) _) ?_
      unfold concordancelaw10_PoolRefuses_g3
      refine pk_ti ?_
      refine gc_tti ?_
      exact fin w9 (q7.trans (q8.trans q9))
    · rw [ppin_torn rfl (by decide) hr (fun h => hb ((torn1_whole h0 h1).1 h))] at hS ⊢
      simp only at hS ⊢
      refine run_i (s_extract rfl) ?_
      refine run_i (s_extract rfl) ?_
      refine none_Pin ?_
      refine run_i (s_extract rfl) ?_
      refine run_i (s_extract rfl) ?_
      refine none_Held (fun w8 q8 => ?_)
      have hS := hS.qt q8
      refine run_i (s_extract rfl) ?_
      refine run_i (s_extract rfl) ?_
      refine run_i (p_eqlT (by omega) _) ?_
      refine run_i (p_neqT (by omega) _) ?_
      refine run_i s_bool_eql ?_
      refine gc_tti ?_
      refine Has_c hS (fun w9 q9 => ?_)
      have e9 : (fget (⟨4, [], []⟩ : PS).held 1).isSome = false := rfl
      rw [e9]
      refine run_i (p_eqlF (by omega) _) ?_
      refine run_i s_bool_eql ?_
      unfold concordancelaw10_PoolRefuses_g2
      refine pk_ti ?_
      refine gc_tti ?_
      refine run_i (p_eqlT (by omega) _) ?_
      unfold concordancelaw10_PoolRefuses_g3
      refine pk_ti ?_
      refine gc_tti ?_
      exact fin w9 (q7.trans (q8.trans q9))
  by_cases ha : 1 ≤ a ∧ a ≤ 64
  · refine pool_New_c rfl rfl ha.1 ha.2 (fun pb w3 hr q3 hpb => ?_)
    refine run_i (s_extract rfl) ?_
    refine run_i (s_extract rfl) ?_
    refine New_noArea ?_
    refine run_i (s_extract rfl) ?_
    refine run_i (s_extract rfl) ?_
    refine New_noLog ?_
    refine run_i (s_extract rfl) ?_
    refine run_i (s_extract rfl) ?_
    refine run_i (p_eqlT (by omega) _) ?_
    refine run_i (p_geqT (by omega) _) ?_
    refine gc_tti ?_
    refine run_i (p_leqT (by omega) _) ?_
    unfold concordancelaw10_PoolRefuses_g11
    refine pk_ti ?_
    refine run_i s_bool_neq ?_
    refine gc_ffi ?_
    refine run_i s_ptr_neq ?_
    refine run_i (p_eqlT (by omega) _) ?_
    refine run_i s_bool_neq ?_
    unfold concordancelaw10_PoolRefuses_g12
    refine pk_fi ?_
    exact tail w3 q3
  · refine New_noFrames ha ?_
    refine run_i (s_extract rfl) ?_
    refine run_i (s_extract rfl) ?_
    refine New_noArea ?_
    refine run_i (s_extract rfl) ?_
    refine run_i (s_extract rfl) ?_
    refine New_noLog ?_
    by_cases ha1 : 1 ≤ a
    · refine run_i (s_extract rfl) ?_
      refine run_i (s_extract rfl) ?_
      refine run_i (p_eqlF (by omega) _) ?_
      refine run_i (p_geqT (by omega) _) ?_
      refine gc_tti ?_
      refine run_i (p_leqF (by omega) _) ?_
      unfold concordancelaw10_PoolRefuses_g11
      refine pk_ti ?_
      refine run_i s_bool_neq ?_
      refine gc_ffi ?_
      refine run_i s_ptr_neq ?_
      refine run_i (p_eqlF (by omega) _) ?_
      refine run_i s_bool_neq ?_
      unfold concordancelaw10_PoolRefuses_g12
      refine pk_fi ?_
      refine gc_ffi ?_
      refine run_i (p_neqF (by omega) _) ?_
      unfold concordancelaw10_PoolRefuses_g13
      refine pk_fi ?_
      refine gc_ffi ?_
      refine run_i (p_neqF (by omega) _) ?_
      unfold concordancelaw10_PoolRefuses_g14
      refine pk_fi ?_
      refine cn_fi ?_
      exact tail _ (.refl _)
    · refine run_i (s_extract rfl) ?_
      refine run_i (s_extract rfl) ?_
      refine run_i (p_eqlF (by omega) _) ?_
      refine run_i (p_geqF (by omega) _) ?_
      refine gc_fti ?_
      unfold concordancelaw10_PoolRefuses_g11
      refine pk_fi ?_
      refine run_i s_bool_neq ?_
      refine gc_ffi ?_
      refine run_i s_ptr_neq ?_
      refine run_i (p_eqlF (by omega) _) ?_
      refine run_i s_bool_neq ?_
      unfold concordancelaw10_PoolRefuses_g12
      refine pk_fi ?_
      refine gc_ffi ?_
      refine run_i (p_neqF (by omega) _) ?_
      unfold concordancelaw10_PoolRefuses_g13
      refine pk_fi ?_
      refine gc_ffi ?_
      refine run_i (p_neqF (by omega) _) ?_
      unfold concordancelaw10_PoolRefuses_g14
      refine pk_fi ?_
      refine cn_fi ?_
      exact tail _ (.refl _)
end Go.Sx
end
