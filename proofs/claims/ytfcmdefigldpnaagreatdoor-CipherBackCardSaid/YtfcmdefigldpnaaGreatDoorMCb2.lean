/- Texts DenC to DenD of this work, joined, without what the law does not lean on. -/
import Derived.Test.YtfcmdefigldpnaaGreatDoorMCb1
namespace Go.Den
set_option linter.unusedVariables false
set_option maxRecDepth 8000
open Go Go.RowKit

abbrev U (x : Nat) : Value := .int .u64 (x : Int)
abbrev I (x : Int) : Value := .int .i64 x

theorem wrapU (n : Nat) : IntKind.u64.wrap (n : Int) = ((n % 18446744073709551616 : Nat) : Int) := by rw [IntKind.wrap_u64]; omega
theorem wrapU_in (n : Nat) (h : n < 18446744073709551616) : IntKind.u64.wrap (n : Int) = (n : Int) := by rw [IntKind.wrap_u64]; omega
theorem wrapI_in (n : Int) (h : -9223372036854775808 ≤ n ∧ n < 9223372036854775808) : IntKind.i64.wrap n = n := by rw [IntKind.wrap_i64]; omega

theorem fdivN (a c : Nat) : (a : Int).fdiv ((2 : Int) ^ c) = ((a / 2 ^ c : Nat) : Int) := by
  rw [show ((2 : Int) ^ c) = ((2 ^ c : Nat) : Int) by simp, ← Int.ofNat_fdiv]

structure IsK (o : Option Value) (k : IntKind) (b : Nat) : Prop where mk ::
  h : o = some (.int k (b : Int))
theorem isK_c {l : Fr} {k : IntKind} {c : Nat} : IsK (ev l (.const (.int k (OfNat.ofNat c : Int)))) k (OfNat.ofNat c : Nat) := ⟨rfl⟩
theorem isK_t {l : Fr} {k : IntKind} {t b : Nat} (h : look l t = some (.int k (b : Int))) : IsK (ev l (.tmp t)) k b := ⟨h⟩

section
variable {P : Program} {n : Nat} {Q : Post} {l : Fr} {h : Hp} {ops : List Oper} {Ch : Hp → Prop} {E : Nat → Bool} {i : Nat}
variable {d : Nat} {t : TypeId} {x y z : Operand} {yt : TypeId}

section u64
variable {a b : Nat}

theorem s_moveUc {c : Nat} (hb : Nat.blt d n = true) (k : S P n ops Ch E Q (i + 1) ((d, U (OfNat.ofNat c : Nat)) :: l) h) : O P n ops Ch E Q i d (.move (.const (.int .u64 (OfNat.ofNat c : Int)))) l h :=
  s_move rfl hb k
theorem s_assignUc {c : Nat} (hb : Nat.blt d n = true) (k : S P n ops Ch E Q (i + 1) ((d, U (OfNat.ofNat c : Nat)) :: l) h) : O P n ops Ch E Q i d (.assign (.const (.int .u64 (OfNat.ofNat c : Int)))) l h :=
  s_assign rfl hb k

theorem s_addU (hx : IsK (ev l x) .u64 a) (hy : IsK (ev l y) .u64 b) (hb : Nat.blt d n = true) (hn : a + b < 18446744073709551616)
    (k : S P n ops Ch E Q (i + 1) ((d, U (a + b)) :: l) h) : O P n ops Ch E Q i d (.binOp .add t x y yt) l h :=
  s_bin hx.h hy.h hb (fun w' => by
    show Result.ok (Value.int .u64 (IntKind.u64.wrap ((a : Int) + b))) w' = _
    rw [← Int.natCast_add, wrapU_in _ hn]) k
theorem s_addUw (hx : IsK (ev l x) .u64 a) (hy : IsK (ev l y) .u64 b) (hb : Nat.blt d n = true)
    (k : S P n ops Ch E Q (i + 1) ((d, U ((a + b) % 18446744073709551616)) :: l) h) : O P n ops Ch E Q i d (.binOp .add t x y yt) l h :=
  s_bin hx.h hy.h hb (fun w' => by
    show Result.ok (Value.int .u64 (IntKind.u64.wrap ((a : Int) + b))) w' = _
    rw [← Int.natCast_add, wrapU]) k
theorem s_subU (hx : IsK (ev l x) .u64 a) (hy : IsK (ev l y) .u64 b) (hb : Nat.blt d n = true) (hn : b ≤ a ∧ a < 18446744073709551616)
    (k : S P n ops Ch E Q (i + 1) ((d, U (a - b)) :: l) h) : O P n ops Ch E Q i d (.binOp .sub t x y yt) l h :=
  s_bin hx.h hy.h hb (fun w' => by
    show Result.ok (Value.int .u64 (IntKind.u64.wrap ((a : Int) - b))) w' = _
    rw [← Int.ofNat_sub hn.1, wrapU_in _ (by omega)]) k
theorem s_subUw (hx : IsK (ev l x) .u64 a) (hy : IsK (ev l y) .u64 b) (hb : Nat.blt d n = true) (hn : b ≤ 18446744073709551616)
    (k : S P n ops Ch E Q (i + 1) ((d, U ((a + (18446744073709551616 - b)) % 18446744073709551616)) :: l) h) : O P n ops Ch E Q i d (.binOp .sub t x y yt) l h :=
  s_bin hx.h hy.h hb (fun w' => by
    show Result.ok (Value.int .u64 (IntKind.u64.wrap ((a : Int) - b))) w' = _
    rw [IntKind.wrap_u64]; congr 2; omega) k
theorem s_mulU (hx : IsK (ev l x) .u64 a) (hy : IsK (ev l y) .u64 b) (hb : Nat.blt d n = true) (hn : a * b < 18446744073709551616)
    (k : S P n ops Ch E Q (i + 1) ((d, U (a * b)) :: l) h) : O P n ops Ch E Q i d (.binOp .mul t x y yt) l h :=
  s_bin hx.h hy.h hb (fun w' => by
    show Result.ok (Value.int .u64 (IntKind.u64.wrap ((a : Int) * b))) w' = _
    rw [← Int.natCast_mul, wrapU_in _ hn]) k
theorem s_mulUw (hx : IsK (ev l x) .u64 a) (hy : IsK (ev l y) .u64 b) (hb : Nat.blt d n = true)
    (k : S P n ops Ch E Q (i + 1) ((d, U (a * b % 18446744073709551616)) :: l) h) : O P n ops Ch E Q i d (.binOp .mul t x y yt) l h :=
  s_bin hx.h hy.h hb (fun w' => by
    show Result.ok (Value.int .u64 (IntKind.u64.wrap ((a : Int) * b))) w' = _
    rw [← Int.natCast_mul, wrapU]) k
theorem s_quoU (hx : IsK (ev l x) .u64 a) (hy : IsK (ev l y) .u64 b) (hb : Nat.blt d n = true) (hn : 0 < b ∧ a < 18446744073709551616)
    (k : S P n ops Ch E Q (i + 1) ((d, U (a / b)) :: l) h) : O P n ops Ch E Q i d (.binOp .quo t x y yt) l h :=
  s_bin hx.h hy.h hb (fun w' => by
    show (Op.intDiv .quo .u64 (a : Int) (b : Int)).run P w' = _
    unfold Op.intDiv
    rw [if_neg (by omega)]
    show Result.ok (Value.int .u64 (IntKind.u64.wrap ((a : Int).tdiv b))) w' = _
    rw [← Int.ofNat_tdiv, wrapU_in _ (Nat.lt_of_le_of_lt (Nat.div_le_self a b) hn.2)]) k
theorem s_remU (hx : IsK (ev l x) .u64 a) (hy : IsK (ev l y) .u64 b) (hb : Nat.blt d n = true) (hn : 0 < b)
    (k : S P n ops Ch E Q (i + 1) ((d, U (a % b)) :: l) h) : O P n ops Ch E Q i d (.binOp .rem t x y yt) l h :=
  s_bin hx.h hy.h hb (fun w' => by
    show (Op.intDiv .rem .u64 (a : Int) (b : Int)).run P w' = _
    unfold Op.intDiv
    rw [if_neg (by omega)]
    show Result.ok (Value.int .u64 ((a : Int).tmod b)) w' = _
    rw [← Int.ofNat_tmod]) k
theorem s_andU (hx : IsK (ev l x) .u64 a) (hy : IsK (ev l y) .u64 b) (hb : Nat.blt d n = true) (hn : a < 18446744073709551616 ∧ b < 18446744073709551616)
    (k : S P n ops Ch E Q (i + 1) ((d, U (a &&& b)) :: l) h) : O P n ops Ch E Q i d (.binOp .and t x y yt) l h :=
  s_bin hx.h hy.h hb (fun w' => by
    show Result.ok (Value.int .u64 (bits .and .u64 (a : Int) b)) w' = _
    rw [bits_and_u64_nat _ _ hn.1 hn.2]) k
theorem s_orU (hx : IsK (ev l x) .u64 a) (hy : IsK (ev l y) .u64 b) (hb : Nat.blt d n = true) (hn : a < 18446744073709551616 ∧ b < 18446744073709551616)
    (k : S P n ops Ch E Q (i + 1) ((d, U (a ||| b)) :: l) h) : O P n ops Ch E Q i d (.binOp .or t x y yt) l h :=
  s_bin hx.h hy.h hb (fun w' => by
    show Result.ok (Value.int .u64 (bits .or .u64 (a : Int) b)) w' = _
    rw [bits_or_u64_nat _ _ hn.1 hn.2]) k
theorem s_xorU (hx : IsK (ev l x) .u64 a) (hy : IsK (ev l y) .u64 b) (hb : Nat.blt d n = true) (hn : a < 18446744073709551616 ∧ b < 18446744073709551616)
    (k : S P n ops Ch E Q (i + 1) ((d, U (a ^^^ b)) :: l) h) : O P n ops Ch E Q i d (.binOp .xor t x y yt) l h :=
  s_bin hx.h hy.h hb (fun w' => by
    show Result.ok (Value.int .u64 (bits .xor .u64 (a : Int) b)) w' = _
    rw [bits_xor_u64_nat _ _ hn.1 hn.2]) k
theorem s_shlU {yk : IntKind} {c : Nat} (hx : IsK (ev l x) .u64 a) (hy : IsK (ev l y) yk c) (hb : Nat.blt d n = true) (hn : c ≤ 64)
    (k : S P n ops Ch E Q (i + 1) ((d, U (a * 2 ^ c % 18446744073709551616)) :: l) h) : O P n ops Ch E Q i d (.binOp .shl t x y yt) l h :=
  s_bin hx.h hy.h hb (fun w' => by
    show (Op.shift .shl .u64 (a : Int) yk (c : Int)).run P w' = _
    unfold Op.shift
    rw [if_neg (by omega)]
    show Result.ok (Value.int .u64 (IntKind.u64.wrap ((a : Int) * 2 ^ (min (c : Int).toNat 64)))) w' = _
    rw [show min (c : Int).toNat 64 = c by omega, show ((a : Int) * 2 ^ c) = ((a * 2 ^ c : Nat) : Int) by simp, wrapU]) k
theorem s_shrU {yk : IntKind} {c : Nat} (hx : IsK (ev l x) .u64 a) (hy : IsK (ev l y) yk c) (hb : Nat.blt d n = true) (hn : c ≤ 64)
    (k : S P n ops Ch E Q (i + 1) ((d, U (a / 2 ^ c)) :: l) h) : O P n ops Ch E Q i d (.binOp .shr t x y yt) l h :=
  s_bin hx.h hy.h hb (fun w' => by
    show (Op.shift .shr .u64 (a : Int) yk (c : Int)).run P w' = _
    unfold Op.shift
    rw [if_neg (by omega)]
    show Result.ok (Value.int .u64 ((a : Int).fdiv (2 ^ (min (c : Int).toNat 64)))) w' = _
    rw [show min (c : Int).toNat 64 = c by omega, fdivN]) k
theorem s_negU (hx : IsK (ev l x) .u64 a) (hb : Nat.blt d n = true) (hn : a ≤ 18446744073709551616)
    (k : S P n ops Ch E Q (i + 1) ((d, U ((18446744073709551616 - a) % 18446744073709551616)) :: l) h) : O P n ops Ch E Q i d (.unOp .neg t x) l h :=
  s_pure hb (fun A w' hf => by
    simp only [execOp, hf.ev hx.h]
    show Result.ok (Next.value (Value.int .u64 (IntKind.u64.wrap (0 - (a : Int))))) w' = _
    rw [IntKind.wrap_u64]; congr 3; omega) k
theorem s_eqU (hx : IsK (ev l x) .u64 a) (hy : IsK (ev l y) .u64 b) (hb : Nat.blt d n = true)
    (k : S P n ops Ch E Q (i + 1) ((d, .bool (decide (a = b))) :: l) h) : O P n ops Ch E Q i d (.binOp .eql t x y yt) l h :=
  s_bin hx.h hy.h hb (fun w' => by
    show Result.ok (Value.bool ((a : Int) == (b : Int))) w' = _
    congr 2; rw [Bool.eq_iff_iff]; simp; omega) k
theorem s_neU (hx : IsK (ev l x) .u64 a) (hy : IsK (ev l y) .u64 b) (hb : Nat.blt d n = true)
    (k : S P n ops Ch E Q (i + 1) ((d, .bool (decide (a ≠ b))) :: l) h) : O P n ops Ch E Q i d (.binOp .neq t x y yt) l h :=
  s_bin hx.h hy.h hb (fun w' => by
    show Result.ok (Value.bool ((a : Int) != (b : Int))) w' = _
    congr 2; rw [Bool.eq_iff_iff]; simp; omega) k
theorem s_ltU (hx : IsK (ev l x) .u64 a) (hy : IsK (ev l y) .u64 b) (hb : Nat.blt d n = true)
    (k : S P n ops Ch E Q (i + 1) ((d, .bool (decide (a < b))) :: l) h) : O P n ops Ch E Q i d (.binOp .lss t x y yt) l h :=
  s_bin hx.h hy.h hb (fun w' => by
    show Result.ok (Value.bool (decide ((a : Int) < (b : Int)))) w' = _
    congr 2; rw [Bool.eq_iff_iff]; simp) k
theorem s_leU (hx : IsK (ev l x) .u64 a) (hy : IsK (ev l y) .u64 b) (hb : Nat.blt d n = true)
    (k : S P n ops Ch E Q (i + 1) ((d, .bool (decide (a ≤ b))) :: l) h) : O P n ops Ch E Q i d (.binOp .leq t x y yt) l h :=
  s_bin hx.h hy.h hb (fun w' => by
    show Result.ok (Value.bool (decide ((a : Int) ≤ (b : Int)))) w' = _
    congr 2; rw [Bool.eq_iff_iff]; simp) k
theorem s_gtU (hx : IsK (ev l x) .u64 a) (hy : IsK (ev l y) .u64 b) (hb : Nat.blt d n = true)
    (k : S P n ops Ch E Q (i + 1) ((d, .bool (decide (b < a))) :: l) h) : O P n ops Ch E Q i d (.binOp .gtr t x y yt) l h :=
  s_bin hx.h hy.h hb (fun w' => by
    show Result.ok (Value.bool (decide ((a : Int) > (b : Int)))) w' = _
    congr 2; rw [Bool.eq_iff_iff]; simp) k
theorem s_geU (hx : IsK (ev l x) .u64 a) (hy : IsK (ev l y) .u64 b) (hb : Nat.blt d n = true)
    (k : S P n ops Ch E Q (i + 1) ((d, .bool (decide (b ≤ a))) :: l) h) : O P n ops Ch E Q i d (.binOp .geq t x y yt) l h :=
  s_bin hx.h hy.h hb (fun w' => by
    show Result.ok (Value.bool (decide ((a : Int) ≥ (b : Int)))) w' = _
    congr 2; rw [Bool.eq_iff_iff]; simp) k
end u64

section i64
variable {a b : Int}

theorem s_addI (hx : ev l x = some (I a)) (hy : ev l y = some (I b)) (hb : Nat.blt d n = true) (hn : -9223372036854775808 ≤ a + b ∧ a + b < 9223372036854775808)
    (k : S P n ops Ch E Q (i + 1) ((d, I (a + b)) :: l) h) : O P n ops Ch E Q i d (.binOp .add t x y yt) l h :=
  s_bin hx hy hb (fun w' => by
    show Result.ok (Value.int .i64 (IntKind.i64.wrap (a + b))) w' = _
    rw [wrapI_in _ hn]) k
theorem s_subI (hx : ev l x = some (I a)) (hy : ev l y = some (I b)) (hb : Nat.blt d n = true) (hn : -9223372036854775808 ≤ a - b ∧ a - b < 9223372036854775808)
    (k : S P n ops Ch E Q (i + 1) ((d, I (a - b)) :: l) h) : O P n ops Ch E Q i d (.binOp .sub t x y yt) l h :=
  s_bin hx hy hb (fun w' => by
    show Result.ok (Value.int .i64 (IntKind.i64.wrap (a - b))) w' = _
    rw [wrapI_in _ hn]) k
theorem s_negI (hx : ev l x = some (I a)) (hb : Nat.blt d n = true) (hn : -9223372036854775808 < a ∧ a ≤ 9223372036854775808)
    (k : S P n ops Ch E Q (i + 1) ((d, I (-a)) :: l) h) : O P n ops Ch E Q i d (.unOp .neg t x) l h :=
  s_pure hb (fun A w' hf => by
    simp only [execOp, hf.ev hx]
    show Result.ok (Next.value (Value.int .i64 (IntKind.i64.wrap (0 - a)))) w' = _
    rw [wrapI_in _ (by omega)]; congr 3; omega) k
theorem s_eqI (hx : ev l x = some (I a)) (hy : ev l y = some (I b)) (hb : Nat.blt d n = true)
    (k : S P n ops Ch E Q (i + 1) ((d, .bool (decide (a = b))) :: l) h) : O P n ops Ch E Q i d (.binOp .eql t x y yt) l h :=
  s_bin hx hy hb (fun w' => by
    show Result.ok (Value.bool (a == b)) w' = _
    congr 2) k
theorem s_neI (hx : ev l x = some (I a)) (hy : ev l y = some (I b)) (hb : Nat.blt d n = true)
    (k : S P n ops Ch E Q (i + 1) ((d, .bool (decide (a ≠ b))) :: l) h) : O P n ops Ch E Q i d (.binOp .neq t x y yt) l h :=
  s_bin hx hy hb (fun w' => by
    show Result.ok (Value.bool (a != b)) w' = _
    congr 2; rw [Bool.eq_iff_iff]; simp) k
theorem s_ltI (hx : ev l x = some (I a)) (hy : ev l y = some (I b)) (hb : Nat.blt d n = true)
    (k : S P n ops Ch E Q (i + 1) ((d, .bool (decide (a < b))) :: l) h) : O P n ops Ch E Q i d (.binOp .lss t x y yt) l h :=
  s_bin hx hy hb (fun _ => rfl) k
theorem s_leI (hx : ev l x = some (I a)) (hy : ev l y = some (I b)) (hb : Nat.blt d n = true)
    (k : S P n ops Ch E Q (i + 1) ((d, .bool (decide (a ≤ b))) :: l) h) : O P n ops Ch E Q i d (.binOp .leq t x y yt) l h :=
  s_bin hx hy hb (fun _ => rfl) k
theorem s_gtI (hx : ev l x = some (I a)) (hy : ev l y = some (I b)) (hb : Nat.blt d n = true)
    (k : S P n ops Ch E Q (i + 1) ((d, .bool (decide (b < a))) :: l) h) : O P n ops Ch E Q i d (.binOp .gtr t x y yt) l h :=
  s_bin hx hy hb (fun _ => rfl) k
theorem s_geI (hx : ev l x = some (I a)) (hy : ev l y = some (I b)) (hb : Nat.blt d n = true)
    (k : S P n ops Ch E Q (i + 1) ((d, .bool (decide (b ≤ a))) :: l) h) : O P n ops Ch E Q i d (.binOp .geq t x y yt) l h :=
  s_bin hx hy hb (fun _ => rfl) k
end i64

theorem s_conv {src dst : TypeId} {k0 k1 : IntKind} {a : Int} {u : TypeDesc} (hx : ev l x = some (.int k0 a)) (hs : P.underlying src = some u) (hd : P.underlying dst = some (.int k1)) (hb : Nat.blt d n = true)
    (k : S P n ops Ch E Q (i + 1) ((d, .int k1 (k1.wrap a)) :: l) h) : O P n ops Ch E Q i d (.convert src dst x) l h :=
  s_pure hb (fun A w' hf => by
    simp only [execOp, hf.ev hx]
    simp [convert, underlying, hs, hd, Conv.intToInt, program, Sem.run]) k

theorem s_convU {src dst : TypeId} {k0 : IntKind} {a : Nat} {u : TypeDesc} (hx : IsK (ev l x) k0 a) (hs : P.underlying src = some u) (hd : P.underlying dst = some (.int .u64)) (hb : Nat.blt d n = true) (hn : a < 18446744073709551616)
    (k : S P n ops Ch E Q (i + 1) ((d, U a) :: l) h) : O P n ops Ch E Q i d (.convert src dst x) l h :=
  s_conv hx.h hs hd hb (by rw [wrapU_in _ hn]; exact k)
theorem s_convUN {src dst : TypeId} {k0 : IntKind} {a : Int} {u : TypeDesc} (m : Nat) (hx : ev l x = some (.int k0 a)) (hs : P.underlying src = some u) (hd : P.underlying dst = some (.int .u64)) (hb : Nat.blt d n = true) (ha : a = (m : Int)) (hn : m < 18446744073709551616)
    (k : S P n ops Ch E Q (i + 1) ((d, U m) :: l) h) : O P n ops Ch E Q i d (.convert src dst x) l h :=
  s_conv hx hs hd hb (by rw [ha, wrapU_in _ hn]; exact k)
theorem s_convUw {src dst : TypeId} {k0 : IntKind} {a : Int} {u : TypeDesc} (m : Nat) (hx : ev l x = some (.int k0 a)) (hs : P.underlying src = some u) (hd : P.underlying dst = some (.int .u64)) (hb : Nat.blt d n = true) (ha : a % 18446744073709551616 = (m : Int))
    (k : S P n ops Ch E Q (i + 1) ((d, U m) :: l) h) : O P n ops Ch E Q i d (.convert src dst x) l h :=
  s_conv hx hs hd hb (by rw [IntKind.wrap_u64, ha]; exact k)
theorem s_convI {src dst : TypeId} {k0 : IntKind} {a : Int} {u : TypeDesc} (hx : ev l x = some (.int k0 a)) (hs : P.underlying src = some u) (hd : P.underlying dst = some (.int .i64)) (hb : Nat.blt d n = true) (hn : -9223372036854775808 ≤ a ∧ a < 9223372036854775808)
    (k : S P n ops Ch E Q (i + 1) ((d, I a) :: l) h) : O P n ops Ch E Q i d (.convert src dst x) l h :=
  s_conv hx hs hd hb (by rw [wrapI_in _ hn]; exact k)
theorem s_shlU' {a : Nat} {yk : IntKind} {c : Nat} (hx : IsK (ev l x) .u64 a) (hy : IsK (ev l y) yk c) (hb : Nat.blt d n = true) (hn : c ≤ 64) (hm : a * 2 ^ c < 18446744073709551616)
    (k : S P n ops Ch E Q (i + 1) ((d, U (a * 2 ^ c)) :: l) h) : O P n ops Ch E Q i d (.binOp .shl t x y yt) l h :=
  s_shlU hx hy hb hn (by rw [Nat.mod_eq_of_lt hm]; exact k)


def Ent (P : Program) (f : FuncId) : Prop := ∀ args w, (callFunc f args).run P w = .ok (.enter f args) w

theorem ent_of {f : FuncId} {fn : Func} {c : Code} (hf : P.funcs[f]? = some fn) (hname : (fn.name == "runtime.NumGoroutine") = false) (hb : fn.body = some c) : Ent P f := by
  intro args w
  have h1 : fn.name ≠ "runtime.NumGoroutine" := by simpa using hname
  simp [callFunc, hf, h1, hb, program, Sem.run]

theorem run_static {ty : TypeId} {ps : String} {af : Array Edge} {g : Option (Nat × Bool)} {a : Act} {f : FuncId} {args : Array Operand} {at_ : Array TypeId} {w : World} : (execOp a.eval ⟨some d, .call ⟨.value (.func f), args, at_⟩, ty, ps, af, g⟩).run P w = (callFunc f (args.map a.eval)).run P w := by
  simp [execOp, resolve, Deferred.ofValue, Act.eval, invoke]

theorem s_call {f : FuncId} {args : List Operand} {at_ : Array TypeId} {vs : List Value} (he : Ent P f) (ha : evs l args = some vs) (hE : E i = true) (hb : Nat.blt d n = true)
    (k : CallsH P f vs h fun v h' => Ch h' ∧ S P n ops Ch E Q (i + 1) ((d, v) :: l) h') : O P n ops Ch E Q i d (.call ⟨.value (.func f), args.toArray, at_⟩) l h :=
  O.mk fun ho hg => s_eff ho hE hg fun a w hf hw => by
    unfold Eff
    rw [run_static, he]
    have : args.toArray.map a.eval = vs.toArray := by simp [hf.evs ha]
    rw [this]
    refine (k w hw).mono fun e w' hq => ?_
    obtain ⟨v, rfl, ⟨h1, h2⟩, h3⟩ := hq
    exact ⟨h3, h1, _, hf.put d v hb, h2⟩

theorem s_extern {f : FuncId} {args : List Operand} {at_ : Array TypeId} {vs : List Value} {v : Value} (he : ∀ w, (callFunc f vs.toArray).run P w = .ok (.value v) w) (ha : evs l args = some vs) (hb : Nat.blt d n = true)
    (k : S P n ops Ch E Q (i + 1) ((d, v) :: l) h) : O P n ops Ch E Q i d (.call ⟨.value (.func f), args.toArray, at_⟩) l h :=
  s_pure hb (fun a w' hf => by
    rw [run_static]
    have : args.toArray.map a.eval = vs.toArray := by simp [hf.evs ha]
    rw [this]; exact he w') k

end


def Fin (P : Program) (n : Nat) (fn : Func) (R : Value → Hp → Prop) : Post
  | .normal, l, h | .ret, l, h => ∃ v, (∀ a w, Fits l n a → w.heap = h → (results fn a.tmps).run P w = .ok v w) ∧ R v h
  | _, _, _ => False

def frm : Nat → List Value → Fr
  | _, [] => []
  | i, v :: vs => (i, v) :: frm (i + 1) vs

theorem look_frm : ∀ (vs : List Value) (i j : Nat) (v : Value), look (frm i vs) j = some v → i ≤ j ∧ vs[j - i]? = some v
  | [], _, _, _, e => by cases e
  | u :: vs, i, j, v, e => by
    simp only [frm, look] at e
    cases hj : Nat.beq j i with
    | true =>
      have := Nat.eq_of_beq_eq_true hj
      subst this
      rw [hj] at e
      simp only [cond_true] at e
      cases e
      simp
    | false =>
      rw [hj] at e
      obtain ⟨h1, h2⟩ := look_frm vs (i + 1) j v e
      refine ⟨by omega, ?_⟩
      rw [show j - i = (j - (i + 1)) + 1 by omega]
      simpa using h2

theorem enter {P : Program} {f : FuncId} {fn : Func} {n : Nat} {args : List Value} {h : Hp} {R : Value → Hp → Prop}
    (hf : P.funcs[f]? = some fn) (hb : fn.body.isSome = true) (hn : fn.ntmps = n) (ha : Nat.ble args.length n = true)
    (k : W P n (bodyOf fn) (Fin P n fn R) (frm 0 args) h) : CallsH P f args h R := fun w hw => by
  have ha' : args.length ≤ n := Nat.le_of_ble_eq_true ha
  obtain ⟨c, hc⟩ := Option.isSome_iff_exists.1 hb
  have hbc : bodyOf fn = c := by simp [bodyOf, hc]
  rw [hbc] at k
  refine calls_of_wp hf hc (wp_mono (k.run _ w ?_ hw) fun e a w' hq => ?_)
  · refine ⟨by simp [hn]; omega, fun i v hv => ?_, rfl⟩
    obtain ⟨-, h2⟩ := look_frm _ _ _ _ hv
    have hi : i < args.length := by
      have := (List.getElem?_eq_some_iff.1 h2).1
      simpa using this
    simp only [Nat.sub_zero] at h2 ⊢
    rw [Array.getElem?_append_left (by simpa using hi)]
    simpa using h2
  · obtain ⟨l, h1, h2, h3⟩ := hq
    cases e with
    | normal => obtain ⟨v, g1, g2⟩ := h2; exact ⟨h1.defers, v, g1 a w' h1 rfl, v, rfl, g2, h3⟩
    | ret => obtain ⟨v, g1, g2⟩ := h2; exact ⟨h1.defers, v, g1 a w' h1 rfl, v, rfl, g2, h3⟩
    | exit id => exact h2.elim
    | goto l => exact h2.elim
    | panic c => exact h2.elim
    | outgrown => exact h2.elim

section fin
variable {P : Program} {n : Nat} {fn : Func} {R : Value → Hp → Prop} {l : Fr} {h : Hp}
theorem fin1 {t : Nat} {v : Value} (hr : fn.results = #[.tmp t]) (hl : look l t = some v) (k : R v h) : At (Fin P n fn R) .ret l h :=
  ⟨⟨v, fun a w hf _ => by simp [results, hr, hf.slots t v hl], k⟩⟩
theorem fin2 {t u : Nat} {v v2 : Value} (hr : fn.results = #[.tmp t, .tmp u]) (hl : look l t = some v) (hl2 : look l u = some v2) (k : R (.tuple #[v, v2]) h) : At (Fin P n fn R) .ret l h :=
  ⟨⟨_, fun a w hf _ => by simp [results, hr, hf.slots t v hl, hf.slots u v2 hl2], k⟩⟩
theorem fin3 {t u s : Nat} {v v2 v3 : Value} (hr : fn.results = #[.tmp t, .tmp u, .tmp s]) (hl : look l t = some v) (hl2 : look l u = some v2) (hl3 : look l s = some v3) (k : R (.tuple #[v, v2, v3]) h) : At (Fin P n fn R) .ret l h :=
  ⟨⟨_, fun a w hf _ => by simp [results, hr, hf.slots t v hl, hf.slots u v2 hl2, hf.slots s v3 hl3], k⟩⟩
end fin

structure Res (R : Prop) : Prop where mk ::
  get : R
theorem run {R G : Prop} (r : R) (k : Res R → G := by intro r; (repeat (first | (apply s_moveUc; exact rfl) | (apply s_move; exact rfl; exact rfl) | (apply s_assignUc; exact rfl) | (apply s_assign; exact rfl; exact rfl) | (apply s_extract; exact rfl; exact rfl; exact rfl) | (apply s_pickT; exact rfl; exact rfl; exact rfl) | (apply s_pickF; exact rfl; exact rfl; exact rfl) | (apply s_not; exact rfl; exact rfl) | (apply s_eqU; (first | exact isK_c | exact isK_t rfl); (first | exact isK_c | exact isK_t rfl); exact rfl) | (apply s_neU; (first | exact isK_c | exact isK_t rfl); (first | exact isK_c | exact isK_t rfl); exact rfl) | (apply s_ltU; (first | exact isK_c | exact isK_t rfl); (first | exact isK_c | exact isK_t rfl); exact rfl) | (apply s_leU; (first | exact isK_c | exact isK_t rfl); (first | exact isK_c | exact isK_t rfl); exact rfl) | (apply s_gtU; (first | exact isK_c | exact isK_t rfl); (first | exact isK_c | exact isK_t rfl); exact rfl) | (apply s_geU; (first | exact isK_c | exact isK_t rfl); (first | exact isK_c | exact isK_t rfl); exact rfl) | (apply s_eqI; exact rfl; exact rfl; exact rfl) | (apply s_neI; exact rfl; exact rfl; exact rfl) | (apply s_ltI; exact rfl; exact rfl; exact rfl) | (apply s_leI; exact rfl; exact rfl; exact rfl) | (apply s_gtI; exact rfl; exact rfl; exact rfl) | (apply s_geI; exact rfl; exact rfl; exact rfl) | (apply s_addI; exact rfl; exact rfl; exact rfl; (first | assumption | omega)) | (apply s_subI; exact rfl; exact rfl; exact rfl; (first | assumption | omega)) | (apply s_addU; (first | exact isK_c | exact isK_t rfl); (first | exact isK_c | exact isK_t rfl); exact rfl; (first | assumption | omega)) | (apply s_subU; (first | exact isK_c | exact isK_t rfl); (first | exact isK_c | exact isK_t rfl); exact rfl; (first | assumption | omega)) | (apply s_remU; (first | exact isK_c | exact isK_t rfl); (first | exact isK_c | exact isK_t rfl); exact rfl; (first | assumption | omega)) | (apply s_quoU; (first | exact isK_c | exact isK_t rfl); (first | exact isK_c | exact isK_t rfl); exact rfl; (first | assumption | omega)) | (apply s_mulU; (first | exact isK_c | exact isK_t rfl); (first | exact isK_c | exact isK_t rfl); exact rfl; (first | assumption | omega)) | (apply s_shlU'; (first | exact isK_c | exact isK_t rfl); (first | exact isK_c | exact isK_t rfl); exact rfl; (first | assumption | omega); (first | assumption | omega)) | (apply s_shlU; (first | exact isK_c | exact isK_t rfl); (first | exact isK_c | exact isK_t rfl); exact rfl; (first | assumption | omega)) | (apply s_shrU; (first | exact isK_c | exact isK_t rfl); (first | exact isK_c | exact isK_t rfl); exact rfl; (first | assumption | omega)) | (apply s_andU; (first | exact isK_c | exact isK_t rfl); (first | exact isK_c | exact isK_t rfl); exact rfl; (first | assumption | omega)) | (apply s_orU; (first | exact isK_c | exact isK_t rfl); (first | exact isK_c | exact isK_t rfl); exact rfl; (first | assumption | omega)) | (apply s_xorU; (first | exact isK_c | exact isK_t rfl); (first | exact isK_c | exact isK_t rfl); exact rfl; (first | assumption | omega)) | (apply s_negI; exact rfl; exact rfl; (first | assumption | omega)) | (apply s_negU; (first | exact isK_c | exact isK_t rfl); exact rfl; (first | assumption | omega)) | (apply s_convU; (first | exact isK_c | exact isK_t rfl); exact rfl; exact rfl; exact rfl; (first | assumption | omega)) | (apply s_convI; exact rfl; exact rfl; exact rfl; exact rfl; (first | assumption | omega)) | (apply s_op; exact rfl; exact rfl) | (apply s_skip; exact rfl; exact rfl; exact rfl) | (apply s_nil; exact rfl) | apply then_normal | apply then_ret | apply then_exit | apply inb_normal | apply inb_ret | apply inb_here | (apply inb_past; exact rfl) | apply again_exit | apply again_ret | apply cut_exit | apply cut_ret | (apply w_seq; exact rfl) | (apply r_plain; exact rfl) | (apply w_block; exact rfl) | (apply w_ret; exact rfl) | (apply w_cond_true; exact rfl; exact rfl) | (apply w_cond_false; exact rfl; exact rfl) | (apply w_exit; exact rfl) | (apply w_skip; exact rfl) | (apply w_label; exact rfl) | (apply r_drawnA; exact rfl; exact mixed; kernel_rfl))); exact r.get) : G := k ⟨r⟩
theorem runS {R G : Prop} (r : R) (k : Res R → G := by intro r; (repeat (first | (apply s_moveUc; exact rfl) | (apply s_move; exact rfl; exact rfl) | (apply s_assignUc; exact rfl) | (apply s_assign; exact rfl; exact rfl) | (apply s_extract; exact rfl; exact rfl; exact rfl) | (apply s_pickT; exact rfl; exact rfl; exact rfl) | (apply s_pickF; exact rfl; exact rfl; exact rfl) | (apply s_not; exact rfl; exact rfl) | (apply s_eqU; (first | exact isK_c | exact isK_t rfl); (first | exact isK_c | exact isK_t rfl); exact rfl) | (apply s_neU; (first | exact isK_c | exact isK_t rfl); (first | exact isK_c | exact isK_t rfl); exact rfl) | (apply s_ltU; (first | exact isK_c | exact isK_t rfl); (first | exact isK_c | exact isK_t rfl); exact rfl) | (apply s_leU; (first | exact isK_c | exact isK_t rfl); (first | exact isK_c | exact isK_t rfl); exact rfl) | (apply s_gtU; (first | exact isK_c | exact isK_t rfl); (first | exact isK_c | exact isK_t rfl); exact rfl) | (apply s_geU; (first | exact isK_c | exact isK_t rfl); (first | exact isK_c | exact isK_t rfl); exact rfl) | (apply s_eqI; exact rfl; exact rfl; exact rfl) | (apply s_neI; exact rfl; exact rfl; exact rfl) | (apply s_ltI; exact rfl; exact rfl; exact rfl) | (apply s_leI; exact rfl; exact rfl; exact rfl) | (apply s_gtI; exact rfl; exact rfl; exact rfl) | (apply s_geI; exact rfl; exact rfl; exact rfl) | (apply s_op; exact rfl; exact rfl) | (apply s_skip; exact rfl; exact rfl; exact rfl) | (apply s_nil; exact rfl) | apply then_normal | apply then_ret | apply then_exit | apply inb_normal | apply inb_ret | apply inb_here | (apply inb_past; exact rfl) | apply again_exit | apply again_ret | apply cut_exit | apply cut_ret | (apply w_seq; exact rfl) | (apply r_plain; exact rfl) | (apply w_block; exact rfl) | (apply w_ret; exact rfl) | (apply w_cond_true; exact rfl; exact rfl) | (apply w_cond_false; exact rfl; exact rfl) | (apply w_exit; exact rfl) | (apply w_skip; exact rfl) | (apply w_label; exact rfl) | (apply r_drawnA; exact rfl; exact mixed; kernel_rfl))); exact r.get) : G := k ⟨r⟩
theorem subs {l' l : Fr} (h : Sub l' l := by repeat (first | exact Sub.nil _ | refine Sub.cons rfl ?_)) : Sub l' l := h
theorem subsX {l' l : Fr} (h : Sub l' l := by repeat (first | exact Sub.nil _ | refine Sub.consE rfl (by first | rfl | (refine congrArg I ?_; (try dsimp only); omega) | (refine congrArg Value.bool ?_; simp [*])) ?_)) : Sub l' l := h
theorem clsI {a b : Prop} (k : b) (h : a := by first | exact trivial | exact Ext.refl _ | assumption | exact Ext.trans (by assumption) (by assumption)) : a ∧ b := ⟨h, k⟩


def cellH (h : Hp) (b o : Nat) : Option Value := match h[b]? with
  | some (.cells c _ _) => c[o]?
  | _ => none
theorem cell?_cellH (w : World) (b o : Nat) : w.cell? ⟨b, o, none⟩ = cellH w.heap b o := by
  unfold World.cell? cellH
  cases w.heap[b]? with
  | none => rfl
  | some o => cases o <;> rfl

def Only (r : Option Nat) (h h' : Hp) : Prop := h.size ≤ h'.size ∧ ∀ k, k < h.size → some k ≠ r → h'[k]? = h[k]?
theorem Ext.only {h h' : Hp} (e : Ext h h') (r : Option Nat) : Only r h h' := ⟨e.1, fun k hk _ => e.2 k hk⟩
theorem Only.ext {h h' : Hp} (e : Only none h h') : Ext h h' := ⟨e.1, fun k hk => e.2 k hk (by simp)⟩
theorem Only.refl (r : Option Nat) (h : Hp) : Only r h h := ⟨Nat.le_refl _, fun _ _ _ => rfl⟩
theorem Only.trans {r : Option Nat} {a b c : Hp} (h : Only r a b) (k : Only r b c) : Only r a c :=
  ⟨Nat.le_trans h.1 k.1, fun i hi hn => (k.2 i (Nat.lt_of_lt_of_le hi h.1) hn).trans (h.2 i hi hn)⟩
theorem Only.old {r : Option Nat} {h0 h h' : Hp} (o : Only r h h') (e : Ext h0 h) (hr : ∀ k, r = some k → h0.size ≤ k) : Ext h0 h' :=
  ⟨Nat.le_trans e.1 o.1, fun k hk => (o.2 k (Nat.lt_of_lt_of_le hk e.1) (fun q => by have := hr k q.symm; omega)).trans (e.2 k hk)⟩

theorem cellH_lt {h : Hp} {b o : Nat} {u : Value} (hc : cellH h b o = some u) : b < h.size := by
  unfold cellH at hc
  by_cases hb : b < h.size
  · exact hb
  · rw [Array.getElem?_eq_none (by omega)] at hc; cases hc
theorem cellH_only {r : Option Nat} {h h' : Hp} {b o : Nat} {u : Value} (e : Only r h h') (hne : some b ≠ r) (hc : cellH h b o = some u) : cellH h' b o = some u := by
  have := cellH_lt hc
  unfold cellH at hc ⊢
  rw [e.2 b this hne]; exact hc

def Sl (h : Hp) (v : Value) (n : Nat) (cs : List Value) : Prop :=
  ((∃ a c, v = .slice a 0 c ∧ (a = none → c = 0)) ∧ n = 0 ∧ cs = []) ∨ ∃ b o c, v = .slice (some ⟨b, o, none⟩) n c ∧ n ≤ c ∧ ∀ j u, cs[j]? = some u → cellH h b (o + j) = some u

theorem Sl.nil (h : Hp) : Sl h (.slice none 0 0) 0 [] := .inl ⟨⟨none, 0, rfl, fun _ => rfl⟩, rfl, rfl⟩
theorem Sl.empty (h : Hp) (a : Addr) (c : Nat) : Sl h (.slice (some a) 0 c) 0 [] := .inl ⟨⟨some a, c, rfl, fun e => by cases e⟩, rfl, rfl⟩
theorem Sl.only {r : Option Nat} {h h' : Hp} {v : Value} {n : Nat} {cs : List Value} (s : Sl h v n cs) (e : Only r h h') (hne : v.ownBlock = none ∨ v.ownBlock ≠ r) : Sl h' v n cs := by
  rcases s with s | ⟨b, o, c, rfl, hc, s⟩
  · exact .inl s
  · exact .inr ⟨b, o, c, rfl, hc, fun j u hu => cellH_only e (by simpa [Value.ownBlock] using hne) (s j u hu)⟩
theorem Sl.ext {h h' : Hp} {v : Value} {n : Nat} {cs : List Value} (s : Sl h v n cs) (e : Ext h h') : Sl h' v n cs := by
  rcases s with s | ⟨b, o, c, rfl, hc, s⟩
  · exact .inl s
  · exact .inr ⟨b, o, c, rfl, hc, fun j u hu => cellH_only (e.only none) (by simp) (s j u hu)⟩
theorem Sl.len {h : Hp} {v : Value} {n : Nat} {cs : List Value} (s : Sl h v n cs) : ∃ a c, v = .slice a n c ∧ n ≤ c := by
  rcases s with ⟨⟨a, c, rfl, -⟩, rfl, rfl⟩ | ⟨b, o, c, rfl, hc, s⟩
  · exact ⟨_, _, rfl, Nat.zero_le _⟩
  · exact ⟨_, _, rfl, hc⟩

def ptrAt : Value → Nat → Value
  | .slice (some a) _ _, k => .pointer (some (a.add k))
  | _, _ => undef
def cutV (s : Nat) (v : Value) (lo hi : Nat) : Value := match v with
  | .slice a n c => .slice (if c = lo then a else a.map (·.add (lo * s))) (hi - lo) (c - lo)
  | v => v

theorem Sl.cut {h : Hp} {v : Value} {n : Nat} {cs : List Value} {s lo hi : Nat} (S : Sl h v n cs) (hn : cs.length = n * s) (h1 : lo ≤ hi) (h2 : hi ≤ n) : Sl h (cutV s v lo hi) (hi - lo) ((cs.drop (lo * s)).take ((hi - lo) * s)) := by
  rcases S with ⟨⟨a, c, rfl, ha⟩, rfl, rfl⟩ | ⟨b, o, c, rfl, hc, S⟩
  · have : lo = 0 := by omega
    have : hi = 0 := by omega
    subst lo hi
    refine .inl ⟨⟨_, _, rfl, fun e => ?_⟩, rfl, by simp⟩
    cases a with
    | none => rw [ha rfl]
    | some a => split at e <;> cases e
  · refine .inr ⟨b, if c = lo then o else o + lo * s, c - lo, ?_, by omega, fun j u hu => ?_⟩
    · simp only [cutV]
      split
      · rfl
      · simp [Addr.add_lit]
    · rw [List.getElem?_take] at hu
      split at hu
      · rw [List.getElem?_drop] at hu
        split
        · rename_i he hcl
          have : hi - lo = 0 := by omega
          rw [this] at he; simp at he
        · have := S _ _ hu
          rw [← Nat.add_assoc] at this; exact this
      · cases hu


def Own (h : Hp) (B : Nat) (e : TypeId) (s : Nat) (v : Value) (n : Nat) (cs : List Value) : Prop :=
  cs.length = n * s ∧ ((v = .slice none 0 0 ∧ n = 0) ∨
    ∃ g cap cur, v = .slice (some ⟨g, 0, none⟩) n cap ∧ B ≤ g ∧ h[g]? = some (.cells cur e (0, 0)) ∧ n ≤ cap ∧ cap ≤ maxLen ∧ cur.size = cap * s ∧ cur.toList.take (n * s) = cs)
section own
variable {h h' : Hp} {B : Nat} {e : TypeId} {s : Nat} {v : Value} {n : Nat} {cs : List Value}

theorem Own.nil (h : Hp) (B : Nat) (e : TypeId) (s : Nat) : Own h B e s (.slice none 0 0) 0 [] := ⟨by simp, .inl ⟨rfl, rfl⟩⟩
theorem Own.sl (o : Own h B e s v n cs) : Sl h v n cs := by
  obtain ⟨hl, ⟨rfl, rfl⟩ | ⟨g, cap, cur, rfl, hB, hg, hc, -, hs, ht⟩⟩ := o
  · exact .inl ⟨⟨none, 0, rfl, fun _ => rfl⟩, rfl, List.eq_nil_of_length_eq_zero (by simpa using hl)⟩
  · refine .inr ⟨g, 0, cap, rfl, hc, fun j u hu => ?_⟩
    rw [← ht, List.getElem?_take] at hu
    split at hu
    · simp only [cellH, hg, Nat.zero_add]; simpa using hu
    · cases hu
theorem Own.only {r : Option Nat} (o : Own h B e s v n cs) (k : Only r h h') (hne : v.ownBlock = none ∨ v.ownBlock ≠ r) : Own h' B e s v n cs := by
  obtain ⟨hl, hn | ⟨g, cap, cur, rfl, hB, hg, rest⟩⟩ := o
  · exact ⟨hl, .inl hn⟩
  · refine ⟨hl, .inr ⟨g, cap, cur, rfl, hB, ?_, rest⟩⟩
    rw [k.2 g (Array.getElem?_eq_some_iff.1 hg).1 (by simpa [Value.ownBlock] using hne)]
    exact hg
theorem Own.ext (o : Own h B e s v n cs) (k : Ext h h') : Own h' B e s v n cs := o.only (k.only none) (by cases v.ownBlock <;> simp)
theorem Own.base {B' : Nat} (o : Own h B e s v n cs) (hB : B' ≤ B) : Own h B' e s v n cs := by
  obtain ⟨hl, hn | ⟨g, cap, cur, rfl, hg, rest⟩⟩ := o
  · exact ⟨hl, .inl hn⟩
  · exact ⟨hl, .inr ⟨g, cap, cur, rfl, Nat.le_trans hB hg, rest⟩⟩
theorem Own.blk (o : Own h B e s v n cs) : ∀ k, v.ownBlock = some k → B ≤ k ∧ k < h.size := by
  intro k hk
  obtain ⟨hl, ⟨rfl, rfl⟩ | ⟨g, cap, cur, rfl, hB, hg, rest⟩⟩ := o
  · simp [Value.ownBlock] at hk
  · simp [Value.ownBlock] at hk; subst hk
    exact ⟨hB, (Array.getElem?_eq_some_iff.1 hg).1⟩
theorem Own.old {h0 : Hp} (o : Own h B e s v n cs) (k : Only v.ownBlock h h') (x : Ext h0 h) (hB : h0.size ≤ B) : Ext h0 h' :=
  k.old x fun i hi => Nat.le_trans hB (o.blk i hi).1
theorem Own.front (o : Own h B e s v n cs) {k : Nat} (hk : k ≤ n) : Own h B e s (cutV s v 0 k) k (cs.take (k * s)) := by
  obtain ⟨hl, ⟨rfl, rfl⟩ | ⟨g, cap, cur, rfl, hB, hg, hc, hm, hs, ht⟩⟩ := o
  · have : k = 0 := by omega
    subst this
    exact ⟨by simp, .inl ⟨by simp [cutV], rfl⟩⟩
  · have hks : k * s ≤ n * s := Nat.mul_le_mul_right s hk
    refine ⟨by rw [List.length_take, hl]; omega, .inr ⟨g, cap, cur, ?_, hB, hg, by omega, hm, hs, ?_⟩⟩
    · simp only [cutV, Nat.zero_mul, Nat.sub_zero]
      split <;> simp [Addr.add]
    · rw [← ht, List.take_take, Nat.min_eq_left hks]
end own

def SlF {α : Type} (h : Hp) (f : α → Value) (v : Value) (xs : List α) : Prop := Sl h v xs.length (xs.map f)
def OwnF {α : Type} (h : Hp) (B : Nat) (e : TypeId) (f : α → Value) (v : Value) (xs : List α) : Prop := Own h B e 1 v xs.length (xs.map f)
section
variable {α : Type} {h h' : Hp} {B : Nat} {e : TypeId} {f : α → Value} {v : Value} {xs : List α}
theorem SlF.ext (s : SlF h f v xs) (e : Ext h h') : SlF h' f v xs := Sl.ext s e
theorem SlF.only {r : Option Nat} (s : SlF h f v xs) (e : Only r h h') (hne : v.ownBlock = none ∨ v.ownBlock ≠ r) : SlF h' f v xs := Sl.only s e hne
theorem SlF.cut {lo hi : Nat} (s : SlF h f v xs) (h1 : lo ≤ hi) (h2 : hi ≤ xs.length) : SlF h f (cutV 1 v lo hi) ((xs.drop lo).take (hi - lo)) := by
  have := Sl.cut (s := 1) s (by simp) h1 h2
  unfold SlF
  rw [List.length_take, List.length_drop, Nat.min_eq_left (by omega), List.map_take, List.map_drop]
  simpa using this
theorem OwnF.sl (o : OwnF h B e f v xs) : SlF h f v xs := Own.sl o
theorem OwnF.ext (o : OwnF h B e f v xs) (k : Ext h h') : OwnF h' B e f v xs := Own.ext o k
theorem OwnF.only {r : Option Nat} (o : OwnF h B e f v xs) (k : Only r h h') (hne : v.ownBlock = none ∨ v.ownBlock ≠ r) : OwnF h' B e f v xs := Own.only o k hne
theorem OwnF.base {B' : Nat} (o : OwnF h B e f v xs) (hB : B' ≤ B) : OwnF h B' e f v xs := Own.base o hB
theorem OwnF.blk (o : OwnF h B e f v xs) : ∀ k, v.ownBlock = some k → B ≤ k ∧ k < h.size := Own.blk o
theorem OwnF.old {h0 : Hp} (o : OwnF h B e f v xs) (k : Only v.ownBlock h h') (x : Ext h0 h) (hB : h0.size ≤ B) : Ext h0 h' := Own.old o k x hB
theorem OwnF.front (o : OwnF h B e f v xs) {k : Nat} (hk : k ≤ xs.length) : OwnF h B e f (cutV 1 v 0 k) (xs.take k) := by
  have := Own.front o hk
  unfold OwnF
  rw [List.length_take, Nat.min_eq_left hk, List.map_take]
  simpa using this
theorem OwnF.nil (h : Hp) (B : Nat) (e : TypeId) (f : α → Value) : OwnF h B e f (.slice none 0 0) [] := Own.nil h B e 1
theorem SlF.nil (h : Hp) (f : α → Value) : SlF h f (.slice none 0 0) [] := Sl.nil h
end

abbrev N (x : Nat) : Value := .int .i64 ((x : Nat) : Int)


structure Rd (Ch : Hp → Prop) (E : Nat → Bool) (i : Nat) (h : Hp) (p : Hp → Prop) : Prop where mk ::
  get : (E i = true ∧ Ch h ∧ p h) ∨ ∀ h', Ch h' → p h'
theorem rd_plain {i : Nat} {h : Hp} {p : Hp → Prop} (hp : p h) : Rd (fun _ => True) (fun _ => true) i h p := ⟨.inl ⟨rfl, trivial, hp⟩⟩
theorem rd_extF {α : Type} {f : α → Value} {E : Nat → Bool} {i : Nat} {h h0 : Hp} {v : Value} {cs : List α} (hp : SlF h0 f v cs) : Rd (Ext h0) E i h (fun h' => SlF h' f v cs) := ⟨.inr fun _ e => hp.ext e⟩

def plainTy (P : Program) (t : TypeId) : Bool := match P.underlying t with
  | none | some (.struct _) | some (.array _ _) => false
  | some _ => true

theorem run_isAgg_plain {P : Program} {t : TypeId} (ht : plainTy P t = true) (w : World) : (isAgg t).run P w = .ok false w := by
  unfold plainTy at ht
  cases hu : P.underlying t with
  | none => rw [hu] at ht; cases ht
  | some d =>
    rw [hu] at ht
    unfold isAgg
    rw [Sem.run_bind, run_underlying hu w]
    cases d <;> first | rfl | cases ht

theorem run_load1 {P : Program} {t : TypeId} {a : Addr} {w : World} {u : Value} (ht : plainTy P t = true) (hc : w.cell? a = some u) : (Instr.loadAt t (.pointer (some a))).run P w = .ok u w := by
  show ((do let x ← isAgg t; if x then (do pure (.agg (← loadCells a (← sizeOf t)))) else load a : Sem Value)).run P w = _
  rw [Sem.run_bind, run_isAgg_plain ht w]
  simp [hc]

section rules
variable {P : Program} {n : Nat} {Q : Post} {l : Fr} {h : Hp} {ops : List Oper} {Ch : Hp → Prop} {E : Nat → Bool} {i : Nat}
variable {d : Nat} {t : TypeId} {x y z : Operand}

theorem r_drawnX {c : Code} (hc : tagOf c = .region true) (hm : P.follows .mixedOrders = true) (hok : regionOk (opsOf c) (effB (opsOf c)) = true)
    (k : S P n (opsOf c) (Ext h) (effB (opsOf c)) Q 0 l h) : W P n c Q l h := r_drawn (Ext h) (effB (opsOf c)) hc hm hok (Ext.refl h) k

theorem s_read {op : Op} {v : Value} (hb : Nat.blt d n = true) (p : Hp → Prop) (hr : Rd Ch E i h p)
    (hv : ∀ {ty : TypeId} {ps : String} {af : Array Edge} {g : Option (Nat × Bool)} a w', Fits l n a → p w'.heap → (execOp a.eval ⟨some d, op, ty, ps, af, g⟩).run P w' = .ok (.value v) w')
    (k : S P n ops Ch E Q (i + 1) ((d, v) :: l) h) : O P n ops Ch E Q i d op l h := O.mk fun ho hg => by
  rcases hr.get with ⟨h1, h2, h3⟩ | h1
  · refine s_eff ho h1 hg fun a w hf hw => ?_
    unfold Eff
    rw [hv a w hf (by rw [hw]; exact h3)]
    exact ⟨Oth.refl w, by rw [hw]; exact h2, _, hf.put d v hb, by rw [hw]; exact k⟩
  · exact s_stable ho hg (fun a w' hf hc => hv a w' hf (h1 _ hc)) (fun a hf => hf.put d v hb) k

theorem s_len {v : Value} {m : Nat} {cs : List Value} {e : TypeId} {h0 : Hp} (hx : ev l x = some v) (ht : P.underlying t = some (.slice e)) (hs : Sl h0 v m cs) (hb : Nat.blt d n = true)
    (k : S P n ops Ch E Q (i + 1) ((d, N m) :: l) h) : O P n ops Ch E Q i d (.call ⟨.builtin .len, #[x], #[t]⟩) l h :=
  s_pure hb (fun a w' hf => by
    obtain ⟨ad, c, rfl, -⟩ := hs.len
    simp [execOp, resolve, invoke, builtin, hf.ev hx, Builtin.len_, run_underlying ht, goInt]) k
theorem s_lenF {α : Type} {f : α → Value} {v : Value} {cs : List α} {e : TypeId} {h0 : Hp} (hx : ev l x = some v) (ht : P.underlying t = some (.slice e)) (hs : SlF h0 f v cs) (hb : Nat.blt d n = true)
    (k : S P n ops Ch E Q (i + 1) ((d, N cs.length) :: l) h) : O P n ops Ch E Q i d (.call ⟨.builtin .len, #[x], #[t]⟩) l h := s_len hx ht hs hb k

theorem s_index {v : Value} {m j s : Nat} {cs : List Value} {e : TypeId} {yk : IntKind} {h0 : Hp} (hx : ev l x = some v) (hy : IsK (ev l y) yk j) (ht : P.underlying t = some (.slice e)) (hz : (P.info? e).map (·.size) = some s)
    (hs : Sl h0 v m cs) (hb : Nat.blt d n = true) (hj : j < m)
    (k : S P n ops Ch E Q (i + 1) ((d, ptrAt v (j * s)) :: l) h) : O P n ops Ch E Q i d (.indexAddr t x y) l h :=
  s_pure hb (fun a w' hf => by
    rcases hs with ⟨-, rfl, -⟩ | ⟨b, o, c, rfl, -, -⟩
    · cases hj
    · cases hi : P.info? e with
      | none => rw [hi] at hz; cases hz
      | some inf =>
        rw [hi] at hz
        simp only [Option.map_some, Option.some.injEq] at hz
        simp [execOp, hf.ev hx, hf.ev hy.h, Instr.indexAt, run_underlying ht, asIntOf, sizeOf, typeInfo, hi, hz, hj, ptrAt]) k
theorem s_indexF {α : Type} {f : α → Value} {v : Value} {j : Nat} {cs : List α} {e : TypeId} {yk : IntKind} {h0 : Hp} (hx : ev l x = some v) (hy : IsK (ev l y) yk j) (ht : P.underlying t = some (.slice e)) (hz : (P.info? e).map (·.size) = some 1)
    (hs : SlF h0 f v cs) (hb : Nat.blt d n = true) (hj : j < cs.length)
    (k : S P n ops Ch E Q (i + 1) ((d, ptrAt v j) :: l) h) : O P n ops Ch E Q i d (.indexAddr t x y) l h := s_index hx hy ht hz hs hb hj (by rw [Nat.mul_one]; exact k)

theorem s_load {v u : Value} {m j : Nat} {cs : List Value} (hx : ev l x = some (ptrAt v j)) (ht : plainTy P t = true) (hs : Rd Ch E i h (fun h' => Sl h' v m cs)) (hb : Nat.blt d n = true) (hj : cs[j]? = some u)
    (k : S P n ops Ch E Q (i + 1) ((d, u) :: l) h) : O P n ops Ch E Q i d (.load t x) l h :=
  s_read hb _ hs (fun a w' hf hs => by
    rcases hs with ⟨-, -, rfl⟩ | ⟨b, o, c, rfl, -, hs⟩
    · cases hj
    · have hl := run_load1 (P := P) (t := t) (a := (⟨b, o, none⟩ : Addr).add j) (w := w') ht (by rw [Addr.add_lit, cell?_cellH]; exact hs j u hj)
      simp only [execOp, hf.ev hx, ptrAt, Sem.run_bind, hl]; rfl) k
theorem s_loadF {α : Type} {f : α → Value} (d0 : α) {v : Value} {j : Nat} {cs : List α} (hx : ev l x = some (ptrAt v j)) (ht : plainTy P t = true) (hs : Rd Ch E i h (fun h' => SlF h' f v cs)) (hb : Nat.blt d n = true) (hj : j < cs.length)
    (k : S P n ops Ch E Q (i + 1) ((d, f (cs.getD j d0)) :: l) h) : O P n ops Ch E Q i d (.load t x) l h :=
  s_load (cs := cs.map f) (m := cs.length) hx ht hs hb (by simp [hj]) k

theorem run_slice_gen {P : Program} {w : World} {t e : TypeId} {s : Nat} {v : Value} {m c lo hi : Nat} {ad : Option Addr} {ol oh : Option Value} (hv : v = .slice ad m c) (ht : P.underlying t = some (.slice e)) (hz : (P.info? e).map (·.size) = some s)
    (hl : ol = none ∧ lo = 0 ∨ ∃ k, ol = some (.int k (lo : Int))) (hh : oh = none ∧ hi = m ∨ ∃ k, oh = some (.int k (hi : Int))) (h1 : lo ≤ hi) (h2 : hi ≤ c) :
    (Instr.sliceAt t v ol oh none).run P w = .ok (cutV s v lo hi) w := by
  subst hv
  cases hi' : P.info? e with
  | none => rw [hi'] at hz; cases hz
  | some inf =>
    rw [hi'] at hz
    simp only [Option.map_some, Option.some.injEq] at hz
    have bound : ∀ (k : IntKind) (x y : Nat) (code : BoundsCode), x ≤ y → (Instr.sliceBound (.int k (x : Int)) y code).run P w = .ok x w := fun k x y code hxy => by
      simp [Instr.sliceBound, asIntOf, hxy]
    have hb : (Instr.sliceBounds true m c ol oh none).run P w = .ok (lo, hi, c) w := by
      unfold Instr.sliceBounds
      rcases hl with ⟨rfl, rfl⟩ | ⟨kl, rfl⟩ <;> rcases hh with ⟨rfl, rfl⟩ | ⟨kh, rfl⟩ <;> simp [bound, h1, h2]
    simp [Instr.sliceAt, Instr.slice, run_underlying ht, hb, sizeOf, typeInfo, hi', hz, cutV]

theorem s_slice_lh {v : Value} {m lo hi s : Nat} {cs : List Value} {e : TypeId} {kl kh : IntKind} {h0 : Hp} (hx : ev l x = some v) (hy : IsK (ev l y) kl lo) (hz : IsK (ev l z) kh hi) (ht : P.underlying t = some (.slice e)) (hsz : (P.info? e).map (·.size) = some s)
    (hs : Sl h0 v m cs) (hb : Nat.blt d n = true) (h1 : lo ≤ hi) (h2 : hi ≤ m)
    (k : S P n ops Ch E Q (i + 1) ((d, cutV s v lo hi) :: l) h) : O P n ops Ch E Q i d (.slice t x (some y) (some z) none) l h :=
  s_pure hb (fun a w' hf => by
    obtain ⟨ad, c, hv, hc⟩ := hs.len
    simp only [execOp, hf.ev hx, Option.map_some, Option.map_none, hf.ev hy.h, hf.ev hz.h, Sem.run_bind, run_slice_gen hv ht hsz (.inr ⟨kl, rfl⟩) (.inr ⟨kh, rfl⟩) h1 (Nat.le_trans h2 hc)]; rfl) k
theorem s_slice_h {v : Value} {m hi s : Nat} {cs : List Value} {e : TypeId} {kh : IntKind} {h0 : Hp} (hx : ev l x = some v) (hz : IsK (ev l z) kh hi) (ht : P.underlying t = some (.slice e)) (hsz : (P.info? e).map (·.size) = some s)
    (hs : Sl h0 v m cs) (hb : Nat.blt d n = true) (h2 : hi ≤ m)
    (k : S P n ops Ch E Q (i + 1) ((d, cutV s v 0 hi) :: l) h) : O P n ops Ch E Q i d (.slice t x none (some z) none) l h :=
  s_pure hb (fun a w' hf => by
    obtain ⟨ad, c, hv, hc⟩ := hs.len
    simp only [execOp, hf.ev hx, Option.map_some, Option.map_none, hf.ev hz.h, Sem.run_bind, run_slice_gen hv ht hsz (.inl ⟨rfl, rfl⟩) (.inr ⟨kh, rfl⟩) (Nat.zero_le _) (Nat.le_trans h2 hc)]; rfl) k
theorem s_slice_l {v : Value} {m lo s : Nat} {cs : List Value} {e : TypeId} {kl : IntKind} {h0 : Hp} (hx : ev l x = some v) (hy : IsK (ev l y) kl lo) (ht : P.underlying t = some (.slice e)) (hsz : (P.info? e).map (·.size) = some s)
    (hs : Sl h0 v m cs) (hb : Nat.blt d n = true) (h1 : lo ≤ m)
    (k : S P n ops Ch E Q (i + 1) ((d, cutV s v lo m) :: l) h) : O P n ops Ch E Q i d (.slice t x (some y) none none) l h :=
  s_pure hb (fun a w' hf => by
    obtain ⟨ad, c, hv, hc⟩ := hs.len
    simp only [execOp, hf.ev hx, Option.map_some, Option.map_none, hf.ev hy.h, Sem.run_bind, run_slice_gen hv ht hsz (.inr ⟨kl, rfl⟩) (.inl ⟨rfl, rfl⟩) h1 hc]; rfl) k

end rules
end Go.Den

