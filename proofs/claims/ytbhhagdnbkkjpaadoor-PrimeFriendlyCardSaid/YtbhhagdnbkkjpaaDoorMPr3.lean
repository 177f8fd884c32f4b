/- Texts DenC to DenC of this work, joined: each says in its own head what it proves, and of which condition. -/
import Derived.Test.YtbhhagdnbkkjpaaDoorMPr2
/- Own calculus, part C: arithmetic on uint64 and int, conversions, calls, entry and return. No condition. -/
namespace Go.Den
set_option linter.unusedVariables false
set_option maxRecDepth 8000
open Go Go.RowKit

abbrev U (x : Nat) : Value := .int .u64 (x : Int)
abbrev I (x : Int) : Value := .int .i64 x

theorem wrapU (n : Nat) : IntKind.u64.wrap (n : Int) = ((n % 18446744073709551616 : Nat) : Int) := by rw [IntKind.wrap_u64]; omega
theorem wrapU_in (n : Nat) (h : n < 18446744073709551616) : IntKind.u64.wrap (n : Int) = (n : Int) := by rw [IntKind.wrap_u64]; omega
theorem wrapI_in (n : Int) (h : -9223372036854775808 ≤ n ∧ n < 9223372036854775808) : IntKind.i64.wrap n = n := by rw [IntKind.wrap_i64]; omega

theorem tdiv_bd (a b : Int) (hb : 0 < b) (h : -9223372036854775808 ≤ a ∧ a < 9223372036854775808) : -9223372036854775808 ≤ a.tdiv b ∧ a.tdiv b < 9223372036854775808 := by
  have h1 := Int.natAbs_tdiv_le_natAbs a b
  rcases Int.le_total 0 a with h0 | h0
  · have := Int.tdiv_nonneg h0 (Int.le_of_lt hb); omega
  · have h2 : 0 ≤ (-a).tdiv b := Int.tdiv_nonneg (by omega) (Int.le_of_lt hb)
    rw [Int.neg_tdiv] at h2; omega

theorem fdivN (a c : Nat) : (a : Int).fdiv ((2 : Int) ^ c) = ((a / 2 ^ c : Nat) : Int) := by
  rw [show ((2 : Int) ^ c) = ((2 ^ c : Nat) : Int) by simp, ← Int.ofNat_fdiv]

/-- An operand's value as a natural number. -/
structure IsK (o : Option Value) (k : IntKind) (b : Nat) : Prop where mk ::
  h : o = some (.int k (b : Int))
theorem isK_c {l : Fr} {k : IntKind} {c : Nat} : IsK (ev l (.const (.int k (OfNat.ofNat c : Int)))) k (OfNat.ofNat c : Nat) := ⟨rfl⟩
theorem isK_t {l : Fr} {k : IntKind} {t b : Nat} (h : look l t = some (.int k (b : Int))) : IsK (ev l (.tmp t)) k b := ⟨h⟩

section
variable {P : Program} {n : Nat} {Q : Post} {l : Fr} {h : Hp} {ops : List Oper} {Ch : Hp → Prop} {E : Nat → Bool} {i : Nat}
variable {d : Nat} {t : TypeId} {x y z : Operand} {yt : TypeId}

/-! ### uint64, as natural numbers -/
section u64
variable {a b : Nat}

theorem s_moveUc {c : Nat} (hb : Nat.blt d n = true) (k : S P n ops Ch E Q (i + 1) ((d, U (OfNat.ofNat c : Nat)) :: l) h) : O P n ops Ch E Q i d (.move (.const (.int .u64 (OfNat.ofNat c : Int)))) l h :=
  s_move rfl hb k
theorem s_assignUc {c : Nat} (hb : Nat.blt d n = true) (k : S P n ops Ch E Q (i + 1) ((d, U (OfNat.ofNat c : Nat)) :: l) h) : O P n ops Ch E Q i d (.assign (.const (.int .u64 (OfNat.ofNat c : Int)))) l h :=
  s_assign rfl hb k

theorem s_addU (hx : IsK (ev l x) .u64 a) (hy : IsK (ev l y) .u64 b) (hb : Nat.blt d n = true) (hn : a + b < 18446744073709551616)
    (k : S P n ops Ch E Q (i + 1) ((d, U (a + b)) :: l) h) : O P n ops Ch E Q i d (.binOp .add t x y yt) l h :=
  s_bin hx.h hy.h hb (fun w' => by
    show Result.ok (Value.int .u64 (IntKind.u64.wrap ((a : Int) + b))) w' = _
    rw [← Int.natCast_add, wrapU_in _ hn]) k
theorem s_addUw (hx : IsK (ev l x) .u64 a) (hy : IsK (ev l y) .u64 b) (hb : Nat.blt d n = true)
    (k : S P n ops Ch E Q (i + 1) ((d, U ((a + b) % 18446744073709551616)) :: l) h) : O P n ops Ch E Q i d (.binOp .add t x y yt) l h :=
  s_bin hx.h hy.h hb (fun w' => by
    show Result.ok (Value.int .u64 (IntKind.u64.wrap ((a : Int) + b))) w' = _
    rw [← Int.natCast_add, wrapU]) k
theorem s_subU (hx : IsK (ev l x) .u64 a) (hy : IsK (ev l y) .u64 b) (hb : Nat.blt d n = true) (hn : b ≤ a ∧ a < 18446744073709551616)
    (k : S P n ops Ch E Q (i + 1) ((d, U (a - b)) :: l) h) : O P n ops Ch E Q i d (.binOp .sub t x y yt) l h :=
  s_bin hx.h hy.h hb (fun w' => by
    show Result.ok (Value.int .u64 (IntKind.u64.wrap ((a : Int) - b))) w' = _
    rw [← Int.ofNat_sub hn.1, wrapU_in _ (by omega)]) k
theorem s_subUw (hx : IsK (ev l x) .u64 a) (hy : IsK (ev l y) .u64 b) (hb : Nat.blt d n = true) (hn : b ≤ 18446744073709551616)
    (k : S P n ops Ch E Q (i + 1) ((d, U ((a + (18446744073709551616 - b)) % 18446744073709551616)) :: l) h) : O P n ops Ch E Q i d (.binOp .sub t x y yt) l h :=
  s_bin hx.h hy.h hb (fun w' => by
    show Result.ok (Value.int .u64 (IntKind.u64.wrap ((a : Int) - b))) w' = _
    rw [IntKind.wrap_u64]; congr 2; omega) k
theorem s_mulU (hx : IsK (ev l x) .u64 a) (hy : IsK (ev l y) .u64 b) (hb : Nat.blt d n = true) (hn : a * b < 18446744073709551616)
    (k : S P n ops Ch E Q (i + 1) ((d, U (a * b)) :: l) h) : O P n ops Ch E Q i d (.binOp .mul t x y yt) l h :=
  s_bin hx.h hy.h hb (fun w' => by
    show Result.ok (Value.int .u64 (IntKind.u64.wrap ((a : Int) * b))) w' = _
    rw [← Int.natCast_mul, wrapU_in _ hn]) k
theorem s_mulUw (hx : IsK (ev l x) .u64 a) (hy : IsK (ev l y) .u64 b) (hb : Nat.blt d n = true)
    (k : S P n ops Ch E Q (i + 1) ((d, U (a * b % 18446744073709551616)) :: l) h) : O P n ops Ch E Q i d (.binOp .mul t x y yt) l h :=
  s_bin hx.h hy.h hb (fun w' => by
    show Result.ok (Value.int .u64 (IntKind.u64.wrap ((a : Int) * b))) w' = _
    rw [← Int.natCast_mul, wrapU]) k
theorem s_quoU (hx : IsK (ev l x) .u64 a) (hy : IsK (ev l y) .u64 b) (hb : Nat.blt d n = true) (hn : 0 < b ∧ a < 18446744073709551616)
    (k : S P n ops Ch E Q (i + 1) ((d, U (a / b)) :: l) h) : O P n ops Ch E Q i d (.binOp .quo t x y yt) l h :=
  s_bin hx.h hy.h hb (fun w' => by
    show (Op.intDiv .quo .u64 (a : Int) (b : Int)).run P w' = _
    unfold Op.intDiv
    rw [if_neg (by omega)]
    show Result.ok (Value.int .u64 (IntKind.u64.wrap ((a : Int).tdiv b))) w' = _
    rw [← Int.ofNat_tdiv, wrapU_in _ (Nat.lt_of_le_of_lt (Nat.div_le_self a b) hn.2)]) k
theorem s_remU (hx : IsK (ev l x) .u64 a) (hy : IsK (ev l y) .u64 b) (hb : Nat.blt d n = true) (hn : 0 < b)
    (k : S P n ops Ch E Q (i + 1) ((d, U (a % b)) :: l) h) : O P n ops Ch E Q i d (.binOp .rem t x y yt) l h :=
  s_bin hx.h hy.h hb (fun w' => by
    show (Op.intDiv .rem .u64 (a : Int) (b : Int)).run P w' = _
    unfold Op.intDiv
    rw [if_neg (by omega)]
    show Result.ok (Value.int .u64 ((a : Int).tmod b)) w' = _
    rw [← Int.ofNat_tmod]) k
theorem s_andU (hx : IsK (ev l x) .u64 a) (hy : IsK (ev l y) .u64 b) (hb : Nat.blt d n = true) (hn : a < 18446744073709551616 ∧ b < 18446744073709551616)
    (k : S P n ops Ch E Q (i + 1) ((d, U (a &&& b)) :: l) h) : O P n ops Ch E Q i d (.binOp .and t x y yt) l h :=
  s_bin hx.h hy.h hb (fun w' => by
    show Result.ok (Value.int .u64 (bits .and .u64 (a : Int) b)) w' = _
    rw [bits_and_u64_nat _ _ hn.1 hn.2]) k
theorem s_orU (hx : IsK (ev l x) .u64 a) (hy : IsK (ev l y) .u64 b) (hb : Nat.blt d n = true) (hn : a < 18446744073709551616 ∧ b < 18446744073709551616)
    (k : S P n ops Ch E Q (i + 1) ((d, U (a ||| b)) :: l) h) : O P n ops Ch E Q i d (.binOp .or t x y yt) l h :=
  s_bin hx.h hy.h hb (fun w' => by
    show Result.ok (Value.int .u64 (bits .or .u64 (a : Int) b)) w' = _
    rw [bits_or_u64_nat _ _ hn.1 hn.2]) k
theorem s_xorU (hx : IsK (ev l x) .u64 a) (hy : IsK (ev l y) .u64 b) (hb : Nat.blt d n = true) (hn : a < 18446744073709551616 ∧ b < 18446744073709551616)
    (k : S P n ops Ch E Q (i + 1) ((d, U (a ^^^ b)) :: l) h) : O P n ops Ch E Q i d (.binOp .xor t x y yt) l h :=
  s_bin hx.h hy.h hb (fun w' => by
    show Result.ok (Value.int .u64 (bits .xor .u64 (a : Int) b)) w' = _
    rw [bits_xor_u64_nat _ _ hn.1 hn.2]) k
theorem s_shlU {yk : IntKind} {c : Nat} (hx : IsK (ev l x) .u64 a) (hy : IsK (ev l y) yk c) (hb : Nat.blt d n = true) (hn : c ≤ 64)
    (k : S P n ops Ch E Q (i + 1) ((d, U (a * 2 ^ c % 18446744073709551616)) :: l) h) : O P n ops Ch E Q i d (.binOp .shl t x y yt) l h :=
  s_bin hx.h hy.h hb (fun w' => by
    show (Op.shift .shl .u64 (a : Int) yk (c : Int)).run P w' = _
    unfold Op.shift
    rw [if_neg (by omega)]
    show Result.ok (Value.int .u64 (IntKind.u64.wrap ((a : Int) * 2 ^ (min (c : Int).toNat 64)))) w' = _
    rw [show min (c : Int).toNat 64 = c by omega, show ((a : Int) * 2 ^ c) = ((a * 2 ^ c : Nat) : Int) by simp, wrapU]) k
theorem s_shrU {yk : IntKind} {c : Nat} (hx : IsK (ev l x) .u64 a) (hy : IsK (ev l y) yk c) (hb : Nat.blt d n = true) (hn : c ≤ 64)
    (k : S P n ops Ch E Q (i + 1) ((d, U (a / 2 ^ c)) :: l) h) : O P n ops Ch E Q i d (.binOp .shr t x y yt) l h :=
  s_bin hx.h hy.h hb (fun w' => by
    show (Op.shift .shr .u64 (a : Int) yk (c : Int)).run P w' = _
    unfold Op.shift
    rw [if_neg (by omega)]
    show Result.ok (Value.int .u64 ((a : Int).fdiv (2 ^ (min (c : Int).toNat 64)))) w' = _
    rw [show min (c : Int).toNat 64 = c by omega, fdivN]) k
theorem s_negU (hx : IsK (ev l x) .u64 a) (hb : Nat.blt d n = true) (hn : a ≤ 18446744073709551616)
    (k : S P n ops Ch E Q (i + 1) ((d, U ((18446744073709551616 - a) % 18446744073709551616)) :: l) h) : O P n ops Ch E Q i d (.unOp .neg t x) l h :=
  s_pure hb (fun A w' hf => by
    simp only [execOp, hf.ev hx.h]
    show Result.ok (Next.value (Value.int .u64 (IntKind.u64.wrap (0 - (a : Int))))) w' = _
    rw [IntKind.wrap_u64]; congr 3; omega) k
theorem s_eqU (hx : IsK (ev l x) .u64 a) (hy : IsK (ev l y) .u64 b) (hb : Nat.blt d n = true)
    (k : S P n ops Ch E Q (i + 1) ((d, .bool (decide (a = b))) :: l) h) : O P n ops Ch E Q i d (.binOp .eql t x y yt) l h :=
  s_bin hx.h hy.h hb (fun w' => by
    show Result.ok (Value.bool ((a : Int) == (b : Int))) w' = _
    congr 2; rw [Bool.eq_iff_iff]; simp; omega) k
theorem s_neU (hx : IsK (ev l x) .u64 a) (hy : IsK (ev l y) .u64 b) (hb : Nat.blt d n = true)
    (k : S P n ops Ch E Q (i + 1) ((d, .bool (decide (a ≠ b))) :: l) h) : O P n ops Ch E Q i d (.binOp .neq t x y yt) l h :=
  s_bin hx.h hy.h hb (fun w' => by
    show Result.ok (Value.bool ((a : Int) != (b : Int))) w' = _
    congr 2; rw [Bool.eq_iff_iff]; simp; omega) k
theorem s_ltU (hx : IsK (ev l x) .u64 a) (hy : IsK (ev l y) .u64 b) (hb : Nat.blt d n = true)
    (k : S P n ops Ch E Q (i + 1) ((d, .bool (decide (a < b))) :: l) h) : O P n ops Ch E Q i d (.binOp .lss t x y yt) l h :=
  s_bin hx.h hy.h hb (fun w' => by
    show Result.ok (Value.bool (decide ((a : Int) < (b : Int)))) w' = _
    congr 2; rw [Bool.eq_iff_iff]; simp) k
theorem s_leU (hx : IsK (ev l x) .u64 a) (hy : IsK (ev l y) .u64 b) (hb : Nat.blt d n = true)
    (k : S P n ops Ch E Q (i + 1) ((d, .bool (decide (a ≤ b))) :: l) h) : O P n ops Ch E Q i d (.binOp .leq t x y yt) l h :=
  s_bin hx.h hy.h hb (fun w' => by
    show Result.ok (Value.bool (decide ((a : Int) ≤ (b : Int)))) w' = _
    congr 2; rw [Bool.eq_iff_iff]; simp) k
theorem s_gtU (hx : IsK (ev l x) .u64 a) (hy : IsK (ev l y) .u64 b) (hb : Nat.blt d n = true)
    (k : S P n ops Ch E Q (i + 1) ((d, .bool (decide (b < a))) :: l) h) : O P n ops Ch E Q i d (.binOp .gtr t x y yt) l h :=
  s_bin hx.h hy.h hb (fun w' => by
    show Result.ok (Value.bool (decide ((a : Int) > (b : Int)))) w' = _
    congr 2; rw [Bool.eq_iff_iff]; simp) k
theorem s_geU (hx : IsK (ev l x) .u64 a) (hy : IsK (ev l y) .u64 b) (hb : Nat.blt d n = true)
    (k : S P n ops Ch E Q (i + 1) ((d, .bool (decide (b ≤ a))) :: l) h) : O P n ops Ch E Q i d (.binOp .geq t x y yt) l h :=
  s_bin hx.h hy.h hb (fun w' => by
    show Result.ok (Value.bool (decide ((a : Int) ≥ (b : Int)))) w' = _
    congr 2; rw [Bool.eq_iff_iff]; simp) k
end u64

/-! ### int, as whole numbers -/
section i64
variable {a b : Int}

theorem s_addI (hx : ev l x = some (I a)) (hy : ev l y = some (I b)) (hb : Nat.blt d n = true) (hn : -9223372036854775808 ≤ a + b ∧ a + b < 9223372036854775808)
    (k : S P n ops Ch E Q (i + 1) ((d, I (a + b)) :: l) h) : O P n ops Ch E Q i d (.binOp .add t x y yt) l h :=
  s_bin hx hy hb (fun w' => by
    show Result.ok (Value.int .i64 (IntKind.i64.wrap (a + b))) w' = _
    rw [wrapI_in _ hn]) k
theorem s_addIw (hx : ev l x = some (I a)) (hy : ev l y = some (I b)) (hb : Nat.blt d n = true)
    (k : S P n ops Ch E Q (i + 1) ((d, I (IntKind.i64.wrap (a + b))) :: l) h) : O P n ops Ch E Q i d (.binOp .add t x y yt) l h :=
  s_bin hx hy hb (fun _ => rfl) k
theorem s_subI (hx : ev l x = some (I a)) (hy : ev l y = some (I b)) (hb : Nat.blt d n = true) (hn : -9223372036854775808 ≤ a - b ∧ a - b < 9223372036854775808)
    (k : S P n ops Ch E Q (i + 1) ((d, I (a - b)) :: l) h) : O P n ops Ch E Q i d (.binOp .sub t x y yt) l h :=
  s_bin hx hy hb (fun w' => by
    show Result.ok (Value.int .i64 (IntKind.i64.wrap (a - b))) w' = _
    rw [wrapI_in _ hn]) k
theorem s_subIw (hx : ev l x = some (I a)) (hy : ev l y = some (I b)) (hb : Nat.blt d n = true)
    (k : S P n ops Ch E Q (i + 1) ((d, I (IntKind.i64.wrap (a - b))) :: l) h) : O P n ops Ch E Q i d (.binOp .sub t x y yt) l h :=
  s_bin hx hy hb (fun _ => rfl) k
theorem s_mulI (hx : ev l x = some (I a)) (hy : ev l y = some (I b)) (hb : Nat.blt d n = true) (hn : -9223372036854775808 ≤ a * b ∧ a * b < 9223372036854775808)
    (k : S P n ops Ch E Q (i + 1) ((d, I (a * b)) :: l) h) : O P n ops Ch E Q i d (.binOp .mul t x y yt) l h :=
  s_bin hx hy hb (fun w' => by
    show Result.ok (Value.int .i64 (IntKind.i64.wrap (a * b))) w' = _
    rw [wrapI_in _ hn]) k
theorem s_mulIw (hx : ev l x = some (I a)) (hy : ev l y = some (I b)) (hb : Nat.blt d n = true)
    (k : S P n ops Ch E Q (i + 1) ((d, I (IntKind.i64.wrap (a * b))) :: l) h) : O P n ops Ch E Q i d (.binOp .mul t x y yt) l h :=
  s_bin hx hy hb (fun _ => rfl) k
theorem s_quoI (hx : ev l x = some (I a)) (hy : ev l y = some (I b)) (hb : Nat.blt d n = true) (hn : 0 < b ∧ -9223372036854775808 ≤ a ∧ a < 9223372036854775808)
    (k : S P n ops Ch E Q (i + 1) ((d, I (a.tdiv b)) :: l) h) : O P n ops Ch E Q i d (.binOp .quo t x y yt) l h :=
  s_bin hx hy hb (fun w' => by
    show (Op.intDiv .quo .i64 a b).run P w' = _
    unfold Op.intDiv
    rw [if_neg (by omega)]
    show Result.ok (Value.int .i64 (IntKind.i64.wrap (a.tdiv b))) w' = _
    rw [wrapI_in _ (tdiv_bd a b hn.1 hn.2)]) k
theorem s_remI (hx : ev l x = some (I a)) (hy : ev l y = some (I b)) (hb : Nat.blt d n = true) (hn : b ≠ 0)
    (k : S P n ops Ch E Q (i + 1) ((d, I (a.tmod b)) :: l) h) : O P n ops Ch E Q i d (.binOp .rem t x y yt) l h :=
  s_bin hx hy hb (fun w' => by
    show (Op.intDiv .rem .i64 a b).run P w' = _
    unfold Op.intDiv
    rw [if_neg hn]; rfl) k
theorem s_negI (hx : ev l x = some (I a)) (hb : Nat.blt d n = true) (hn : -9223372036854775808 < a ∧ a ≤ 9223372036854775808)
    (k : S P n ops Ch E Q (i + 1) ((d, I (-a)) :: l) h) : O P n ops Ch E Q i d (.unOp .neg t x) l h :=
  s_pure hb (fun A w' hf => by
    simp only [execOp, hf.ev hx]
    show Result.ok (Next.value (Value.int .i64 (IntKind.i64.wrap (0 - a)))) w' = _
    rw [wrapI_in _ (by omega)]; congr 3; omega) k
theorem s_eqI (hx : ev l x = some (I a)) (hy : ev l y = some (I b)) (hb : Nat.blt d n = true)
    (k : S P n ops Ch E Q (i + 1) ((d, .bool (decide (a = b))) :: l) h) : O P n ops Ch E Q i d (.binOp .eql t x y yt) l h :=
  s_bin hx hy hb (fun w' => by
    show Result.ok (Value.bool (a == b)) w' = _
    congr 2) k
theorem s_neI (hx : ev l x = some (I a)) (hy : ev l y = some (I b)) (hb : Nat.blt d n = true)
    (k : S P n ops Ch E Q (i + 1) ((d, .bool (decide (a ≠ b))) :: l) h) : O P n ops Ch E Q i d (.binOp .neq t x y yt) l h :=
  s_bin hx hy hb (fun w' => by
    show Result.ok (Value.bool (a != b)) w' = _
    congr 2; rw [Bool.eq_iff_iff]; simp) k
theorem s_ltI (hx : ev l x = some (I a)) (hy : ev l y = some (I b)) (hb : Nat.blt d n = true)
    (k : S P n ops Ch E Q (i + 1) ((d, .bool (decide (a < b))) :: l) h) : O P n ops Ch E Q i d (.binOp .lss t x y yt) l h :=
  s_bin hx hy hb (fun _ => rfl) k
theorem s_leI (hx : ev l x = some (I a)) (hy : ev l y = some (I b)) (hb : Nat.blt d n = true)
    (k : S P n ops Ch E Q (i + 1) ((d, .bool (decide (a ≤ b))) :: l) h) : O P n ops Ch E Q i d (.binOp .leq t x y yt) l h :=
  s_bin hx hy hb (fun _ => rfl) k
theorem s_gtI (hx : ev l x = some (I a)) (hy : ev l y = some (I b)) (hb : Nat.blt d n = true)
    (k : S P n ops Ch E Q (i + 1) ((d, .bool (decide (b < a))) :: l) h) : O P n ops Ch E Q i d (.binOp .gtr t x y yt) l h :=
  s_bin hx hy hb (fun _ => rfl) k
theorem s_geI (hx : ev l x = some (I a)) (hy : ev l y = some (I b)) (hb : Nat.blt d n = true)
    (k : S P n ops Ch E Q (i + 1) ((d, .bool (decide (b ≤ a))) :: l) h) : O P n ops Ch E Q i d (.binOp .geq t x y yt) l h :=
  s_bin hx hy hb (fun _ => rfl) k
end i64

/-! ### conversions between kinds of integers -/
theorem s_conv {src dst : TypeId} {k0 k1 : IntKind} {a : Int} {u : TypeDesc} (hx : ev l x = some (.int k0 a)) (hs : P.underlying src = some u) (hd : P.underlying dst = some (.int k1)) (hb : Nat.blt d n = true)
    (k : S P n ops Ch E Q (i + 1) ((d, .int k1 (k1.wrap a)) :: l) h) : O P n ops Ch E Q i d (.convert src dst x) l h :=
  s_pure hb (fun A w' hf => by
    simp only [execOp, hf.ev hx]
    simp [convert, underlying, hs, hd, Conv.intToInt, program, Sem.run]) k

theorem s_convU {src dst : TypeId} {k0 : IntKind} {a : Nat} {u : TypeDesc} (hx : IsK (ev l x) k0 a) (hs : P.underlying src = some u) (hd : P.underlying dst = some (.int .u64)) (hb : Nat.blt d n = true) (hn : a < 18446744073709551616)
    (k : S P n ops Ch E Q (i + 1) ((d, U a) :: l) h) : O P n ops Ch E Q i d (.convert src dst x) l h :=
  s_conv hx.h hs hd hb (by rw [wrapU_in _ hn]; exact k)
theorem s_convUN {src dst : TypeId} {k0 : IntKind} {a : Int} {u : TypeDesc} (m : Nat) (hx : ev l x = some (.int k0 a)) (hs : P.underlying src = some u) (hd : P.underlying dst = some (.int .u64)) (hb : Nat.blt d n = true) (ha : a = (m : Int)) (hn : m < 18446744073709551616)
    (k : S P n ops Ch E Q (i + 1) ((d, U m) :: l) h) : O P n ops Ch E Q i d (.convert src dst x) l h :=
  s_conv hx hs hd hb (by rw [ha, wrapU_in _ hn]; exact k)
theorem s_convUw {src dst : TypeId} {k0 : IntKind} {a : Int} {u : TypeDesc} (m : Nat) (hx : ev l x = some (.int k0 a)) (hs : P.underlying src = some u) (hd : P.underlying dst = some (.int .u64)) (hb : Nat.blt d n = true) (ha : a % 18446744073709551616 = (m : Int))
    (k : S P n ops Ch E Q (i + 1) ((d, U m) :: l) h) : O P n ops Ch E Q i d (.convert src dst x) l h :=
  s_conv hx hs hd hb (by rw [IntKind.wrap_u64, ha]; exact k)
theorem s_convI {src dst : TypeId} {k0 : IntKind} {a : Int} {u : TypeDesc} (hx : ev l x = some (.int k0 a)) (hs : P.underlying src = some u) (hd : P.underlying dst = some (.int .i64)) (hb : Nat.blt d n = true) (hn : -9223372036854775808 ≤ a ∧ a < 9223372036854775808)
    (k : S P n ops Ch E Q (i + 1) ((d, I a) :: l) h) : O P n ops Ch E Q i d (.convert src dst x) l h :=
  s_conv hx hs hd hb (by rw [wrapI_in _ hn]; exact k)
theorem s_shlU' {a : Nat} {yk : IntKind} {c : Nat} (hx : IsK (ev l x) .u64 a) (hy : IsK (ev l y) yk c) (hb : Nat.blt d n = true) (hn : c ≤ 64) (hm : a * 2 ^ c < 18446744073709551616)
    (k : S P n ops Ch E Q (i + 1) ((d, U (a * 2 ^ c)) :: l) h) : O P n ops Ch E Q i d (.binOp .shl t x y yt) l h :=
  s_shlU hx hy hb hn (by rw [Nat.mod_eq_of_lt hm]; exact k)

/-! ### calls -/

def Ent (P : Program) (f : FuncId) : Prop := ∀ args w, (callFunc f args).run P w = .ok (.enter f args) w

theorem ent_of {f : FuncId} {fn : Func} {c : Code} (hf : P.funcs[f]? = some fn) (hname : (fn.name == "runtime.NumGoroutine") = false) (hb : fn.body = some c) : Ent P f := by
  intro args w
  have h1 : fn.name ≠ "runtime.NumGoroutine" := by simpa using hname
  simp [callFunc, hf, h1, hb, program, Sem.run]

theorem run_static {ty : TypeId} {ps : String} {af : Array Edge} {g : Option (Nat × Bool)} {a : Act} {f : FuncId} {args : Array Operand} {at_ : Array TypeId} {w : World} : (execOp a.eval ⟨some d, .call ⟨.value (.func f), args, at_⟩, ty, ps, af, g⟩).run P w = (callFunc f (args.map a.eval)).run P w := by
  simp [execOp, resolve, Deferred.ofValue, Act.eval, invoke]

theorem s_call {f : FuncId} {args : List Operand} {at_ : Array TypeId} {vs : List Value} (he : Ent P f) (ha : evs l args = some vs) (hE : E i = true) (hb : Nat.blt d n = true)
    (k : CallsH P f vs h fun v h' => Ch h' ∧ S P n ops Ch E Q (i + 1) ((d, v) :: l) h') : O P n ops Ch E Q i d (.call ⟨.value (.func f), args.toArray, at_⟩) l h :=
  O.mk fun ho hg => s_eff ho hE hg fun a w hf hw => by
    unfold Eff
    rw [run_static, he]
    have : args.toArray.map a.eval = vs.toArray := by simp [hf.evs ha]
    rw [this]
    refine (k w hw).mono fun e w' hq => ?_
    obtain ⟨v, rfl, ⟨h1, h2⟩, h3⟩ := hq
    exact ⟨h3, h1, _, hf.put d v hb, h2⟩

/-- A call that the model answers itself. -/
theorem s_extern {f : FuncId} {args : List Operand} {at_ : Array TypeId} {vs : List Value} {v : Value} (he : ∀ w, (callFunc f vs.toArray).run P w = .ok (.value v) w) (ha : evs l args = some vs) (hb : Nat.blt d n = true)
    (k : S P n ops Ch E Q (i + 1) ((d, v) :: l) h) : O P n ops Ch E Q i d (.call ⟨.value (.func f), args.toArray, at_⟩) l h :=
  s_pure hb (fun a w' hf => by
    rw [run_static]
    have : args.toArray.map a.eval = vs.toArray := by simp [hf.evs ha]
    rw [this]; exact he w') k

end

/-! ### entry and return -/

def Fin (P : Program) (n : Nat) (fn : Func) (R : Value → Hp → Prop) : Post
  | .normal, l, h | .ret, l, h => ∃ v, (∀ a w, Fits l n a → w.heap = h → (results fn a.tmps).run P w = .ok v w) ∧ R v h
  | _, _, _ => False

def frm : Nat → List Value → Fr
  | _, [] => []
  | i, v :: vs => (i, v) :: frm (i + 1) vs

theorem look_frm : ∀ (vs : List Value) (i j : Nat) (v : Value), look (frm i vs) j = some v → i ≤ j ∧ vs[j - i]? = some v
  | [], _, _, _, e => by cases e
  | u :: vs, i, j, v, e => by
    simp only [frm, look] at e
    cases hj : Nat.beq j i with
    | true =>
      have := Nat.eq_of_beq_eq_true hj
      subst this
      rw [hj] at e
      simp only [cond_true] at e
      cases e
      simp
    | false =>
      rw [hj] at e
      obtain ⟨h1, h2⟩ := look_frm vs (i + 1) j v e
      refine ⟨by omega, ?_⟩
      rw [show j - i = (j - (i + 1)) + 1 by omega]
      simpa using h2

theorem enter {P : Program} {f : FuncId} {fn : Func} {n : Nat} {args : List Value} {h : Hp} {R : Value → Hp → Prop}
    (hf : P.funcs[f]? = some fn) (hb : fn.body.isSome = true) (hn : fn.ntmps = n) (ha : Nat.ble args.length n = true)
    (k : W P n (bodyOf fn) (Fin P n fn R) (frm 0 args) h) : CallsH P f args h R := fun w hw => by
  have ha' : args.length ≤ n := Nat.le_of_ble_eq_true ha
  obtain ⟨c, hc⟩ := Option.isSome_iff_exists.1 hb
  have hbc : bodyOf fn = c := by simp [bodyOf, hc]
  rw [hbc] at k
  refine calls_of_wp hf hc (wp_mono (k.run _ w ?_ hw) fun e a w' hq => ?_)
  · refine ⟨by simp [hn]; omega, fun i v hv => ?_, rfl⟩
    obtain ⟨-, h2⟩ := look_frm _ _ _ _ hv
    have hi : i < args.length := by
      have := (List.getElem?_eq_some_iff.1 h2).1
      simpa using this
    simp only [Nat.sub_zero] at h2 ⊢
    rw [Array.getElem?_append_left (by simpa using hi)]
    simpa using h2
  · obtain ⟨l, h1, h2, h3⟩ := hq
    cases e with
    | normal => obtain ⟨v, g1, g2⟩ := h2; exact ⟨h1.defers, v, g1 a w' h1 rfl, v, rfl, g2, h3⟩
    | ret => obtain ⟨v, g1, g2⟩ := h2; exact ⟨h1.defers, v, g1 a w' h1 rfl, v, rfl, g2, h3⟩
    | exit id => exact h2.elim
    | goto l => exact h2.elim
    | panic c => exact h2.elim
    | outgrown => exact h2.elim

section fin
variable {P : Program} {n : Nat} {fn : Func} {R : Value → Hp → Prop} {l : Fr} {h : Hp}
theorem fin1 {t : Nat} {v : Value} (hr : fn.results = #[.tmp t]) (hl : look l t = some v) (k : R v h) : At (Fin P n fn R) .ret l h :=
  ⟨⟨v, fun a w hf _ => by simp [results, hr, hf.slots t v hl], k⟩⟩
theorem fin2 {t u : Nat} {v v2 : Value} (hr : fn.results = #[.tmp t, .tmp u]) (hl : look l t = some v) (hl2 : look l u = some v2) (k : R (.tuple #[v, v2]) h) : At (Fin P n fn R) .ret l h :=
  ⟨⟨_, fun a w hf _ => by simp [results, hr, hf.slots t v hl, hf.slots u v2 hl2], k⟩⟩
theorem fin3 {t u s : Nat} {v v2 v3 : Value} (hr : fn.results = #[.tmp t, .tmp u, .tmp s]) (hl : look l t = some v) (hl2 : look l u = some v2) (hl3 : look l s = some v3) (k : R (.tuple #[v, v2, v3]) h) : At (Fin P n fn R) .ret l h :=
  ⟨⟨_, fun a w hf _ => by simp [results, hr, hf.slots t v hl, hf.slots u v2 hl2, hf.slots s v3 hl3], k⟩⟩
end fin

/-! ### A walk as far as it goes: the rules in turn, then what is left is handed back -/
structure Res (R : Prop) : Prop where mk ::
  get : R
theorem run {R G : Prop} (r : R) (k : Res R → G := by intro r; (repeat (first | (apply s_moveUc; exact rfl) | (apply s_move; exact rfl; exact rfl) | (apply s_assignUc; exact rfl) | (apply s_assign; exact rfl; exact rfl) | (apply s_extract; exact rfl; exact rfl; exact rfl) | (apply s_pickT; exact rfl; exact rfl; exact rfl) | (apply s_pickF; exact rfl; exact rfl; exact rfl) | (apply s_not; exact rfl; exact rfl) | (apply s_eqU; (first | exact isK_c | exact isK_t rfl); (first | exact isK_c | exact isK_t rfl); exact rfl) | (apply s_neU; (first | exact isK_c | exact isK_t rfl); (first | exact isK_c | exact isK_t rfl); exact rfl) | (apply s_ltU; (first | exact isK_c | exact isK_t rfl); (first | exact isK_c | exact isK_t rfl); exact rfl) | (apply s_leU; (first | exact isK_c | exact isK_t rfl); (first | exact isK_c | exact isK_t rfl); exact rfl) | (apply s_gtU; (first | exact isK_c | exact isK_t rfl); (first | exact isK_c | exact isK_t rfl); exact rfl) | (apply s_geU; (first | exact isK_c | exact isK_t rfl); (first | exact isK_c | exact isK_t rfl); exact rfl) | (apply s_eqI; exact rfl; exact rfl; exact rfl) | (apply s_neI; exact rfl; exact rfl; exact rfl) | (apply s_ltI; exact rfl; exact rfl; exact rfl) | (apply s_leI; exact rfl; exact rfl; exact rfl) | (apply s_gtI; exact rfl; exact rfl; exact rfl) | (apply s_geI; exact rfl; exact rfl; exact rfl) | (apply s_addI; exact rfl; exact rfl; exact rfl; (first | assumption | omega)) | (apply s_subI; exact rfl; exact rfl; exact rfl; (first | assumption | omega)) | (apply s_addU; (first | exact isK_c | exact isK_t rfl); (first | exact isK_c | exact isK_t rfl); exact rfl; (first | assumption | omega)) | (apply s_subU; (first | exact isK_c | exact isK_t rfl); (first | exact isK_c | exact isK_t rfl); exact rfl; (first | assumption | omega)) | (apply s_remU; (first | exact isK_c | exact isK_t rfl); (first | exact isK_c | exact isK_t rfl); exact rfl; (first | assumption | omega)) | (apply s_quoU; (first | exact isK_c | exact isK_t rfl); (first | exact isK_c | exact isK_t rfl); exact rfl; (first | assumption | omega)) | (apply s_mulU; (first | exact isK_c | exact isK_t rfl); (first | exact isK_c | exact isK_t rfl); exact rfl; (first | assumption | omega)) | (apply s_shlU'; (first | exact isK_c | exact isK_t rfl); (first | exact isK_c | exact isK_t rfl); exact rfl; (first | assumption | omega); (first | assumption | omega)) | (apply s_shlU; (first | exact isK_c | exact isK_t rfl); (first | exact isK_c | exact isK_t rfl); exact rfl; (first | assumption | omega)) | (apply s_shrU; (first | exact isK_c | exact isK_t rfl); (first | exact isK_c | exact isK_t rfl); exact rfl; (first | assumption | omega)) | (apply s_andU; (first | exact isK_c | exact isK_t rfl); (first | exact isK_c | exact isK_t rfl); exact rfl; (first | assumption | omega)) | (apply s_orU; (first | exact isK_c | exact isK_t rfl); (first | exact isK_c | exact isK_t rfl); exact rfl; (first | assumption | omega)) | (apply s_xorU; (first | exact isK_c | exact isK_t rfl); (first | exact isK_c | exact isK_t rfl); exact rfl; (first | assumption | omega)) | (apply s_negI; exact rfl; exact rfl; (first | assumption | omega)) | (apply s_negU; (first | exact isK_c | exact isK_t rfl); exact rfl; (first | assumption | omega)) | (apply s_convU; (first | exact isK_c | exact isK_t rfl); exact rfl; exact rfl; exact rfl; (first | assumption | omega)) | (apply s_convI; exact rfl; exact rfl; exact rfl; exact rfl; (first | assumption | omega)) | (apply s_op; exact rfl; exact rfl) | (apply s_skip; exact rfl; exact rfl; exact rfl) | (apply s_nil; exact rfl) | apply then_normal | apply then_ret | apply then_exit | apply inb_normal | apply inb_ret | apply inb_here | (apply inb_past; exact rfl) | apply again_exit | apply again_ret | apply cut_exit | apply cut_ret | (apply w_seq; exact rfl) | (apply r_plain; exact rfl) | (apply w_block; exact rfl) | (apply w_ret; exact rfl) | (apply w_cond_true; exact rfl; exact rfl) | (apply w_cond_false; exact rfl; exact rfl) | (apply w_exit; exact rfl) | (apply w_skip; exact rfl) | (apply w_label; exact rfl) | (apply r_drawnA; exact rfl; exact mixed; kernel_rfl))); exact r.get) : G := k ⟨r⟩
theorem runD {R G : Prop} (r : R) (k : Res R → G := by intro r; (repeat (first | (apply s_yesH; (first | assumption | omega)) | (apply s_noH; (first | assumption | omega)) | (apply s_moveUc; exact rfl) | (apply s_move; exact rfl; exact rfl) | (apply s_assignUc; exact rfl) | (apply s_assign; exact rfl; exact rfl) | (apply s_extract; exact rfl; exact rfl; exact rfl) | (apply s_pickT; exact rfl; exact rfl; exact rfl) | (apply s_pickF; exact rfl; exact rfl; exact rfl) | (apply s_not; exact rfl; exact rfl) | (apply s_eqU; (first | exact isK_c | exact isK_t rfl); (first | exact isK_c | exact isK_t rfl); exact rfl) | (apply s_neU; (first | exact isK_c | exact isK_t rfl); (first | exact isK_c | exact isK_t rfl); exact rfl) | (apply s_ltU; (first | exact isK_c | exact isK_t rfl); (first | exact isK_c | exact isK_t rfl); exact rfl) | (apply s_leU; (first | exact isK_c | exact isK_t rfl); (first | exact isK_c | exact isK_t rfl); exact rfl) | (apply s_gtU; (first | exact isK_c | exact isK_t rfl); (first | exact isK_c | exact isK_t rfl); exact rfl) | (apply s_geU; (first | exact isK_c | exact isK_t rfl); (first | exact isK_c | exact isK_t rfl); exact rfl) | (apply s_eqI; exact rfl; exact rfl; exact rfl) | (apply s_neI; exact rfl; exact rfl; exact rfl) | (apply s_ltI; exact rfl; exact rfl; exact rfl) | (apply s_leI; exact rfl; exact rfl; exact rfl) | (apply s_gtI; exact rfl; exact rfl; exact rfl) | (apply s_geI; exact rfl; exact rfl; exact rfl) | (apply s_addI; exact rfl; exact rfl; exact rfl; (first | assumption | omega)) | (apply s_subI; exact rfl; exact rfl; exact rfl; (first | assumption | omega)) | (apply s_addU; (first | exact isK_c | exact isK_t rfl); (first | exact isK_c | exact isK_t rfl); exact rfl; (first | assumption | omega)) | (apply s_subU; (first | exact isK_c | exact isK_t rfl); (first | exact isK_c | exact isK_t rfl); exact rfl; (first | assumption | omega)) | (apply s_remU; (first | exact isK_c | exact isK_t rfl); (first | exact isK_c | exact isK_t rfl); exact rfl; (first | assumption | omega)) | (apply s_quoU; (first | exact isK_c | exact isK_t rfl); (first | exact isK_c | exact isK_t rfl); exact rfl; (first | assumption | omega)) | (apply s_mulU; (first | exact isK_c | exact isK_t rfl); (first | exact isK_c | exact isK_t rfl); exact rfl; (first | assumption | omega)) | (apply s_shlU'; (first | exact isK_c | exact isK_t rfl); (first | exact isK_c | exact isK_t rfl); exact rfl; (first | assumption | omega); (first | assumption | omega)) | (apply s_shlU; (first | exact isK_c | exact isK_t rfl); (first | exact isK_c | exact isK_t rfl); exact rfl; (first | assumption | omega)) | (apply s_shrU; (first | exact isK_c | exact isK_t rfl); (first | exact isK_c | exact isK_t rfl); exact rfl; (first | assumption | omega)) | (apply s_andU; (first | exact isK_c | exact isK_t rfl); (first | exact isK_c | exact isK_t rfl); exact rfl; (first | assumption | omega)) | (apply s_orU; (first | exact isK_c | exact isK_t rfl); (first | exact isK_c | exact isK_t rfl); exact rfl; (first | assumption | omega)) | (apply s_xorU; (first | exact isK_c | exact isK_t rfl); (first | exact isK_c | exact isK_t rfl); exact rfl; (first | assumption | omega)) | (apply s_negI; exact rfl; exact rfl; (first | assumption | omega)) | (apply s_negU; (first | exact isK_c | exact isK_t rfl); exact rfl; (first | assumption | omega)) | (apply s_convU; (first | exact isK_c | exact isK_t rfl); exact rfl; exact rfl; exact rfl; (first | assumption | omega)) | (apply s_convI; exact rfl; exact rfl; exact rfl; exact rfl; (first | assumption | omega)) | (apply s_op; exact rfl; exact rfl) | (apply s_skip; exact rfl; exact rfl; exact rfl) | (apply s_nil; exact rfl) | apply then_normal | apply then_ret | apply then_exit | apply inb_normal | apply inb_ret | apply inb_here | (apply inb_past; exact rfl) | apply again_exit | apply again_ret | apply cut_exit | apply cut_ret | (apply w_seq; exact rfl) | (apply r_plain; exact rfl) | (apply w_block; exact rfl) | (apply w_ret; exact rfl) | (apply w_cond_true; exact rfl; exact rfl) | (apply w_cond_false; exact rfl; exact rfl) | (apply w_exit; exact rfl) | (apply w_skip; exact rfl) | (apply w_label; exact rfl) | (apply r_drawnA; exact rfl; exact mixed; kernel_rfl))); exact r.get) : G := k ⟨r⟩
theorem runS {R G : Prop} (r : R) (k : Res R → G := by intro r; (repeat (first | (apply s_moveUc; exact rfl) | (apply s_move; exact rfl; exact rfl) | (apply s_assignUc; exact rfl) | (apply s_assign; exact rfl; exact rfl) | (apply s_extract; exact rfl; exact rfl; exact rfl) | (apply s_pickT; exact rfl; exact rfl; exact rfl) | (apply s_pickF; exact rfl; exact rfl; exact rfl) | (apply s_not; exact rfl; exact rfl) | (apply s_eqU; (first | exact isK_c | exact isK_t rfl); (first | exact isK_c | exact isK_t rfl); exact rfl) | (apply s_neU; (first | exact isK_c | exact isK_t rfl); (first | exact isK_c | exact isK_t rfl); exact rfl) | (apply s_ltU; (first | exact isK_c | exact isK_t rfl); (first | exact isK_c | exact isK_t rfl); exact rfl) | (apply s_leU; (first | exact isK_c | exact isK_t rfl); (first | exact isK_c | exact isK_t rfl); exact rfl) | (apply s_gtU; (first | exact isK_c | exact isK_t rfl); (first | exact isK_c | exact isK_t rfl); exact rfl) | (apply s_geU; (first | exact isK_c | exact isK_t rfl); (first | exact isK_c | exact isK_t rfl); exact rfl) | (apply s_eqI; exact rfl; exact rfl; exact rfl) | (apply s_neI; exact rfl; exact rfl; exact rfl) | (apply s_ltI; exact rfl; exact rfl; exact rfl) | (apply s_leI; exact rfl; exact rfl; exact rfl) | (apply s_gtI; exact rfl; exact rfl; exact rfl) | (apply s_geI; exact rfl; exact rfl; exact rfl) | (apply s_op; exact rfl; exact rfl) | (apply s_skip; exact rfl; exact rfl; exact rfl) | (apply s_nil; exact rfl) | apply then_normal | apply then_ret | apply then_exit | apply inb_normal | apply inb_ret | apply inb_here | (apply inb_past; exact rfl) | apply again_exit | apply again_ret | apply cut_exit | apply cut_ret | (apply w_seq; exact rfl) | (apply r_plain; exact rfl) | (apply w_block; exact rfl) | (apply w_ret; exact rfl) | (apply w_cond_true; exact rfl; exact rfl) | (apply w_cond_false; exact rfl; exact rfl) | (apply w_exit; exact rfl) | (apply w_skip; exact rfl) | (apply w_label; exact rfl) | (apply r_drawnA; exact rfl; exact mixed; kernel_rfl))); exact r.get) : G := k ⟨r⟩
end Go.Den
