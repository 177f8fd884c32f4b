/- Texts NatM to BitE of this work, joined: each says in its own head what it proves, and of which condition. -/
import Derived.Test.YtbhhagdnbkkjpaaDoorMPr12
import Derived.ChangeKeysEq
import Derived.Laws.StructEq
import Derived.Laws.World
/- Naturals and whole numbers: long division by bits of the reference, and the functions on whole numbers. No condition. -/
namespace Go.Proofs.YtbhhagdnbkkjpaaDoor
set_option linter.unusedVariables false
set_option maxRecDepth 8000
open Go Go.Den Go.RowKit Go.Dig

/-- A whole number as it is told: its cells. -/
def wcells (neg : Bool) (v : Value) : List Value := [.bool neg, v]

/-- What a row of a whole number says. -/
def IV (neg : Bool) (X : Nat) : Int := if neg then -(X : Int) else X
/-- v is a whole number in memory, of the value z, as it is told: its size in own words. -/
def IntOf (h : Hp) (B : Nat) (v : Value) (z : Int) : Prop := ∃ a, v = .agg #[.bool (decide (z < 0)), a] ∧ OwnF h B 22 U a (dg 18446744073709551616 z.natAbs)
theorem IntOf.ext {h h' : Hp} {B : Nat} {v : Value} {z : Int} (s : IntOf h B v z) (e : Ext h h') : IntOf h' B v z := by obtain ⟨a, h1, h2⟩ := s; exact ⟨a, h1, h2.ext e⟩
theorem IntOf.base {h : Hp} {B B' : Nat} {v : Value} {z : Int} (s : IntOf h B v z) (hB : B' ≤ B) : IntOf h B' v z := by obtain ⟨a, h1, h2⟩ := s; exact ⟨a, h1, h2.base hB⟩
theorem iv_abs (neg : Bool) (X : Nat) : (IV neg X).natAbs = X ∧ decide (IV neg X < 0) = (neg && decide (X ≠ 0)) := by
  unfold IV
  cases neg with
  | true => simp only [if_true, Int.natAbs_neg, Int.natAbs_natCast, Bool.true_and, true_and, decide_eq_decide]; omega
  | false => simp only [Bool.false_eq_true, if_false, Int.natAbs_natCast, Bool.false_and, true_and, decide_eq_false_iff_not]; omega
theorem IntOf.of {h : Hp} {B : Nat} {neg : Bool} {Z : Nat} {v : Value} (o : OwnF h B 22 U v (dg 18446744073709551616 Z)) : IntOf h B (.agg #[.bool (neg && decide (Z ≠ 0)), v]) (IV neg Z) := by
  obtain ⟨h1, h2⟩ := iv_abs neg Z
  exact ⟨v, by rw [h2], by rw [h1]; exact o⟩
theorem iv_same (neg : Bool) (X Y : Nat) : IV neg (X + Y) = IV neg X + IV neg Y := by
  unfold IV; cases neg <;> simp <;> omega
theorem iv_other {n1 n2 : Bool} {X Y : Nat} (hn : n1 ≠ n2) (hle : Y ≤ X) : IV n1 (X - Y) = IV n1 X + IV n2 Y := by
  unfold IV; cases n1 <;> cases n2 <;> simp at hn ⊢ <;> omega
theorem dg_len_add {X Y m : Nat} {xs ys : List Nat} (hx : Al 18446744073709551616 xs) (hy : Al 18446744073709551616 ys) (hX : vl 18446744073709551616 xs = X) (hY : vl 18446744073709551616 ys = Y) (h1 : xs.length ≤ m) (h2 : ys.length ≤ m) : (dg 18446744073709551616 (X + Y)).length ≤ m + 1 := by
  apply dg_len (by omega)
  have a := vl_lt hx
  have b := vl_lt hy
  have c : 18446744073709551616 ^ xs.length ≤ 18446744073709551616 ^ m := Nat.pow_le_pow_right (by omega) h1
  have d : 18446744073709551616 ^ ys.length ≤ 18446744073709551616 ^ m := Nat.pow_le_pow_right (by omega) h2
  rw [Nat.pow_succ]
  omega
theorem dg_len_le {X Y : Nat} {xs : List Nat} (hx : Al 18446744073709551616 xs) (hX : vl 18446744073709551616 xs = X) (h : Y ≤ X) : (dg 18446744073709551616 Y).length ≤ xs.length := by
  apply dg_len (by omega)
  have a := vl_lt hx
  omega

theorem cmpI_pos {m n : Nat} : 0 < cmpI m n ↔ n < m := by
  unfold cmpI
  by_cases h1 : m < n
  · simp [h1]; omega
  · by_cases h2 : n < m <;> simp [h1, h2]
theorem cmpI_zero {m n : Nat} : cmpI m n = 0 ↔ m = n := by
  unfold cmpI
  by_cases h1 : m < n
  · simp [h1]; omega
  · by_cases h2 : n < m <;> simp [h1, h2] <;> omega
theorem iv_mul (n1 n2 : Bool) (X Y : Nat) : IV (decide (n1 ≠ n2)) (X * Y) = IV n1 X * IV n2 Y := by
  unfold IV; cases n1 <;> cases n2 <;> simp [Int.neg_mul, Int.mul_neg]
theorem dg_len_mul {xs ys : List Nat} (hx : Al 18446744073709551616 xs) (hy : Al 18446744073709551616 ys) : (dg 18446744073709551616 (vl 18446744073709551616 xs * vl 18446744073709551616 ys)).length ≤ xs.length + ys.length := by
  apply dg_len (by omega)
  rw [Nat.pow_add]
  exact Nat.mul_lt_mul'' (vl_lt hx) (vl_lt hy)

theorem ediv_of {n d k : Int} (hd : 0 < d) (h1 : d * k ≤ n) (h2 : n < d * k + d) : n / d = k := by
  have a := Int.emod_nonneg n (by omega : d ≠ 0)
  have b := Int.emod_lt_of_pos n hd
  have c := Int.mul_ediv_add_emod n d
  have e : d * (n / d - k) < d := by rw [Int.mul_sub]; omega
  have f : -d < d * (n / d - k) := by rw [Int.mul_sub]; omega
  have g1 : n / d - k < 1 := by
    refine Int.lt_of_not_ge fun hge => ?_
    have := Int.mul_le_mul_of_nonneg_left hge (Int.le_of_lt hd)
    omega
  have g2 : -1 < n / d - k := by
    refine Int.lt_of_not_ge fun hge => ?_
    have := Int.mul_le_mul_of_nonneg_left hge (Int.le_of_lt hd)
    rw [Int.mul_neg] at this
    omega
  omega
/-- The nearest whole number to a quotient; a half goes up. -/
def nearZ (z : Int) (Y : Nat) : Int := (2 * z + Y) / (2 * Y)
def nearQ (neg : Bool) (X Y : Nat) : Nat := X / Y + if Y < 2 * (X % Y) ∨ 2 * (X % Y) = Y ∧ (neg && decide (X ≠ 0)) = false then 1 else 0
theorem near_eq {neg : Bool} {X Y : Nat} (hY : 0 < Y) : nearZ (IV neg X) Y = IV neg (nearQ neg X Y) := by
  unfold nearZ nearQ
  have h1 := Nat.div_add_mod X Y
  have h2 := Nat.mod_lt X hY
  generalize X / Y = q at *
  generalize X % Y = r at *
  apply ediv_of (by omega)
  all_goals
    have hp : (Y : Int) * (q : Int) = ((Y * q : Nat) : Int) := by simp
    have hq0 : q = 0 → Y * q = 0 := fun h => by rw [h, Nat.mul_zero]
    unfold IV
    cases neg with
    | false =>
      simp only [Bool.false_and, and_true, Bool.false_eq_true, if_false]
      split <;> (simp only [Int.natCast_add, Int.mul_add, Int.mul_assoc, hp, Int.natCast_one, Int.natCast_zero, Int.mul_one, Int.mul_zero]; omega)
    | true =>
      simp only [Bool.true_and, decide_eq_false_iff_not, if_true]
      split <;> (simp only [Int.natCast_add, Int.mul_add, Int.mul_neg, Int.neg_add, Int.mul_assoc, hp, Int.natCast_one, Int.natCast_zero, Int.mul_one, Int.mul_zero]; omega)

end Go.Proofs.YtbhhagdnbkkjpaaDoor

/- Naturals: long division by bits of the reference, by contract. No condition. -/
namespace Go.Proofs.YtbhhagdnbkkjpaaDoor
set_option linter.unusedVariables false
set_option maxRecDepth 8000
open Go Go.Den Go.RowKit Go.Dig

/-- A bit more of what is divided. -/
theorem bit_step {V W x j t R Y : Nat} (hj : j ≤ 15) (h : V * 2 ^ (16 - (j + 1)) + x / 2 ^ (j + 1) = (W * 2 ^ (16 - (j + 1)) + t) * Y + R) :
    V * 2 ^ (16 - j) + x / 2 ^ j = (W * 2 ^ (16 - j) + 2 * t) * Y + (2 * R + x / 2 ^ j % 2) := by
  have e : 2 ^ (16 - j) = 2 * 2 ^ (16 - (j + 1)) := by rw [show 16 - j = (16 - (j + 1)) + 1 by omega, Nat.pow_succ, Nat.mul_comm]
  have d : x / 2 ^ (j + 1) = x / 2 ^ j / 2 := by rw [Nat.pow_succ, Nat.div_div_eq_div_mul]
  rw [d] at h
  have m := Nat.div_add_mod (x / 2 ^ j) 2
  have f0 : W * 2 ^ (16 - j) + 2 * t = 2 * (W * 2 ^ (16 - (j + 1)) + t) := by rw [e, Nat.mul_add, Nat.mul_left_comm]
  have f : (W * 2 ^ (16 - j) + 2 * t) * Y = 2 * ((W * 2 ^ (16 - (j + 1)) + t) * Y) := by rw [f0, Nat.mul_assoc]
  have g : V * 2 ^ (16 - j) = 2 * (V * 2 ^ (16 - (j + 1))) := by rw [e, Nat.mul_left_comm]
  rw [f, g]
  omega
theorem bit_take {A t R Y N : Nat} (h : N = (A + 2 * t) * Y + R) (hle : Y ≤ R) : N = (A + (2 * t + 1)) * Y + (R - Y) := by
  rw [h, ← Nat.add_assoc, Nat.add_mul (A + 2 * t) 1 Y, Nat.one_mul]; omega

theorem cmpI_ge {m n : Nat} : 0 ≤ cmpI m n ↔ n ≤ m := by
  unfold cmpI
  by_cases h1 : m < n
  · simp [h1]
  · by_cases h2 : n < m <;> simp [h1, h2] <;> omega
theorem tpow {t j : Nat} (hj : j ≤ 15) (ht : t < 2 ^ (16 - (j + 1))) : 2 * t + 1 < 2 ^ (16 - j) ∧ (2 * t + 1) * 2 ^ j < 65536 ∧ t * 2 ^ (j + 1) + 1 * 2 ^ j = (2 * t + 1) * 2 ^ j ∧ t * 2 ^ (j + 1) = 2 * t * 2 ^ j ∧ 1 * 2 ^ j < 9223372036854775808 ∧ t * 2 ^ (j + 1) + 1 * 2 ^ j < 9223372036854775808 := by
  have e : 2 ^ (16 - j) = 2 * 2 ^ (16 - (j + 1)) := by rw [show 16 - j = (16 - (j + 1)) + 1 by omega, Nat.pow_succ, Nat.mul_comm]
  have h1 : 2 * t + 1 < 2 ^ (16 - j) := by omega
  have h2 : (2 * t + 1) * 2 ^ j < 65536 := by
    have := Nat.mul_lt_mul_of_pos_right h1 (Nat.pow_pos (show 0 < 2 by omega) (n := j))
    rwa [← Nat.pow_add, show 16 - j + j = 16 by omega] at this
  have h3 : t * 2 ^ (j + 1) = 2 * t * 2 ^ j := by rw [Nat.pow_succ, Nat.mul_comm (2 ^ j) 2, ← Nat.mul_assoc, Nat.mul_comm t 2]
  have h4 : t * 2 ^ (j + 1) + 1 * 2 ^ j = (2 * t + 1) * 2 ^ j := by rw [h3, Nat.add_mul]
  have h5 : 1 * 2 ^ j ≤ (2 * t + 1) * 2 ^ j := Nat.mul_le_mul_right _ (by omega)
  refine ⟨h1, h2, h4, h3, by omega, by rw [h4]; omega⟩

end Go.Proofs.YtbhhagdnbkkjpaaDoor

/- Naturals: the reference's functions on naturals, by contracts. No condition. -/
namespace Go.Proofs.YtbhhagdnbkkjpaaDoor
set_option linter.unusedVariables false
set_option maxRecDepth 8000
open Go Go.Den Go.RowKit Go.Dig

theorem vlt {xs : List Nat} (hx : Al 18446744073709551616 xs) : vl 18446744073709551616 xs < 65536 ^ (4 * xs.length) := by rw [pow64]; exact vl_lt hx
theorem d16_len {X n : Nat} (h : X < 65536 ^ (4 * n)) : (dg 65536 X).length ≤ 4 * n := dg_len (by omega) h
theorem d16_add {X Y m n : Nat} (h : X < 65536 ^ (4 * m)) (k : Y < 65536 ^ (4 * n)) : X + Y < 65536 ^ (4 * (m + n + 1)) := by
  have a : 65536 ^ (4 * m) ≤ 65536 ^ (4 * (m + n)) := Nat.pow_le_pow_right (by omega) (by omega)
  have b : 65536 ^ (4 * n) ≤ 65536 ^ (4 * (m + n)) := Nat.pow_le_pow_right (by omega) (by omega)
  have c : 65536 ^ (4 * (m + n + 1)) = 65536 ^ (4 * (m + n)) * 65536 ^ 4 := by rw [show 4 * (m + n + 1) = 4 * (m + n) + 4 by omega, Nat.pow_add]
  have d : 65536 ^ (4 * (m + n)) * 2 ≤ 65536 ^ (4 * (m + n)) * 65536 ^ 4 := Nat.mul_le_mul_left _ (by omega)
  rw [c]; omega
theorem d16_mul {X Y m n : Nat} (h : X < 65536 ^ (4 * m)) (k : Y < 65536 ^ (4 * n)) : X * Y < 65536 ^ (4 * (m + n)) := by
  rw [show 4 * (m + n) = 4 * m + 4 * n by omega, Nat.pow_add]; exact Nat.mul_lt_mul'' h k

theorem nb_half {v : Nat} (h : v ≠ 0) : nb v = nb (v / 2) + 1 := by
  by_cases h1 : v / 2 = 0
  · have : v = 1 := by omega
    subst this; rfl
  · have h2 := (Nat.le_log2 h1).1 (Nat.le_refl _)
    have h3 := (Nat.log2_lt h1).1 (Nat.lt_succ_self _)
    rw [show nb (v / 2) = (v / 2).log2 + 1 by rw [nb, if_neg h1]]
    apply nb_of
    · rw [Nat.pow_succ]; omega
    · rw [Nat.pow_succ]; simp only [Nat.succ_eq_add_one] at h3; omega

end Go.Proofs.YtbhhagdnbkkjpaaDoor

/- Whole numbers: the reference's functions on them, by contracts. No condition. -/
namespace Go.Proofs.YtbhhagdnbkkjpaaDoor
set_option linter.unusedVariables false
set_option maxRecDepth 8000
open Go Go.Den Go.RowKit Go.Dig

/-- v is a whole number, of the value z, as it is told, wherever it lies. -/
def IntSl (h : Hp) (v : Value) (z : Int) : Prop := ∃ a, v = .agg #[.bool (decide (z < 0)), a] ∧ SlF h U a (dg 18446744073709551616 z.natAbs)
theorem IntOf.sl {h : Hp} {B : Nat} {v : Value} {z : Int} (s : IntOf h B v z) : IntSl h v z := by obtain ⟨a, h1, h2⟩ := s; exact ⟨a, h1, h2.sl⟩
theorem IntSl.ext {h h' : Hp} {v : Value} {z : Int} (s : IntSl h v z) (e : Ext h h') : IntSl h' v z := by obtain ⟨a, h1, h2⟩ := s; exact ⟨a, h1, h2.ext e⟩
theorem int_eq_iff {z w : Int} : z = w ↔ decide (z < 0) = decide (w < 0) ∧ dg 18446744073709551616 z.natAbs = dg 18446744073709551616 w.natAbs := by
  constructor
  · rintro rfl; exact ⟨rfl, rfl⟩
  · rintro ⟨h1, h2⟩
    have := dg_inj (b := 18446744073709551616) (by omega) h2
    simp only [decide_eq_decide] at h1
    omega

end Go.Proofs.YtbhhagdnbkkjpaaDoor

/- Package crt: rows of primes, residues, products. Condition of what tests primes: the table of math/bits reads as it is laid. -/
namespace Go.Proofs.YtbhhagdnbkkjpaaDoor
set_option linter.unusedVariables false
set_option maxRecDepth 8000
open Go Go.Den Go.RowKit Go.Dig

/-- May a row of primes be? -/
def rightP (row : List Nat) : Prop := (∀ q ∈ row, 3 ≤ q ∧ q < 2305843009213693952 ∧ isB q = true) ∧ row.Nodup ∧ 0 < row.length ∧ row.length ≤ 24
instance (row : List Nat) : Decidable (rightP row) := by unfold rightP; exact inferInstance

theorem resid_eq (neg : Bool) (X q : Nat) : (if neg then subm 0 (if q = 0 then 0 else X % q) q else (if q = 0 then 0 else X % q)) = liftm (IV neg X) q := by
  rcases Nat.eq_zero_or_pos q with rfl | hq
  · cases neg <;> simp [subm, liftm]
  · have hq0 : ¬ q = 0 := by omega
    simp only [hq0, if_false]
    cases neg with
    | false =>
      simp only [IV, Bool.false_eq_true, if_false]
      rw [lift_pos (by omega) (by omega), Int.toNat_natCast]
    | true =>
      simp only [IV, if_true]
      rcases Nat.eq_zero_or_pos X with rfl | hX
      · simp [liftm, subm]
      · rw [lift_neg (by omega) (by omega), Int.neg_neg, Int.toNat_natCast]
        unfold subm
        rw [Nat.mod_mod]

def prodL (row : List Nat) : Nat := row.foldl (· * ·) 1
theorem prodL_snoc (row : List Nat) (q : Nat) : prodL (row ++ [q]) = prodL row * q := by unfold prodL; rw [List.foldl_append]; rfl
theorem prodL_lt {row : List Nat} (h : Al 18446744073709551616 row) : prodL row < 18446744073709551616 ^ (row.length + 1) := by
  have key : ∀ (n : Nat), n ≤ row.length → prodL (row.take n) < 18446744073709551616 ^ (n + 1) := by
    intro n
    induction n with
    | zero => intro _; simp [prodL]
    | succ n ih =>
      intro hn
      obtain ⟨q, hq⟩ := get_lt (l := row) (j := n) (by omega)
      have hq64 := h q (List.mem_of_getElem? hq)
      rw [take_snoc hq, prodL_snoc, Nat.pow_succ]
      exact Nat.mul_lt_mul_of_lt_of_lt (ih (by omega)) hq64
  have := key row.length (Nat.le_refl _)
  rwa [List.take_of_length_le (Nat.le_refl _)] at this

end Go.Proofs.YtbhhagdnbkkjpaaDoor

/- Own calculus, part M: arrays of ints, built and compared. No condition. -/
namespace Go.Den
set_option linter.unusedVariables false
set_option maxRecDepth 8000
open Go Go.RowKit

theorem run_part {P : Program} {e : TypeId} {cs : List Value} {off : Nat} {u : Value} {w : World} (ht : plainTy P e = true) (hj : cs[off]? = some u) : (part e cs.toArray off).run P w = .ok u w := by
  simp [part, run_isAgg_plain ht, hj]
theorem eqItems_ints {P : Program} {w : World} {e : TypeId} {xs ys : List Int} (d : Nat) (he : P.underlying e = some (.int .i64)) (hp : plainTy P e = true) (hl : xs.length = ys.length) : ∀ (k j : Nat), j + k = xs.length →
    (Op.eqItems (d + 1) e 1 (xs.map I).toArray (ys.map I).toArray (List.range' j k)).run P w = .ok (decide (xs.drop j = ys.drop j)) w
  | 0, j, h => by
    rw [List.drop_of_length_le (by omega), List.drop_of_length_le (by omega)]
    simp [Op.eqItems]
  | k + 1, j, h => by
    have hx : xs[j]? = some xs[j] := List.getElem?_eq_getElem (by omega)
    have hy : ys[j]? = some ys[j] := List.getElem?_eq_getElem (by omega)
    have p1 := run_part (P := P) (w := w) hp (show (xs.map I)[j]? = some (I xs[j]) by rw [List.getElem?_map, hx]; rfl)
    have p2 := run_part (P := P) (w := w) hp (show (ys.map I)[j]? = some (I ys[j]) by rw [List.getElem?_map, hy]; rfl)
    have p3 := run_equalIn_int (P := P) w d e .i64 .i64 xs[j] ys[j] he
    have ih := eqItems_ints (w := w) d he hp hl k (j + 1) (by omega)
    rw [List.range'_succ]
    simp only [Op.eqItems, Sem.run_bind, Nat.mul_one, p1, p2, p3, Result.andThen_ok]
    rw [show xs.drop j = xs[j] :: xs.drop (j + 1) from List.drop_eq_getElem_cons (by omega), show ys.drop j = ys[j] :: ys.drop (j + 1) from List.drop_eq_getElem_cons (by omega)]
    by_cases hq : xs[j] = ys[j]
    · rw [hq]
      simp only [beq_self_eq_true, Bool.not_true, Bool.false_eq_true, if_false, ih]
      simp [-List.getElem_cons_drop]
    · have : (xs[j] == ys[j]) = false := by simpa using hq
      have hne : ¬ (xs[j] :: xs.drop (j + 1) = ys[j] :: ys.drop (j + 1)) := fun e => hq (List.cons.inj e).1
      rw [this, decide_eq_false hne]
      simp

section rules
variable {P : Program} {n : Nat} {Q : Post} {l : Fr} {h : Hp} {ops : List Oper} {Ch : Hp → Prop} {E : Nat → Bool} {i : Nat}
variable {d : Nat} {t : TypeId} {x y z : Operand}
/-- Two arrays of ints. -/
theorem s_eqArr {yt e : TypeId} {m : Nat} (xs ys : List Int) (hx : ev l x = some (.agg (xs.map I).toArray)) (hy : ev l y = some (.agg (ys.map I).toArray)) (ht : P.underlying t = some (.array m e)) (he : P.underlying e = some (.int .i64)) (hs : (P.info? e).map (·.size) = some 1) (hp : plainTy P e = true) (hm : P.eqGuardType P.depth t = false) (hlx : xs.length = m) (hly : ys.length = m) (hb : Nat.blt d n = true)
    (k : S P n ops Ch E Q (i + 1) ((d, .bool (decide (xs = ys))) :: l) h) : O P n ops Ch E Q i d (.binOp .eql t x y yt) l h :=
  s_bin hx hy hb (fun w' => by
    cases hi : P.info? e with
    | none => rw [hi] at hs; cases hs
    | some inf =>
      rw [hi] at hs
      simp only [Option.map_some, Option.some.injEq] at hs
      have hc : P.cellsOf e = 1 := by unfold Program.cellsOf; rw [hi]; exact hs
      have h1 := eqItems_ints (P := P) (w := w') 9998 he hp (by rw [hlx, hly]) m 0 (by omega) (xs := xs) (ys := ys)
      rw [Sem.run_bind, run_eqGuard_agg (P := P) w' .eql t x y _ _ hm, Result.andThen_ok, run_eql_struct (P := P) w' t, run_equalIn_array (P := P) w' 9999 _ _ ht hi, hc, List.range_eq_range', h1]
      simp) k
theorem s_buildArr {m s : Nat} {e : TypeId} {parts : Array (Nat × Operand)} {vs : List Value} {css : List (List Value)} (cs : List Value) (he : evs l (parts.toList.map (·.2)) = some vs) (ht : P.underlying t = some (.array m e)) (hs : (P.info? e).map (·.size) = some s) {zs : List Value} (hi : (P.info? t).bind (fun i => i.zero.map fun z => z.cells.toList) = some zs)
    (hc : CellsAll vs css) (hcs : fillP (fun i => some (i * s, s)) zs ((parts.toList.map (·.1)).zip css) = some cs) (hb : Nat.blt d n = true)
    (k : S P n ops Ch E Q (i + 1) ((d, .agg cs.toArray) :: l) h) : O P n ops Ch E Q i d (.build t parts) l h :=
  s_pure hb (fun a w' hf => by
    cases hq : P.info? t with
    | none => rw [hq] at hi; cases hi
    | some inf =>
      rw [hq] at hi
      simp only [Option.bind_some] at hi
      cases hz : inf.zero with
      | none => rw [hz] at hi; cases hi
      | some z =>
        rw [hz] at hi
        simp only [Option.map_some, Option.some.injEq] at hi
        cases hq2 : P.info? e with
        | none => rw [hq2] at hs; cases hs
        | some inf2 =>
          rw [hq2] at hs
          simp only [Option.map_some, Option.some.injEq] at hs
          have hpa : (parts.map fun (i, x) => (i, a.eval x)) = ((parts.toList.map (·.1)).zip vs).toArray := by
            apply Array.ext'
            rw [← hf.evs he, Array.toList_map, List.map_map, List.zip_map']; rfl
          have hzip : ((parts.toList.map (·.1)).zip vs).map (fun x => (x.1, x.2.cells.toList)) = (parts.toList.map (·.1)).zip css := by
            rw [← hc.eq, List.zip_map_right]
            first | done | rfl
          have hfl := fill_fillP (place := fun i => some (i * s, s)) ((parts.toList.map (·.1)).zip vs) zs cs (hzip ▸ hcs)
          have e1 : z.cells = zs.toArray := by rw [← hi]
          have hr : (Instr.build t ((parts.toList.map (·.1)).zip vs).toArray).run P w' = .ok (.agg cs.toArray) w' := by
            simp [Instr.build, zeroValue, typeInfo, hq, hz, run_underlying ht, sizeOf, hq2, hs, e1, hfl]
          simp only [execOp, hpa, Sem.run_bind, hr]; rfl) k
end rules
end Go.Den

/- Walking rules: min of two words or ints, and what is told of a slot. No condition. -/
namespace Go.Den
set_option linter.unusedVariables false
set_option maxRecDepth 8000
open Go Go.RowKit

section rules
variable {P : Program} {n : Nat} {Q : Post} {l : Fr} {h : Hp} {ops : List Oper} {Ch : Hp → Prop} {E : Nat → Bool} {i d : Nat} {x y : Operand} {ts : Array TypeId}
theorem s_minU {a b : Nat} (hx : IsK (ev l x) .u64 a) (hy : IsK (ev l y) .u64 b) (hb : Nat.blt d n = true)
    (k : S P n ops Ch E Q (i + 1) ((d, U (min a b)) :: l) h) : O P n ops Ch E Q i d (.call ⟨.builtin .min, #[x, y], ts⟩) l h :=
  s_pure hb (fun A w' hf => by
    have e : (if b < a then (b : Int) else (a : Int)) = ((min a b : Nat) : Int) := by
      split <;> omega
    simp [execOp, resolve, invoke, builtin, hf.ev hx.h, hf.ev hy.h, Builtin.min_, Builtin.min2, e]) k
theorem s_minI {a b : Int} (hx : ev l x = some (I a)) (hy : ev l y = some (I b)) (hb : Nat.blt d n = true)
    (k : S P n ops Ch E Q (i + 1) ((d, I (min a b)) :: l) h) : O P n ops Ch E Q i d (.call ⟨.builtin .min, #[x, y], ts⟩) l h :=
  s_pure hb (fun A w' hf => by
    have e : (if b < a then b else a) = min a b := by
      split <;> omega
    simp [execOp, resolve, invoke, builtin, hf.ev hx, hf.ev hy, Builtin.min_, Builtin.min2, e]) k
end rules
end Go.Den

/- Sums, congruence, transforms: no program. No condition. -/
namespace Go.Mth

/-- Congruent modulo q. -/
def Cg (q a b : Int) : Prop := ∃ k, a = b + q * k
section
variable {q a b c d : Int}
theorem Cg.refl (q a : Int) : Cg q a a := ⟨0, by omega⟩
theorem Cg.of_eq (h : a = b) : Cg q a b := ⟨0, by omega⟩
theorem Cg.symm (h : Cg q a b) : Cg q b a := by
  obtain ⟨k, h⟩ := h
  exact ⟨-k, by rw [h, Int.mul_neg]; omega⟩
theorem Cg.trans (h : Cg q a b) (k : Cg q b c) : Cg q a c := by
  obtain ⟨x, h⟩ := h
  obtain ⟨y, k⟩ := k
  exact ⟨x + y, by rw [h, k, Int.mul_add]; omega⟩
theorem Cg.add (h : Cg q a b) (k : Cg q c d) : Cg q (a + c) (b + d) := by
  obtain ⟨x, h⟩ := h
  obtain ⟨y, k⟩ := k
  exact ⟨x + y, by rw [h, k, Int.mul_add]; omega⟩
theorem Cg.neg (h : Cg q a b) : Cg q (-a) (-b) := by
  obtain ⟨x, h⟩ := h
  exact ⟨-x, by rw [h, Int.mul_neg]; omega⟩
theorem Cg.sub (h : Cg q a b) (k : Cg q c d) : Cg q (a - c) (b - d) := by
  rw [Int.sub_eq_add_neg, Int.sub_eq_add_neg]; exact h.add k.neg
theorem Cg.mul (h : Cg q a b) (k : Cg q c d) : Cg q (a * c) (b * d) := by
  obtain ⟨x, h⟩ := h
  obtain ⟨y, k⟩ := k
  refine ⟨b * y + x * d + x * q * y, ?_⟩
  subst h; subst k; grind
theorem Cg.pow (h : Cg q a b) : ∀ n : Nat, Cg q (a ^ n) (b ^ n)
  | 0 => by rw [Int.pow_zero, Int.pow_zero]; exact Cg.refl _ _
  | n + 1 => by rw [Int.pow_succ, Int.pow_succ]; exact (h.pow n).mul h
theorem Cg.mod (q a : Int) : Cg q (a % q) a := ⟨-(a / q), by have := Int.emod_add_mul_ediv a q; rw [Int.mul_neg]; omega⟩
theorem Cg.q0 (q : Int) : Cg q q 0 := ⟨1, by omega⟩
theorem Cg.eq (h : Cg q a b) (h1 : 0 ≤ a) (h2 : a < q) (h3 : 0 ≤ b) (h4 : b < q) : a = b := by
  obtain ⟨k, h⟩ := h
  have : k = 0 := by
    rcases Int.lt_trichotomy k 0 with hk | hk | hk
    · have := Int.mul_le_mul_of_nonneg_left (show k ≤ -1 by omega) (show 0 ≤ q by omega)
      omega
    · exact hk
    · have := Int.mul_le_mul_of_nonneg_left (show 1 ≤ k by omega) (show 0 ≤ q by omega)
      omega
  subst this
  omega
theorem Cg.eqN {q a b : Nat} (h : Cg q a b) (h2 : a < q) (h4 : b < q) : a = b := by
  have := h.eq (by omega) (by omega) (by omega) (by omega)
  omega
end

/-- Sums. -/
def sm : Nat → (Nat → Int) → Int
  | 0, _ => 0
  | n + 1, f => sm n f + f n
theorem sm_congr {f g : Nat → Int} : ∀ n, (∀ j, j < n → f j = g j) → sm n f = sm n g
  | 0, _ => rfl
  | n + 1, h => by unfold sm; rw [sm_congr n fun j hj => h j (by omega), h n (by omega)]
theorem sm_cg {q : Int} {f g : Nat → Int} : ∀ n, (∀ j, j < n → Cg q (f j) (g j)) → Cg q (sm n f) (sm n g)
  | 0, _ => Cg.refl _ _
  | n + 1, h => by unfold sm; exact (sm_cg n fun j hj => h j (by omega)).add (h n (by omega))
theorem sm_add {f g : Nat → Int} : ∀ n, sm n (fun j => f j + g j) = sm n f + sm n g
  | 0 => rfl
  | n + 1 => by unfold sm; rw [sm_add n]; dsimp only; omega
theorem sm_sub {f g : Nat → Int} : ∀ n, sm n (fun j => f j - g j) = sm n f - sm n g
  | 0 => rfl
  | n + 1 => by unfold sm; rw [sm_sub n]; dsimp only; omega
theorem sm_mul {f : Nat → Int} (c : Int) : ∀ n, sm n (fun j => c * f j) = c * sm n f
  | 0 => by unfold sm; rw [Int.mul_zero]
  | n + 1 => by unfold sm; rw [sm_mul c n, Int.mul_add]
theorem sm_mulR {f : Nat → Int} (c : Int) (n : Nat) : sm n (fun j => f j * c) = sm n f * c := by
  rw [Int.mul_comm, ← sm_mul]; exact sm_congr n fun j _ => Int.mul_comm _ _
theorem sm_zero : ∀ n, sm n (fun _ => 0) = 0
  | 0 => rfl
  | n + 1 => by unfold sm; rw [sm_zero n]; rfl
theorem sm_one : ∀ n : Nat, sm n (fun _ => 1) = n
  | 0 => rfl
  | n + 1 => by unfold sm; rw [sm_one n]; dsimp only; omega
theorem sm_app {f : Nat → Int} (m : Nat) : ∀ n, sm (m + n) f = sm m f + sm n (fun j => f (m + j))
  | 0 => by rw [Nat.add_zero]; show _ = sm m f + 0; omega
  | n + 1 => by
    show sm (m + n) f + f (m + n) = sm m f + (sm n (fun j => f (m + j)) + f (m + n))
    rw [sm_app m n]; omega
theorem sm_two {f : Nat → Int} : ∀ n, sm (2 * n) f = sm n (fun j => f (2 * j)) + sm n (fun j => f (2 * j + 1))
  | 0 => rfl
  | n + 1 => by
    rw [show 2 * (n + 1) = 2 * n + 1 + 1 by omega]
    show sm (2 * n) f + f (2 * n) + f (2 * n + 1) = (sm n (fun j => f (2 * j)) + f (2 * n)) + (sm n (fun j => f (2 * j + 1)) + f (2 * n + 1))
    rw [sm_two n]; omega
theorem sm_swap {f : Nat → Nat → Int} (m : Nat) : ∀ n, sm n (fun i => sm m (f i)) = sm m (fun j => sm n (fun i => f i j))
  | 0 => by simp only [sm]; rw [sm_zero]
  | n + 1 => by
    show sm n (fun i => sm m (f i)) + sm m (f n) = sm m (fun j => sm n (fun i => f i j) + f n j)
    rw [sm_swap m n, sm_add]
/-- One term alone. -/
theorem sm_single {f : Nat → Int} {i : Nat} : ∀ n, i < n → (∀ j, j < n → j ≠ i → f j = 0) → sm n f = f i
  | 0, h, _ => by omega
  | n + 1, h, k => by
    unfold sm
    by_cases hi : i = n
    · subst hi
      rw [sm_congr i (g := fun _ => 0) fun j hj => k j (by omega) (by omega), sm_zero]; omega
    · rw [sm_single n (by omega) fun j hj hne => k j (by omega) hne, k n (by omega) (by omega)]; omega

/-- What turns below 0 every h terms adds up to 0. -/
theorem sm_alt {q : Int} {f : Nat → Int} {h : Nat} (k : ∀ j, Cg q (f (h + j)) (-(f j))) : ∀ M, Cg q (sm (h * (2 * M)) f) 0
  | 0 => Cg.refl _ _
  | M + 1 => by
    rw [show h * (2 * (M + 1)) = h * (2 * M) + (h + h) by rw [show 2 * (M + 1) = 2 * M + 1 + 1 by omega, Nat.mul_add, Nat.mul_add]; omega, sm_app, sm_app h h]
    have k2 : ∀ m j, Cg q (f (h * (2 * m) + j)) (f j) := by
      intro m
      induction m with
      | zero => intro j; exact Cg.of_eq (congrArg f (by simp))
      | succ m ih =>
        intro j
        rw [show h * (2 * (m + 1)) + j = h + (h + (h * (2 * m) + j)) by rw [show 2 * (m + 1) = 2 * m + 1 + 1 by omega, Nat.mul_add, Nat.mul_add]; omega]
        exact ((k _).trans (k _).neg).trans ((Cg.of_eq (Int.neg_neg _)).trans (ih j))
    have e1 : Cg q (sm h (fun j => f (h * (2 * M) + j))) (sm h f) := sm_cg h fun j _ => k2 M j
    have e2 : Cg q (sm h (fun j => f (h * (2 * M) + (h + j)))) (-(sm h f)) := by
      have := sm_cg (q := q) (f := fun j => f (h * (2 * M) + (h + j))) (g := fun j => (-1) * f j) h fun j _ => (k2 M _).trans ((k j).trans (Cg.of_eq (by omega)))
      rw [sm_mul] at this
      exact this.trans (Cg.of_eq (by omega))
    have := (sm_alt k M).add (e1.add e2)
    exact this.trans (Cg.of_eq (by omega))

/-- A number of the kind 2^v times an odd one. -/
theorem two_odd : ∀ (L d : Nat), 0 < d → d < 2 ^ L → ∃ v o, v < L ∧ d = 2 ^ v * (2 * o + 1)
  | 0, d, h, k => by rw [Nat.pow_zero] at k; omega
  | L + 1, d, h, k => by
    by_cases hd : d % 2 = 1
    · exact ⟨0, d / 2, by omega, by rw [Nat.pow_zero]; omega⟩
    · obtain ⟨v, o, h1, h2⟩ := two_odd L (d / 2) (by omega) (by rw [Nat.pow_succ] at k; omega)
      exact ⟨v + 1, o, by omega, by rw [Nat.pow_succ, Nat.mul_comm _ 2, Nat.mul_assoc, ← h2]; omega⟩

theorem pow_odd {q w : Int} {n : Nat} (hw : Cg q (w ^ n) (-1)) (o : Nat) : Cg q (w ^ (n * (2 * o + 1))) (-1) := by
  rw [Int.pow_mul]
  refine (hw.pow _).trans (Cg.of_eq ?_)
  rw [Int.pow_succ, Int.pow_mul]; simp [Int.one_pow]

/-- Sums of powers of a root of one are 0. -/
theorem sm_root {q w : Int} {L d e : Nat} (hw : Cg q (w ^ (2 ^ L)) (-1)) (h0 : 0 < d) (hd : d < 2 ^ L) : Cg q (sm (2 ^ L) fun k => w ^ (d * (2 * k + e))) 0 := by
  obtain ⟨v, o, h1, h2⟩ := two_odd L d h0 hd
  obtain ⟨m, rfl⟩ : ∃ m, L = v + (m + 1) := ⟨L - v - 1, by omega⟩
  have := sm_alt (q := q) (f := fun k => w ^ (d * (2 * k + e))) (h := 2 ^ m) (fun j => by
    show Cg q (w ^ (d * (2 * (2 ^ m + j) + e))) (-(w ^ (d * (2 * j + e))))
    rw [show d * (2 * (2 ^ m + j) + e) = 2 ^ (v + (m + 1)) * (2 * o + 1) + d * (2 * j + e) by
      rw [show 2 * (2 ^ m + j) + e = 2 * 2 ^ m + (2 * j + e) by omega, Nat.mul_add]
      congr 1
      rw [h2, Nat.pow_add, Nat.pow_succ, Nat.mul_comm (2 ^ m) 2, Nat.mul_assoc, Nat.mul_assoc, Nat.mul_comm (2 * o + 1)], Int.pow_add]
    exact ((pow_odd hw o).mul (Cg.refl _ _)).trans (Cg.of_eq (by omega))) (2 ^ v)
  rw [show 2 ^ m * (2 * 2 ^ v) = 2 ^ (v + (m + 1)) by rw [Nat.pow_add, Nat.pow_succ, Nat.mul_comm 2, ← Nat.mul_assoc, Nat.mul_comm (2 ^ m), Nat.mul_assoc]] at this
  exact this

/-- The values of a polynomial at the odd powers of w; and the polynomial of values. -/
def dft (n : Nat) (w : Int) (a : Nat → Int) (k : Nat) : Int := sm n fun j => a j * w ^ (j * (2 * k + 1))
def idft (n : Nat) (u p : Int) (v : Nat → Int) (i : Nat) : Int := p * (u ^ i * sm n fun k => v k * u ^ (2 * (i * k)))
theorem dft_cg {q w : Int} {n : Nat} {a b : Nat → Int} (h : ∀ j, j < n → Cg q (a j) (b j)) (k : Nat) : Cg q (dft n w a k) (dft n w b k) :=
  sm_cg n fun j hj => (h j hj).mul (Cg.refl _ _)
theorem idft_cg {q u p : Int} {n : Nat} {a b : Nat → Int} (h : ∀ j, j < n → Cg q (a j) (b j)) (i : Nat) : Cg q (idft n u p a i) (idft n u p b i) :=
  (Cg.refl _ _).mul ((Cg.refl _ _).mul (sm_cg n fun j hj => (h j hj).mul (Cg.refl _ _)))

section
variable {q w u p : Int} {L : Nat}
theorem uw_pow (huw : Cg q (u * w) 1) (i : Nat) : Cg q (u ^ i * w ^ i) 1 := by
  rw [← Int.mul_pow]; exact (huw.pow i).trans (Cg.of_eq Int.one_pow)
theorem u_root (huw : Cg q (u * w) 1) {n : Nat} (hw : Cg q (w ^ n) (-1)) : Cg q (u ^ n) (-1) := by
  have h1 := uw_pow huw n
  have h2 := (Cg.refl q (u ^ n)).mul hw
  exact ((Cg.of_eq (by omega)).trans (h2.symm.trans h1).neg)

/-- (u^i w^j)^(2k+1), i and j unlike. -/
theorem sm_uw (hw : Cg q (w ^ (2 ^ L)) (-1)) (huw : Cg q (u * w) 1) {i j : Nat} (hi : i < 2 ^ L) (hj : j < 2 ^ L) (hne : j ≠ i) (e : Nat) : Cg q (sm (2 ^ L) fun k => u ^ (i * (2 * k + e)) * w ^ (j * (2 * k + e))) 0 := by
  rcases Nat.lt_or_gt_of_ne hne with h | h
  · obtain ⟨d, rfl⟩ : ∃ d, i = d + j := ⟨i - j, by omega⟩
    refine (sm_cg _ fun k _ => ?_).trans (sm_root (u_root huw hw) (d := d) (e := e) (by omega) (by omega))
    rw [Nat.add_mul, Int.pow_add, Int.mul_assoc]
    exact ((Cg.refl _ _).mul (uw_pow huw _)).trans (Cg.of_eq (Int.mul_one _))
  · obtain ⟨d, rfl⟩ : ∃ d, j = d + i := ⟨j - i, by omega⟩
    refine (sm_cg _ fun k _ => ?_).trans (sm_root hw (d := d) (e := e) (by omega) (by omega))
    rw [Nat.add_mul, Int.pow_add, Int.mul_comm (w ^ _), ← Int.mul_assoc]
    exact ((uw_pow huw _).mul (Cg.refl _ _)).trans (Cg.of_eq (Int.one_mul _))

theorem idft_dft (hw : Cg q (w ^ (2 ^ L)) (-1)) (huw : Cg q (u * w) 1) (hp : Cg q (((2 ^ L : Nat) : Int) * p) 1) (a : Nat → Int) {i : Nat} (hi : i < 2 ^ L) :
    Cg q (idft (2 ^ L) u p (dft (2 ^ L) w a) i) (a i) := by
  unfold idft dft
  have e : u ^ i * sm (2 ^ L) (fun k => sm (2 ^ L) (fun j => a j * w ^ (j * (2 * k + 1))) * u ^ (2 * (i * k)))
      = sm (2 ^ L) fun j => a j * sm (2 ^ L) fun k => u ^ (i * (2 * k + 1)) * w ^ (j * (2 * k + 1)) := by
    rw [← sm_mul]
    rw [sm_congr (2 ^ L) (g := fun k => sm (2 ^ L) fun j => a j * (u ^ (i * (2 * k + 1)) * w ^ (j * (2 * k + 1)))) (fun k _ => by
      rw [← sm_mulR, ← sm_mul]
      refine sm_congr _ fun j _ => ?_
      rw [show i * (2 * k + 1) = 2 * (i * k) + i by rw [Nat.mul_add, Nat.mul_one, Nat.mul_left_comm], Int.pow_add]
      grind), sm_swap]
    exact sm_congr _ fun j _ => sm_mul _ _
  rw [e]
  have hs : Cg q (sm (2 ^ L) fun j => a j * sm (2 ^ L) fun k => u ^ (i * (2 * k + 1)) * w ^ (j * (2 * k + 1))) (a i * ((2 ^ L : Nat) : Int)) := by
    have := sm_single (f := fun j => if j = i then a i * ((2 ^ L : Nat) : Int) else 0) (i := i) (2 ^ L) hi (fun j _ hne => by simp [hne])
    simp only [if_true] at this
    rw [← this]
    refine sm_cg _ fun j hj => ?_
    by_cases hji : j = i
    · subst hji
      rw [if_pos rfl]
      refine (Cg.refl _ _).mul ?_
      rw [← sm_one]
      exact sm_cg _ fun k _ => uw_pow huw _
    · rw [if_neg hji]
      exact ((Cg.refl _ _).mul (sm_uw hw huw hi hj hji 1)).trans (Cg.of_eq (Int.mul_zero _))
  refine ((Cg.refl q p).mul hs).trans ?_
  refine (Cg.of_eq (show p * (a i * ((2 ^ L : Nat) : Int)) = a i * (((2 ^ L : Nat) : Int) * p) by grind)).trans (((Cg.refl q (a i)).mul hp).trans (Cg.of_eq (Int.mul_one _)))

theorem dft_idft (hw : Cg q (w ^ (2 ^ L)) (-1)) (huw : Cg q (u * w) 1) (hp : Cg q (((2 ^ L : Nat) : Int) * p) 1) (v : Nat → Int) {k : Nat} (hk : k < 2 ^ L) :
    Cg q (dft (2 ^ L) w (idft (2 ^ L) u p v) k) (v k) := by
  unfold idft dft
  have e : sm (2 ^ L) (fun j => p * (u ^ j * sm (2 ^ L) fun i => v i * u ^ (2 * (j * i))) * w ^ (j * (2 * k + 1)))
      = p * sm (2 ^ L) fun i => v i * sm (2 ^ L) fun j => u ^ (j * (2 * i + 1)) * w ^ (j * (2 * k + 1)) := by
    rw [sm_congr (2 ^ L) (g := fun j => p * sm (2 ^ L) fun i => v i * (u ^ (j * (2 * i + 1)) * w ^ (j * (2 * k + 1)))) (fun j _ => by
      rw [Int.mul_assoc]
      congr 1
      rw [← sm_mul, ← sm_mulR]
      refine sm_congr _ fun i _ => ?_
      rw [show j * (2 * i + 1) = 2 * (j * i) + j by rw [Nat.mul_add, Nat.mul_one, Nat.mul_left_comm], Int.pow_add]
      grind), sm_mul, sm_swap]
    exact congrArg _ (sm_congr _ fun j _ => sm_mul _ _)
  rw [e]
  have hs : Cg q (sm (2 ^ L) fun i => v i * sm (2 ^ L) fun j => u ^ (j * (2 * i + 1)) * w ^ (j * (2 * k + 1))) (v k * ((2 ^ L : Nat) : Int)) := by
    have := sm_single (f := fun j => if j = k then v k * ((2 ^ L : Nat) : Int) else 0) (i := k) (2 ^ L) hk (fun j _ hne => by simp [hne])
    simp only [if_true] at this
    rw [← this]
    refine sm_cg _ fun i hi => ?_
    by_cases hik : i = k
    · subst hik
      rw [if_pos rfl]
      refine (Cg.refl _ _).mul ?_
      rw [← sm_one]
      exact sm_cg _ fun j _ => uw_pow huw _
    · rw [if_neg hik]
      refine ((Cg.refl _ _).mul ?_).trans (Cg.of_eq (Int.mul_zero _))
      rcases Nat.lt_or_gt_of_ne hik with h | h
      · obtain ⟨d, rfl⟩ : ∃ d, k = d + i := ⟨k - i, by omega⟩
        refine (sm_cg _ fun j _ => ?_).trans (sm_root hw (d := d) (e := 0) (by omega) (by omega))
        rw [show j * (2 * (d + i) + 1) = d * (2 * j + 0) + j * (2 * i + 1) by grind, Int.pow_add, Int.mul_comm (w ^ _), ← Int.mul_assoc]
        exact ((uw_pow huw _).mul (Cg.refl _ _)).trans (Cg.of_eq (Int.one_mul _))
      · obtain ⟨d, rfl⟩ : ∃ d, i = d + k := ⟨i - k, by omega⟩
        refine (sm_cg _ fun j _ => ?_).trans (sm_root (u_root huw hw) (d := d) (e := 0) (by omega) (by omega))
        rw [show j * (2 * (d + k) + 1) = d * (2 * j + 0) + j * (2 * k + 1) by grind, Int.pow_add, Int.mul_assoc]
        exact ((Cg.refl _ _).mul (uw_pow huw _)).trans (Cg.of_eq (Int.mul_one _))
  refine ((Cg.refl q p).mul hs).trans ?_
  refine (Cg.of_eq (show p * (v k * ((2 ^ L : Nat) : Int)) = v k * (((2 ^ L : Nat) : Int) * p) by grind)).trans (((Cg.refl q (v k)).mul hp).trans (Cg.of_eq (Int.mul_one _)))
end

/-! ### The transform in steps -/

/-- The last L bits turned round. -/
def rev : Nat → Nat → Nat
  | 0, _ => 0
  | L + 1, i => rev L (i / 2) + i % 2 * 2 ^ L
theorem rev_lt : ∀ L i, rev L i < 2 ^ L
  | 0, i => by unfold rev; decide
  | L + 1, i => by
    unfold rev
    have h1 := rev_lt L (i / 2)
    have h2 : i % 2 * 2 ^ L ≤ 1 * 2 ^ L := Nat.mul_le_mul_right _ (by omega)
    rw [Nat.pow_succ]; omega
theorem rev_even (L c : Nat) : rev (L + 1) (2 * c) = rev L c := by
  show rev L (2 * c / 2) + 2 * c % 2 * 2 ^ L = rev L c
  rw [show 2 * c / 2 = c by omega, show 2 * c % 2 = 0 by omega]; omega
theorem rev_odd (L c : Nat) : rev (L + 1) (2 * c + 1) = rev L c + 2 ^ L := by
  show rev L ((2 * c + 1) / 2) + (2 * c + 1) % 2 * 2 ^ L = rev L c + 2 ^ L
  rw [show (2 * c + 1) / 2 = c by omega, show (2 * c + 1) % 2 = 1 by omega]; omega
theorem rev_top (b : Nat) (hb : b ≤ 1) : ∀ L i, i < 2 ^ L → rev (L + 1) (b * 2 ^ L + i) = 2 * rev L i + b
  | 0, i, h => by
    obtain rfl : i = 0 := by rw [Nat.pow_zero] at h; omega
    show 0 + (b * 2 ^ 0 + 0) % 2 * 2 ^ 0 = 2 * 0 + b
    rw [Nat.pow_zero]; omega
  | L + 1, i, h => by
    have ih := rev_top b hb L (i / 2) (by rw [Nat.pow_succ] at h; omega)
    show rev (L + 1) ((b * 2 ^ (L + 1) + i) / 2) + (b * 2 ^ (L + 1) + i) % 2 * 2 ^ (L + 1) = 2 * (rev L (i / 2) + i % 2 * 2 ^ L) + b
    have e : b * 2 ^ (L + 1) = 2 * (b * 2 ^ L) := by rw [Nat.pow_succ, Nat.mul_left_comm, Nat.mul_comm (2 ^ L), Nat.mul_left_comm]; grind
    rw [show (b * 2 ^ (L + 1) + i) / 2 = b * 2 ^ L + i / 2 by omega, show (b * 2 ^ (L + 1) + i) % 2 = i % 2 by omega, ih, Nat.pow_succ, Nat.mul_add]
    grind
theorem rev_rev : ∀ L i, i < 2 ^ L → rev L (rev L i) = i
  | 0, i, h => by
    rw [Nat.pow_zero] at h
    show 0 = i
    omega
  | L + 1, i, h => by
    show rev (L + 1) (rev L (i / 2) + i % 2 * 2 ^ L) = i
    rw [Nat.add_comm (rev L (i / 2)), rev_top (i % 2) (by omega) L _ (rev_lt _ _), rev_rev L (i / 2) (by rw [Nat.pow_succ] at h; omega)]
    omega

theorem step_lo (w : Int) (a : Nat → Int) (m t r k : Nat) :
    sm m (fun j => a (r + j * (2 * t)) * w ^ (2 * (2 * t) * (k * j))) + sm m (fun j => a (r + t + j * (2 * t)) * w ^ (2 * (2 * t) * (k * j))) * w ^ (k * (2 * t))
      = sm (2 * m) fun j => a (r + j * t) * w ^ (2 * t * (k * j)) := by
  rw [sm_two, ← sm_mulR]
  congr 1
  · refine sm_congr _ fun j _ => ?_
    rw [show 2 * j * t = j * (2 * t) by grind, show 2 * t * (k * (2 * j)) = 2 * (2 * t) * (k * j) by grind]
  · refine sm_congr _ fun j _ => ?_
    rw [show r + (2 * j + 1) * t = r + t + j * (2 * t) by grind, show 2 * t * (k * (2 * j + 1)) = 2 * (2 * t) * (k * j) + k * (2 * t) by grind, Int.pow_add, Int.mul_assoc]

theorem step_hi {q w : Int} (a : Nat → Int) (m t r k : Nat) (hw : Cg q (w ^ (2 * t * m)) (-1)) :
    Cg q (sm m (fun j => a (r + j * (2 * t)) * w ^ (2 * (2 * t) * (k * j))) - sm m (fun j => a (r + t + j * (2 * t)) * w ^ (2 * (2 * t) * (k * j))) * w ^ (k * (2 * t)))
      (sm (2 * m) fun j => a (r + j * t) * w ^ (2 * t * ((k + m) * j))) := by
  rw [sm_two, ← sm_mulR, Int.sub_eq_add_neg]
  refine Cg.add ?_ ?_
  · refine sm_cg _ fun j _ => ?_
    rw [show 2 * j * t = j * (2 * t) by grind, show 2 * t * ((k + m) * (2 * j)) = 2 * (2 * t) * (k * j) + 2 * t * m * (2 * j) by grind, Int.pow_add]
    refine (Cg.refl _ _).mul ((Cg.of_eq (Int.mul_one _).symm).trans ((Cg.refl _ _).mul ?_))
    rw [Int.pow_mul]
    refine Cg.symm ((hw.pow _).trans (Cg.of_eq ?_))
    rw [Int.pow_mul]; simp [Int.one_pow]
  · rw [show ∀ x : Int, -x = (-1) * x by intro x; omega, ← sm_mul]
    refine sm_cg _ fun j _ => ?_
    rw [show r + (2 * j + 1) * t = r + t + j * (2 * t) by grind, show 2 * t * ((k + m) * (2 * j + 1)) = 2 * (2 * t) * (k * j) + k * (2 * t) + 2 * t * m * (2 * j + 1) by grind, Int.pow_add, Int.pow_add]
    refine (Cg.of_eq (show (-1) * (a (r + t + j * (2 * t)) * w ^ (2 * (2 * t) * (k * j)) * w ^ (k * (2 * t))) = a (r + t + j * (2 * t)) * (w ^ (2 * (2 * t) * (k * j)) * w ^ (k * (2 * t)) * (-1)) by grind)).trans ?_
    exact (Cg.refl _ _).mul ((Cg.refl _ _).mul (pow_odd hw j).symm)

/-- How things stand after s steps. -/
def Std (q w : Int) (L : Nat) (a : Nat → Int) (s : Nat) (A : Nat → Int) : Prop :=
  ∀ c k, c < 2 ^ (L - s) → k < 2 ^ s → Cg q (A (c * 2 ^ s + k)) (sm (2 ^ s) fun j => a (rev (L - s) c + j * 2 ^ (L - s)) * w ^ (2 * 2 ^ (L - s) * (k * j)))
theorem std_zero {q w : Int} {L : Nat} {a A : Nat → Int} (h : ∀ c, c < 2 ^ L → A c = a (rev L c)) : Std q w L a 0 A := fun c k hc hk => by
  obtain rfl : k = 0 := by rw [Nat.pow_zero] at hk; omega
  rw [Nat.sub_zero] at hc ⊢
  refine Cg.of_eq ?_
  rw [show c * 2 ^ 0 + 0 = c by simp, h c hc]
  show _ = 0 + a (rev L c + 0 * 2 ^ L) * w ^ (2 * 2 ^ L * (0 * 0))
  simp
theorem std_last {q w : Int} {L : Nat} {a A : Nat → Int} (h : Std q w L a L A) {k : Nat} (hk : k < 2 ^ L) : Cg q (A k) (sm (2 ^ L) fun j => a j * w ^ (2 * (k * j))) := by
  have := h 0 k (by rw [Nat.sub_self]; decide) hk
  rw [Nat.sub_self] at this
  refine (Cg.of_eq (by congr 1; omega)).trans (this.trans (Cg.of_eq (sm_congr _ fun j _ => ?_)))
  rw [show rev 0 0 + j * 2 ^ 0 = j by unfold rev; omega, show 2 * 2 ^ 0 * (k * j) = 2 * (k * j) by rw [Nat.pow_zero, Nat.mul_one]]

theorem std_congr {q w : Int} {L s : Nat} {a A B : Nat → Int} (hs : s ≤ L) (h : Std q w L a s A) (e : ∀ p, p < 2 ^ L → B p = A p) : Std q w L a s B := fun c k hc hk => by
  have hp : c * 2 ^ s + k < 2 ^ L := by
    have h1 : (c + 1) * 2 ^ s ≤ 2 ^ (L - s) * 2 ^ s := Nat.mul_le_mul_right _ hc
    rw [← Nat.pow_add, show L - s + s = L by omega, Nat.succ_mul] at h1
    omega
  rw [e _ hp]; exact h c k hc hk
theorem std_step {q w : Int} {L s : Nat} {a A B : Nat → Int} (hw : Cg q (w ^ (2 ^ L)) (-1)) (hs : s < L) (h : Std q w L a s A)
    (lo : ∀ c k, c * (2 * 2 ^ s) + k < 2 ^ L → k < 2 ^ s → Cg q (B (c * (2 * 2 ^ s) + k)) (A (c * (2 * 2 ^ s) + k) + A (c * (2 * 2 ^ s) + k + 2 ^ s) * w ^ (k * 2 ^ (L - s))))
    (hi : ∀ c k, c * (2 * 2 ^ s) + k < 2 ^ L → k < 2 ^ s → Cg q (B (c * (2 * 2 ^ s) + k + 2 ^ s)) (A (c * (2 * 2 ^ s) + k) - A (c * (2 * 2 ^ s) + k + 2 ^ s) * w ^ (k * 2 ^ (L - s)))) : Std q w L a (s + 1) B := by
  obtain ⟨M, rfl⟩ : ∃ M, L = s + (M + 1) := ⟨L - s - 1, by omega⟩
  intro c k hc hk
  rw [show s + (M + 1) - (s + 1) = M by omega] at hc ⊢
  rw [show s + (M + 1) - s = M + 1 by omega] at lo hi
  unfold Std at h
  rw [show s + (M + 1) - s = M + 1 by omega] at h
  have hL : 2 ^ (s + (M + 1)) = 2 ^ M * (2 * 2 ^ s) := by rw [Nat.pow_add, Nat.pow_succ]; grind
  have hL2 : 2 ^ (s + (M + 1)) = 2 * 2 ^ M * 2 ^ s := by rw [hL]; grind
  have hc2 : c * (2 * 2 ^ s) + 2 * 2 ^ s ≤ 2 ^ (s + (M + 1)) := by
    rw [hL, ← Nat.succ_mul]; exact Nat.mul_le_mul_right _ hc
  rw [hL2] at hw
  have hps : 2 ^ (s + 1) = 2 * 2 ^ s := by rw [Nat.pow_succ, Nat.mul_comm]
  have hpM : 2 ^ (M + 1) = 2 * 2 ^ M := by rw [Nat.pow_succ, Nat.mul_comm]
  rw [hps] at hk ⊢
  have E : ∀ k, k < 2 ^ s → Cg q (A (c * (2 * 2 ^ s) + k)) (sm (2 ^ s) fun j => a (rev M c + j * (2 * 2 ^ M)) * w ^ (2 * (2 * 2 ^ M) * (k * j))) := fun k hk => by
    have := h (2 * c) k (by rw [hpM]; omega) hk
    rw [rev_even, hpM, show 2 * c * 2 ^ s = c * (2 * 2 ^ s) by grind] at this
    exact this
  have O : ∀ k, k < 2 ^ s → Cg q (A (c * (2 * 2 ^ s) + k + 2 ^ s)) (sm (2 ^ s) fun j => a (rev M c + 2 ^ M + j * (2 * 2 ^ M)) * w ^ (2 * (2 * 2 ^ M) * (k * j))) := fun k hk => by
    have := h (2 * c + 1) k (by rw [hpM]; omega) hk
    rw [rev_odd, hpM, show (2 * c + 1) * 2 ^ s + k = c * (2 * 2 ^ s) + k + 2 ^ s by grind] at this
    exact this
  rw [hpM] at lo hi
  by_cases hkm : k < 2 ^ s
  · refine (lo c k (by omega) hkm).trans ?_
    exact ((E k hkm).add ((O k hkm).mul (Cg.refl _ _))).trans (Cg.of_eq (step_lo w a (2 ^ s) (2 ^ M) (rev M c) k))
  · obtain ⟨k', rfl⟩ : ∃ k', k = k' + 2 ^ s := ⟨k - 2 ^ s, by omega⟩
    have hk' : k' < 2 ^ s := by omega
    rw [← Nat.add_assoc]
    refine (hi c k' (by omega) hk').trans ?_
    exact ((E k' hk').sub ((O k' hk').mul (Cg.refl _ _))).trans (step_hi a (2 ^ s) (2 ^ M) (rev M c) k' hw)
end Go.Mth

/- Go's math/bits: ones counted, words turned round. No condition. -/
namespace Go.Proofs.YtbhhagdnbkkjpaaDoor
set_option linter.unusedVariables false
set_option maxRecDepth 8000
open Go Go.Den Go.RowKit Go.Mth

def rstep (s m x : Nat) : Nat := (x / 2 ^ s &&& m) ||| ((x &&& m) * 2 ^ s % 18446744073709551616)
theorem rstep_lt {s m x : Nat} (hm : m < 18446744073709551616) : rstep s m x < 18446744073709551616 :=
  Nat.or_lt_two_pow (n := 64) (Nat.lt_of_le_of_lt Nat.and_le_right hm) (Nat.mod_lt _ (by decide))
def rv32 (x : Nat) : Nat := (x / 2 ^ 32) ||| (x * 2 ^ 32 % 18446744073709551616)
def rv64 (x : Nat) : Nat := rv32 (rstep 16 281470681808895 (rstep 8 71777214294589695 (rstep 4 1085102592571150095 (rstep 2 3689348814741910323 (rstep 1 6148914691236517205 x)))))
theorem rv64_lt (x : Nat) : rv64 x < 18446744073709551616 := by
  unfold rv64 rv32
  exact Nat.or_lt_two_pow (n := 64) (Nat.lt_of_le_of_lt (Nat.div_le_self _ _) (rstep_lt (by decide))) (Nat.mod_lt _ (by decide))

theorem rstep_b1 {s m x : Nat} (hm : m < 18446744073709551616) : (x / 2 ^ s &&& m) < 18446744073709551616 := Nat.lt_of_le_of_lt Nat.and_le_right hm
theorem rstep_b2 {s m x : Nat} : (x &&& m) * 2 ^ s % 18446744073709551616 < 18446744073709551616 := Nat.mod_lt _ (by decide)

/-- Moved down, a word turned round is the number turned round in its last bits. -/
def revOk (L : Nat) : Bool := (List.range (2 ^ L)).all fun i => rv64 i / 2 ^ (64 - L) == rev L i
theorem revOk_all : revOk 1 && revOk 2 && revOk 3 && revOk 4 && revOk 5 && revOk 6 && revOk 7 && revOk 8 && revOk 9 = true := by decide +kernel
theorem rv64_rev {L i : Nat} (h1 : 1 ≤ L) (h2 : L ≤ 9) (hi : i < 2 ^ L) : rv64 i / 2 ^ (64 - L) = rev L i := by
  have hk := revOk_all
  simp only [Bool.and_eq_true] at hk
  have key : revOk L = true := by
    obtain ⟨⟨⟨⟨⟨⟨⟨⟨k1, k2⟩, k3⟩, k4⟩, k5⟩, k6⟩, k7⟩, k8⟩, k9⟩ := hk
    rcases (show L = 1 ∨ L = 2 ∨ L = 3 ∨ L = 4 ∨ L = 5 ∨ L = 6 ∨ L = 7 ∨ L = 8 ∨ L = 9 by omega) with rfl | rfl | rfl | rfl | rfl | rfl | rfl | rfl | rfl <;> assumption
  have := List.all_eq_true.1 key i (List.mem_range.2 hi)
  exact eq_of_beq this

def ocw (x y : Nat) : Nat := (x + y) % 18446744073709551616
def oc1 (x : Nat) : Nat := ocw (x / 2 ^ 1 &&& 6148914691236517205) (x &&& 6148914691236517205)
def oc2 (x : Nat) : Nat := ocw (x / 2 ^ 2 &&& 3689348814741910323) (x &&& 3689348814741910323)
def oc3 (x : Nat) : Nat := ocw (x / 2 ^ 4) x &&& 1085102592571150095
def oc4 (s x : Nat) : Nat := ocw x (x / 2 ^ s)
def oc (x : Nat) : Nat := oc4 32 (oc4 16 (oc4 8 (oc3 (oc2 (oc1 x)))))
theorem ocw_lt (x y : Nat) : ocw x y < 18446744073709551616 := Nat.mod_lt _ (by decide)
theorem and_lt {a m : Nat} (hm : m < 18446744073709551616) : (a &&& m) < 18446744073709551616 := Nat.lt_of_le_of_lt Nat.and_le_right hm

theorem Tryd_ent20 : Ent Tryd.prog 20 := ent_of Tryd.func20 (by kernel_rfl) rfl
set_option maxHeartbeats 1000000 in
theorem ones_spec (x : Nat) (h : Hp) (hx : x < 18446744073709551616) (hoc : oc x < 9223372036854775808) :
    CallsH Tryd.prog 20 [U x] h fun v h' => v = N (oc x &&& 127) ∧ h = h' := by
  unfold oc at hoc ⊢
  have a1 := and_lt (a := x / 2 ^ 1) (m := 6148914691236517205) (by decide)
  have a2 := and_lt (a := x) (m := 6148914691236517205) (by decide)
  (apply enter Tryd.func20 rfl Tryd.ntmps20 rfl)
  refine runJ ?_
  (apply s_addUw; (first | exact isK_c | exact isK_t rfl); (first | exact isK_c | exact isK_t rfl); exact rfl)
  refine runJ ?_
  refine o_know (t := 13) (u := U (oc1 x &&& 3689348814741910323)) rfl rfl (o_know (t := 11) (u := U (oc1 x / 2 ^ 2 &&& 3689348814741910323)) rfl rfl ?_)
  have b0 : oc1 x < 18446744073709551616 := ocw_lt _ _
  generalize oc1 x = y at *
  (apply s_addUw; (first | exact isK_c | exact isK_t rfl); (first | exact isK_c | exact isK_t rfl); exact rfl)
  refine runJ ?_
  refine o_know (t := 17) (u := U (oc2 y)) rfl rfl (o_know (t := 16) (u := U (oc2 y / 2 ^ 4)) rfl rfl ?_)
  have c0 : oc2 y < 18446744073709551616 := ocw_lt _ _
  generalize oc2 y = z at *
  (apply s_addUw; (first | exact isK_c | exact isK_t rfl); (first | exact isK_c | exact isK_t rfl); exact rfl)
  refine runJ ?_
  refine o_know (t := 20) (u := U (oc3 z)) rfl rfl (o_know (t := 22) (u := U (oc3 z / 2 ^ 8)) rfl rfl ?_)
  have d0 : oc3 z < 18446744073709551616 := and_lt (by decide)
  generalize oc3 z = a at *
  (apply s_addUw; (first | exact isK_c | exact isK_t rfl); (first | exact isK_c | exact isK_t rfl); exact rfl)
  refine runJ ?_
  refine o_know (t := 24) (u := U (oc4 8 a)) rfl rfl (o_know (t := 26) (u := U (oc4 8 a / 2 ^ 16)) rfl rfl ?_)
  have e0 : oc4 8 a < 18446744073709551616 := ocw_lt _ _
  generalize oc4 8 a = b at *
  (apply s_addUw; (first | exact isK_c | exact isK_t rfl); (first | exact isK_c | exact isK_t rfl); exact rfl)
  refine runJ ?_
  refine o_know (t := 28) (u := U (oc4 16 b)) rfl rfl (o_know (t := 30) (u := U (oc4 16 b / 2 ^ 32)) rfl rfl ?_)
  have f0 : oc4 16 b < 18446744073709551616 := ocw_lt _ _
  generalize oc4 16 b = c at *
  (apply s_addUw; (first | exact isK_c | exact isK_t rfl); (first | exact isK_c | exact isK_t rfl); exact rfl)
  refine runJ ?_
  refine o_know (t := 33) (u := N (oc4 32 c)) rfl rfl ?_
  apply s_andI (isK_t rfl) isK_c rfl ⟨hoc, by decide⟩
  refine runJ ?_
  exact fin1 rfl rfl ⟨rfl, rfl⟩

theorem oc_pow : ∀ L, L < 14 → oc (2 ^ L) < 9223372036854775808 ∧ oc (2 ^ L) &&& 127 = 1 := by decide +kernel

theorem blen_pow : ∀ L, L < 14 → Lib.bitLen (2 ^ L) = L + 1 := by decide +kernel
end Go.Proofs.YtbhhagdnbkkjpaaDoor
