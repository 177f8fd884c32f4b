/- The tape: an error. No condition. -/
import Derived.Test.YtlaijoebocfelaaTapA
namespace Go.Den
open Go Go.RowKit
section
variable {P : Program} {n : Nat} {Q : Post} {l : Fr} {h : Hp} {ops : List Oper} {Ch : Hp → Prop} {E : Nat → Bool} {i : Nat}
variable {d : Nat} {t yt : TypeId} {x y : Operand} {a b : Nat}
theorem bits_and_i64_nat (a b : Nat) (ha : a < 9223372036854775808) (hb : b < 9223372036854775808) :
    bits .and .i64 (a : Int) (b : Int) = ((a &&& b : Nat) : Int) := by
  have hx : a &&& b < 2 ^ 63 := Nat.and_lt_two_pow _ (by omega)
  have h1 : (BitVec.ofInt 64 (a : Int)).toNat = a := by
    rw [BitVec.ofInt_natCast, BitVec.toNat_ofNat]; exact Nat.mod_eq_of_lt (by omega)
  have h2 : (BitVec.ofInt 64 (b : Int)).toNat = b := by
    rw [BitVec.ofInt_natCast, BitVec.toNat_ofNat]; exact Nat.mod_eq_of_lt (by omega)
  show IntKind.i64.wrap ((BitVec.ofInt 64 (a : Int) &&& BitVec.ofInt 64 (b : Int)).toNat : Int) = _
  rw [BitVec.toNat_and, h1, h2]
  exact wrapI_in _ (by omega)
theorem s_andN (hx : IsK (ev l x) .i64 a) (hy : IsK (ev l y) .i64 b) (hb : Nat.blt d n = true) (hn : a < 9223372036854775808 ∧ b < 9223372036854775808)
    (k : S P n ops Ch E Q (i + 1) ((d, N (a &&& b)) :: l) h) : O P n ops Ch E Q i d (.binOp .and t x y yt) l h :=
  s_bin hx.h hy.h hb (fun w' => by
    show Result.ok (Value.int .i64 (bits .and .i64 (a : Int) b)) w' = _
    rw [bits_and_i64_nat _ _ hn.1 hn.2]) k
end
end Go.Den
namespace Go.Proofs.Ytlaijoebocfelaa
set_option linter.unusedVariables false
open Go Go.Den Go.RowKit Go.Dig

def one1 (x : Nat) : Nat := (x / 2 ^ 1 &&& 6148914691236517205) + (x &&& 6148914691236517205)
def one2 (y : Nat) : Nat := (y / 2 ^ 2 &&& 3689348814741910323) + (y &&& 3689348814741910323)
def one3 (z : Nat) : Nat := z / 2 ^ 4 + z &&& 1085102592571150095
def one4 (a : Nat) : Nat := a + a / 2 ^ 8
def one5 (a : Nat) : Nat := a + a / 2 ^ 16
def one6 (a : Nat) : Nat := a + a / 2 ^ 32
def ones (x : Nat) : Nat := one6 (one5 (one4 (one3 (one2 (one1 x))))) &&& 127

theorem Try_ent19 : Ent Try.prog 19 := ent_of Try.func19 (by kernel_rfl) rfl
theorem ones_spec (x : Nat) (h : Hp) (hx : x < 18446744073709551616) :
    CallsH Try.prog 19 [U x] h fun v' h' => v' = N (ones x) ∧ h = h' := by
  have a1 : x / 2 ^ 1 &&& 6148914691236517205 ≤ 6148914691236517205 := Nat.and_le_right
  have a2 : x &&& 6148914691236517205 ≤ 6148914691236517205 := Nat.and_le_right
  (apply enter Try.func19 rfl Try.ntmps19 rfl)
  refine runH ?_
  have hy : one1 x = (x / 2 ^ 1 &&& 6148914691236517205) + (x &&& 6148914691236517205) := rfl
  rw [← hy]
  unfold ones
  generalize one1 x = y at hy ⊢
  have b1 : y / 2 ^ 2 &&& 3689348814741910323 ≤ 3689348814741910323 := Nat.and_le_right
  have b2 : y &&& 3689348814741910323 ≤ 3689348814741910323 := Nat.and_le_right
  have b3 : (y / 2 ^ 2 &&& 3689348814741910323) + (y &&& 3689348814741910323) ≤ 7378697629483820646 := by omega
  have b4 : ((y / 2 ^ 2 &&& 3689348814741910323) + (y &&& 3689348814741910323)) / 2 ^ 4 + ((y / 2 ^ 2 &&& 3689348814741910323) + (y &&& 3689348814741910323)) &&& 1085102592571150095 ≤ 1085102592571150095 := Nat.and_le_right
  refine runH ?_
  have hz : one3 (one2 y) = ((y / 2 ^ 2 &&& 3689348814741910323) + (y &&& 3689348814741910323)) / 2 ^ 4 + ((y / 2 ^ 2 &&& 3689348814741910323) + (y &&& 3689348814741910323)) &&& 1085102592571150095 := rfl
  rw [← hz] at b4 ⊢
  generalize one3 (one2 y) = z at b4 ⊢
  have e4 : one4 z = z + z / 2 ^ 8 := rfl
  have d4 : one4 z ≤ 1100000000000000000 := by rw [e4]; omega
  refine runH ?_
  rw [← e4]
  have e5 : one5 (one4 z) = one4 z + one4 z / 2 ^ 16 := rfl
  have d5 : one5 (one4 z) ≤ 1200000000000000000 := by rw [e5]; omega
  refine runH ?_
  (apply s_andN; (first | exact isK_c | exact isK_t rfl); (first | exact isK_c | exact isK_t rfl); exact rfl; omega)
  refine runH ?_
  exact fin1 rfl rfl ⟨rfl, rfl⟩

/-- .. of x from lo on, so many: at most w. -/
def onesLe : Nat → Nat → Nat → Bool
  | w, lo, 0 => Nat.ble (ones lo) w
  | w, lo, k + 1 => onesLe w lo k && onesLe w (lo + 2 ^ k) k
theorem onesLe_spec : ∀ (k w lo : Nat), onesLe w lo k = true → ∀ x, lo ≤ x → x < lo + 2 ^ k → ones x ≤ w
  | 0, w, lo, h, x, h1, h2 => by
    have : x = lo := by simp at h2; omega
    subst this
    exact Nat.le_of_ble_eq_true h
  | k + 1, w, lo, h, x, h1, h2 => by
    simp only [onesLe, Bool.and_eq_true] at h
    rw [Nat.pow_succ] at h2
    by_cases hx : x < lo + 2 ^ k
    · exact onesLe_spec k w lo h.1 x h1 hx
    · exact onesLe_spec k w (lo + 2 ^ k) h.2 x (by omega) (by omega)
theorem ones_table : ((List.range 16).all fun w => onesLe (w + 1) (2 ^ w) w) = true := by decide +kernel
theorem ones_le {w x : Nat} (hw : w ≤ 16) (hx : x < 2 ^ w) : ones x ≤ w := by
  induction w with
  | zero => have : x = 0 := by simp at hx; omega
            subst this; decide
  | succ w ih =>
    by_cases h : x < 2 ^ w
    · have := ih (by omega) h; omega
    · have ht := List.all_eq_true.1 ones_table w (by simp; omega)
      exact onesLe_spec w (w + 1) (2 ^ w) ht x (by omega) (by rw [Nat.pow_succ] at hx; omega)

end Go.Proofs.Ytlaijoebocfelaa
