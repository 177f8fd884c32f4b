/- Texts Shelf to Bits of this work, joined: each says in its own head what it proves, and of which condition. -/
import Derived.Test.YtbhhagdnbkkjpaaDoorMPr9
import Derived.Shelf.Small.Bits
import Derived.Shelf.Strconv.Itoa0
import Derived.Shelf.Bits.Mul64
import Derived.Test.YtbhhagdnbkkjpaaDoorProg
import Derived.Lib.Mul64
/- Contracts of Go's library at this dump, laid by the kit's tool in plain words. -/
namespace Go.Proofs
open Go.Shelf
def Tryd.lays134_ren : Go.Shelf.Ren := ⟨fun | 134 => 25 | 129 => 26 | n => n, fun | 53 => 22 | 3 => 3 | 4 => 4 | 46 => 34 | 5 => 5 | 9 => 9 | n => n, fun | n => n⟩
theorem Tryd.lays134 : Go.Proofs.Lays.n134 Tryd.prog Tryd.lays134_ren := {
  mixed := by kernel_rfl
  f129 := Tryd.func26.trans (congrArg some (by kernel_rfl))
  f134 := Tryd.func25.trans (congrArg some (by kernel_rfl))
  t3 := Tryd.underlying3
  a3 := Tryd.isAgg3
  z3 := Tryd.sizeOf3
  v3 := Tryd.zeroValue3
  t4 := Tryd.underlying4
  a4 := Tryd.isAgg4
  z4 := Tryd.sizeOf4
  v4 := Tryd.zeroValue4
  t5 := Tryd.underlying5
  a5 := Tryd.isAgg5
  z5 := Tryd.sizeOf5
  v5 := Tryd.zeroValue5
  t9 := Tryd.underlying9
  a9 := Tryd.isAgg9
  z9 := Tryd.sizeOf9
  v9 := Tryd.zeroValue9
  t46 := Tryd.underlying34
  a46 := Tryd.isAgg34
  z46 := Tryd.sizeOf34
  v46 := Tryd.zeroValue34
  t53 := Tryd.underlying22
  a53 := Tryd.isAgg22
  z53 := Tryd.sizeOf22
  v53 := Tryd.zeroValue22 }
theorem Tryd.bits_LeadingZeros64 (x : Int) (w : World) (h0 : 0 ≤ x) (h1 : x ≤ 18446744073709551615) :
    Calls Tryd.prog 25 #[.int .u64 x] w fun e w' => e = .returned (.int .i64 (64 - (Lib.bitLen x.toNat : Int))) ∧ w' = w := Any.bits_LeadingZeros64 Tryd.lays134 x w h0 h1
def Tryd.lays129_ren : Go.Shelf.Ren := ⟨fun | 129 => 26 | n => n, fun | 53 => 22 | 3 => 3 | 4 => 4 | 46 => 34 | 5 => 5 | 9 => 9 | n => n, fun | n => n⟩
theorem Tryd.lays129 : Go.Proofs.Lays.n129 Tryd.prog Tryd.lays129_ren := {
  mixed := by kernel_rfl
  f129 := Tryd.func26.trans (congrArg some (by kernel_rfl))
  t3 := Tryd.underlying3
  a3 := Tryd.isAgg3
  z3 := Tryd.sizeOf3
  v3 := Tryd.zeroValue3
  t4 := Tryd.underlying4
  a4 := Tryd.isAgg4
  z4 := Tryd.sizeOf4
  v4 := Tryd.zeroValue4
  t5 := Tryd.underlying5
  a5 := Tryd.isAgg5
  z5 := Tryd.sizeOf5
  v5 := Tryd.zeroValue5
  t9 := Tryd.underlying9
  a9 := Tryd.isAgg9
  z9 := Tryd.sizeOf9
  v9 := Tryd.zeroValue9
  t46 := Tryd.underlying34
  a46 := Tryd.isAgg34
  z46 := Tryd.sizeOf34
  v46 := Tryd.zeroValue34
  t53 := Tryd.underlying22
  a53 := Tryd.isAgg22
  z53 := Tryd.sizeOf22
  v53 := Tryd.zeroValue22 }
theorem Tryd.bits_Len64 (x : Int) (w : World) (h0 : 0 ≤ x) (h1 : x ≤ 18446744073709551615) :
    Calls Tryd.prog 26 #[.int .u64 x] w fun e w' => e = .returned (.int .i64 (Lib.bitLen x.toNat)) ∧ w' = w := Any.bits_Len64 Tryd.lays129 x w h0 h1
def Tryd.lays264_ren : Go.Shelf.Ren := ⟨fun | 264 => 22 | n => n, fun | 53 => 22 | 46 => 34 | n => n, fun | n => n⟩
theorem Tryd.lays264 : Go.Proofs.Lays.n264 Tryd.prog Tryd.lays264_ren := {
  mixed := by kernel_rfl
  f264 := Tryd.func22.trans (congrArg some (by kernel_rfl))
  t46 := Tryd.underlying34
  a46 := Tryd.isAgg34
  z46 := Tryd.sizeOf34
  v46 := Tryd.zeroValue34
  t53 := Tryd.underlying22
  a53 := Tryd.isAgg22
  z53 := Tryd.sizeOf22
  v53 := Tryd.zeroValue22 }
open Go.RowKit Go.Lib in
theorem Tryd.bits_Mul64 (x y : Nat) (hx : x < 18446744073709551616) (hy : y < 18446744073709551616) (w : World) :
    Calls Tryd.prog 22 #[.int .u64 x, .int .u64 y] w fun e w' => e = .returned (.tuple #[.int .u64 ((x * y / 18446744073709551616 : Nat) : Int), .int .u64 ((x * y % 18446744073709551616 : Nat) : Int)]) ∧ w' = w := Any.bits_Mul64 Tryd.lays264 x y hx hy w
end Go.Proofs

/- Plain laws on natural numbers: the school method of division by two digits. No condition; no program in sight. -/
namespace Go.Num
set_option linter.unusedVariables false
set_option maxRecDepth 8000

theorem modW (x : Nat) : x % 18446744073709551616 < 18446744073709551616 := Nat.mod_lt _ (by decide)
theorem mulB {q y : Nat} (hq : q ≤ 4294967296 + 1) (hy : y < 4294967296) : q * y < 18446744073709551616 := by
  have : q * y ≤ (4294967296 + 1) * 4294967295 := Nat.mul_le_mul hq (by omega)
  omega

theorem and32 (a : Nat) : a &&& 4294967295 = a % 4294967296 := Nat.and_two_pow_sub_one_eq_mod a 32

/-- What is left of a digit's step, reckoned round the word. -/
theorem rest_wrap {A M d r : Nat} (h : A + d = M + r) (hr : r < 18446744073709551616) :
    ((A % 18446744073709551616 + d) % 18446744073709551616 + (18446744073709551616 - M % 18446744073709551616)) % 18446744073709551616 = r := by omega

/-- One digit's guess is the digit, once the test says no. -/
theorem digit_eq {B y1 y0 u d q r Y : Nat} (hY : y1 * B + y0 = Y) (hy0 : y0 < B) (hq : q * y1 + r = u) (hge : (u * B + d) / Y ≤ q) (hle : q * y0 ≤ B * r + d) (hpos : 0 < Y) : q = (u * B + d) / Y := by
  subst hY
  refine Nat.le_antisymm ?_ hge
  rw [Nat.le_div_iff_mul_le hpos]
  have h1 : q * (y1 * B + y0) = q * y1 * B + q * y0 := by rw [Nat.mul_add, Nat.mul_assoc]
  have h2 : u * B = q * y1 * B + r * B := by rw [← hq, Nat.add_mul]
  have h3 : B * r = r * B := Nat.mul_comm _ _
  omega

/-- .. and once the remainder has a digit too many. -/
theorem digit_eq' {B y1 y0 u d q r Y : Nat} (hY : y1 * B + y0 = Y) (hy0 : y0 < B) (hq : q * y1 + r = u) (hge : (u * B + d) / Y ≤ q) (hr : B ≤ r) (hqB : q ≤ B) (hpos : 0 < Y) : q = (u * B + d) / Y := by
  subst hY
  refine digit_eq rfl hy0 hq hge ?_ hpos
  have h1 : q * y0 ≤ B * r := Nat.mul_le_mul hqB (by omega)
  omega

/-- A guess that the test refuses is too great. -/
theorem digit_gt {B y1 y0 u d q r Y : Nat} (hY : y1 * B + y0 = Y) (hq : q * y1 + r = u) (hlt : B * r + d < q * y0) (hpos : 0 < Y) : (u * B + d) / Y < q := by
  subst hY
  rw [Nat.div_lt_iff_lt_mul hpos]
  have h1 : q * (y1 * B + y0) = q * y1 * B + q * y0 := by rw [Nat.mul_add, Nat.mul_assoc]
  have h2 : u * B = q * y1 * B + r * B := by rw [← hq, Nat.add_mul]
  have h3 : B * r = r * B := Nat.mul_comm _ _
  omega

theorem digit_lt {B y u d : Nat} (hd : d < B) (hu : u < y) : (u * B + d) / y < B := by
  rw [Nat.div_lt_iff_lt_mul (by omega)]
  have h1 : (u + 1) * B ≤ y * B := Nat.mul_le_mul_right _ hu
  rw [Nat.add_mul] at h1
  have : B * y = y * B := Nat.mul_comm _ _
  omega

/-- The first guess is at most one too many beyond a digit. -/
theorem guess_le {B y1 y0 u Y : Nat} (hY : y1 * B + y0 = Y) (hy : B ≤ 2 * y1) (hy0 : y0 < B) (hu : u < Y) (h1 : 0 < y1) : u / y1 ≤ B + 1 := by
  subst hY
  rw [Nat.div_le_iff_le_mul_add_pred h1]
  have : y1 * (B + 1) = y1 * B + y1 := by rw [Nat.mul_add, Nat.mul_one]
  omega
theorem guess_ge {B y1 y0 u d Y : Nat} (hY : y1 * B + y0 = Y) (hd : d < B) (h1 : 0 < y1) : (u * B + d) / Y ≤ u / y1 := by
  subst hY
  have hb : 0 < B := by omega
  have hp : 0 < y1 * B := Nat.mul_pos h1 hb
  have e1 : (u * B + d) / (y1 * B + y0) ≤ (u * B + d) / (y1 * B) := Nat.div_le_div_left (by omega) hp
  have e2 : (u * B + d) / (y1 * B) = u / y1 := by
    rw [Nat.mul_comm y1 B, ← Nat.div_div_eq_div_mul]
    congr 1
    rw [Nat.mul_comm u B, Nat.mul_add_div hb, Nat.div_eq_of_lt hd, Nat.add_zero]
  omega

theorem or_add {a b s : Nat} (h : b < 2 ^ s) : (a * 2 ^ s) ||| b = a * 2 ^ s + b := by
  have := Nat.shiftLeft_add_eq_or_of_lt h a
  rw [Nat.shiftLeft_eq] at this
  exact this.symm

theorem and_mask (a s : Nat) : a &&& (2 ^ s - 1) = a % 2 ^ s := Nat.and_two_pow_sub_one_eq_mod a s

/-- The two digits together, and back from the divisor that was moved up. -/
theorem two_digits {B y u d1 d0 : Nat} (hy : 0 < y) (hB : 0 < B) : ((u * B + d1) * B + d0) / y = (u * B + d1) / y * B + ((u * B + d1) % y * B + d0) / y ∧ ((u * B + d1) * B + d0) % y = ((u * B + d1) % y * B + d0) % y := by
  generalize hN : u * B + d1 = N
  have h := Nat.div_add_mod N y
  have e : N * B + d0 = y * (N / y * B) + (N % y * B + d0) := by
    have h2 : N * B = (y * (N / y) + N % y) * B := by rw [h]
    rw [h2, Nat.add_mul, Nat.mul_assoc, Nat.add_assoc]
  constructor
  · rw [e, Nat.mul_add_div hy]
  · rw [e, Nat.mul_add_mod]

theorem two_end {y u d1 d0 e q1 v q0 r : Nat} (hy : 0 < y) (he : d1 * 4294967296 + d0 = e) (h1 : q1 = (u * 4294967296 + d1) / y) (h2 : v = (u * 4294967296 + d1) % y)
    (h3 : q0 = (v * 4294967296 + d0) / y) (h4 : r = (v * 4294967296 + d0) % y) : (u * 18446744073709551616 + e) / y = q1 * 4294967296 + q0 ∧ (u * 18446744073709551616 + e) % y = r := by
  obtain ⟨t1, t2⟩ := two_digits (y := y) (B := 4294967296) (u := u) (d1 := d1) (d0 := d0) hy (by omega)
  have hN : (u * 4294967296 + d1) * 4294967296 + d0 = u * 18446744073709551616 + e := by
    subst he; rw [Nat.add_mul, Nat.mul_assoc, Nat.add_assoc]
  rw [hN] at t1 t2
  rw [t1, t2, h3, h4, h1, h2]
  exact ⟨rfl, rfl⟩
theorem dm {n y q r : Nat} (h1 : q = n / y) (h2 : r = n % y) : n = q * y + r := by
  rw [h1, h2, Nat.mul_comm]; exact (Nat.div_add_mod n y).symm

theorem shift_div {N y s : Nat} (hy : 0 < y) : (N * 2 ^ s) / (y * 2 ^ s) = N / y ∧ (N * 2 ^ s) % (y * 2 ^ s) / 2 ^ s = N % y := by
  have hp : 0 < 2 ^ s := Nat.pow_pos (by omega)
  constructor
  · exact Nat.mul_div_mul_right _ _ hp
  · rw [Nat.mul_mod_mul_right, Nat.mul_div_cancel _ hp]

/-- lo moved up by s: what falls out above, and what stays. -/
theorem shift_parts {hi lo s : Nat} (hs : s ≤ 64) (hlo : lo < 18446744073709551616) :
    (hi * 18446744073709551616 + lo) * 2 ^ s = (hi * 2 ^ s + lo / 2 ^ (64 - s)) * 18446744073709551616 + lo * 2 ^ s % 18446744073709551616 := by
  have e64 : (18446744073709551616 : Nat) = 2 ^ (64 - s) * 2 ^ s := by rw [← Nat.pow_add, show 64 - s + s = 64 by omega]
  have hp : 0 < 2 ^ (64 - s) := Nat.pow_pos (by omega)
  have h1 : lo * 2 ^ s % 18446744073709551616 = lo % 2 ^ (64 - s) * 2 ^ s := by
    rw [e64, Nat.mul_mod_mul_right]
  have h2 := Nat.div_add_mod lo (2 ^ (64 - s))
  rw [h1, Nat.add_mul, Nat.add_mul]
  have h3 : lo * 2 ^ s = lo / 2 ^ (64 - s) * 18446744073709551616 + lo % 2 ^ (64 - s) * 2 ^ s := by
    rw [e64]
    conv => lhs; rw [← h2]
    rw [Nat.add_mul]
    congr 1
    rw [Nat.mul_comm (2 ^ (64 - s)), Nat.mul_assoc]
  have h4 : hi * 18446744073709551616 * 2 ^ s = hi * 2 ^ s * 18446744073709551616 := by
    rw [Nat.mul_assoc, Nat.mul_comm 18446744073709551616, ← Nat.mul_assoc]
  omega
end Go.Num

/- Go's math/bits as contracts of the own calculus: Mul64, LeadingZeros64, Add64, and Div64 walked. No condition. -/
namespace Go.Proofs.YtbhhagdnbkkjpaaDoor
set_option linter.unusedVariables false
set_option maxRecDepth 8000
open Go Go.Den Go.RowKit

theorem mixed : Tryd.prog.follows .mixedOrders = true := by kernel_rfl

theorem callsH_same {P : Program} {f : FuncId} {args : List Value} {h : Hp} {u : Value} (c : ∀ w, Calls P f args.toArray w fun e w' => e = .returned u ∧ w' = w) : CallsH P f args h fun v h' => v = u ∧ h = h' :=
  fun w hw => (c w).mono fun _ _ ⟨he, hw'⟩ => ⟨u, he, ⟨rfl, by rw [hw', hw]⟩, by rw [hw']; exact Oth.refl w⟩

theorem Tryd_ent22 : Ent Tryd.prog 22 := ent_of Tryd.func22 (by kernel_rfl) rfl
theorem mul64_spec (x y : Nat) (h : Hp) (hx : x < 18446744073709551616) (hy : y < 18446744073709551616) :
    CallsH Tryd.prog 22 [U x, U y] h fun v h' => v = .tuple [U (x * y / 18446744073709551616), U (x * y % 18446744073709551616)].toArray ∧ h = h' :=
  callsH_same fun w => Tryd.bits_Mul64 x y hx hy w

theorem Tryd_ent25 : Ent Tryd.prog 25 := ent_of Tryd.func25 (by kernel_rfl) rfl
theorem lz64_spec (x : Nat) (h : Hp) (hx : x < 18446744073709551616) :
    CallsH Tryd.prog 25 [U x] h fun v h' => v = I (64 - (Lib.bitLen x : Int)) ∧ h = h' :=
  callsH_same fun w => Tryd.bits_LeadingZeros64 x w (by omega) (by omega)

theorem bitLen_one : Lib.bitLen 1 = 1 := by decide +kernel
theorem bitLen_spec : ∀ (k x : Nat), x < 2 ^ k → k ≤ 64 → x ≠ 0 → 1 ≤ Lib.bitLen x ∧ Lib.bitLen x ≤ 64 ∧ 2 ^ (Lib.bitLen x - 1) ≤ x ∧ x < 2 ^ Lib.bitLen x
  | 0, x, h, _, h0 => by simp at h; omega
  | k + 1, x, h, hk, h0 => by
    have h64 : x < 2 ^ 64 := Nat.lt_of_lt_of_le h (Nat.pow_le_pow_right (by omega) hk)
    have e := Lib.bitLen_half x h0 h64
    by_cases h1 : x = 1
    · subst h1; rw [bitLen_one]; decide
    · have hx2 : x / 2 < 2 ^ k := by rw [Nat.pow_succ] at h; omega
      obtain ⟨g1, g2, g3, g4⟩ := bitLen_spec k (x / 2) hx2 (by omega) (by omega)
      have hle := Lib.bitLen_le x 64 (by omega) h64
      rw [e] at hle ⊢
      refine ⟨by omega, hle, ?_, ?_⟩
      · rw [show 1 + Lib.bitLen (x / 2) - 1 = (Lib.bitLen (x / 2) - 1) + 1 by omega, Nat.pow_succ]; omega
      · rw [show 1 + Lib.bitLen (x / 2) = Lib.bitLen (x / 2) + 1 by omega, Nat.pow_succ]; omega

/-- Moved up by its leading noughts a number fills the word. -/
theorem lz_fills (y : Nat) (h0 : y ≠ 0) (h : y < 18446744073709551616) : ∃ s : Nat, 64 - (Lib.bitLen y : Int) = (s : Int) ∧ s < 64 ∧ 9223372036854775808 ≤ y * 2 ^ s ∧ y * 2 ^ s < 18446744073709551616 := by
  obtain ⟨g1, g2, g3, g4⟩ := bitLen_spec 64 y h (by omega) h0
  refine ⟨64 - Lib.bitLen y, by omega, by omega, ?_, ?_⟩
  · have : 2 ^ (Lib.bitLen y - 1) * 2 ^ (64 - Lib.bitLen y) ≤ y * 2 ^ (64 - Lib.bitLen y) := Nat.mul_le_mul_right _ g3
    rw [← Nat.pow_add, show Lib.bitLen y - 1 + (64 - Lib.bitLen y) = 63 by omega] at this
    exact this
  · have : y * 2 ^ (64 - Lib.bitLen y) < 2 ^ Lib.bitLen y * 2 ^ (64 - Lib.bitLen y) := Nat.mul_lt_mul_of_pos_right g4 (Nat.pow_pos (by omega))
    rw [← Nat.pow_add, show Lib.bitLen y + (64 - Lib.bitLen y) = 64 by omega] at this
    exact this

theorem Tryd_ent23 : Ent Tryd.prog 23 := ent_of Tryd.func23 (by kernel_rfl) rfl
set_option maxHeartbeats 1000000 in
theorem div64_spec (hi lo y : Nat) (h : Hp) (hhi : hi < y) (hlo : lo < 18446744073709551616) (hy : y < 18446744073709551616) :
    CallsH Tryd.prog 23 [U hi, U lo, U y] h fun v h' => v = .tuple [U ((hi * 18446744073709551616 + lo) / y), U ((hi * 18446744073709551616 + lo) % y)].toArray ∧ h = h' := by
  (apply enter Tryd.func23 rfl Tryd.ntmps23 rfl)
  refine run ?_
  (apply w_condF; exact rfl; exact rfl; exact (by omega))
  refine run ?_
  (apply w_condF; exact rfl; exact rfl; exact (by omega))
  refine run ?_
  (apply w_condD; exact rfl; exact rfl) <;> intro hz
  · refine run ?_
    exact fin2 rfl rfl rfl ⟨by rw [hz]; simp, rfl⟩
  · refine run ?_
    obtain ⟨s, hs, hs64, hlo63, hhi64⟩ := lz_fills y (by omega) hy
    apply (s_call Tryd_ent25 rfl rfl rfl)
    refine (lz64_spec y h hy).mono ?_
    rintro _ _ ⟨rfl, rfl⟩
    refine ⟨trivial, ?_⟩
    rw [hs]
    have hhis : hi * 2 ^ s < 18446744073709551616 := Nat.lt_of_le_of_lt (Nat.mul_le_mul_right _ (Nat.le_of_lt hhi)) hhi64
    have hpow : 0 < 2 ^ s := Nat.pow_pos (by omega)
    have hlos : lo / 2 ^ (64 - s) < 2 ^ s := by
      rw [Nat.div_lt_iff_lt_mul (Nat.pow_pos (by omega)), ← Nat.pow_add, show s + (64 - s) = 64 by omega]; exact hlo
    have hlow : lo / 2 ^ (64 - s) < 18446744073709551616 := Nat.lt_of_le_of_lt (Nat.div_le_self _ _) hlo
    have hor : hi * 2 ^ s ||| lo / 2 ^ (64 - s) = hi * 2 ^ s + lo / 2 ^ (64 - s) := Num.or_add hlos
    have hparts := Num.shift_parts (hi := hi) (lo := lo) (s := s) (by omega) hlo
    have hult : hi * 2 ^ s + lo / 2 ^ (64 - s) < y * 2 ^ s := by
      have : (hi + 1) * 2 ^ s ≤ y * 2 ^ s := Nat.mul_le_mul_right _ hhi
      rw [Nat.add_mul] at this; omega
    clear hs
    refine run ?_
    rw [hor]
    obtain ⟨hsd, hsm⟩ := Num.shift_div (N := hi * 18446744073709551616 + lo) (y := y) (s := s) (by omega)
    rw [hparts] at hsd hsm
    rw [← hsd, ← hsm]
    have hy0 : y * 2 ^ s &&& 4294967295 = y * 2 ^ s % 4294967296 := Num.and32 _
    have hd0 : lo * 2 ^ s % 18446744073709551616 &&& 4294967295 = lo * 2 ^ s % 18446744073709551616 % 4294967296 := Num.and32 _
    rw [hy0, hd0]
    have hel : lo * 2 ^ s % 18446744073709551616 < 18446744073709551616 := Num.modW _
    clear hy0 hd0 hsd hsm hparts hor hhis hlos hlow
    generalize lo * 2 ^ s % 18446744073709551616 = e at *
    generalize hi * 2 ^ s + lo / 2 ^ (64 - s) = u at *
    generalize y * 2 ^ s = Y at *
    simp only [show (2 : Nat) ^ 32 = 4294967296 from rfl]
    have hYd := Nat.div_add_mod Y 4294967296
    have hed := Nat.div_add_mod e 4294967296
    have hy0B : Y % 4294967296 < 4294967296 := Nat.mod_lt _ (by omega)
    have hd0B : e % 4294967296 < 4294967296 := Nat.mod_lt _ (by omega)
    have hy1a : 2147483648 ≤ Y / 4294967296 := by omega
    have hy1b : Y / 4294967296 < 4294967296 := by omega
    have hd1B : e / 4294967296 < 4294967296 := by omega
    have hYd' : Y / 4294967296 * 4294967296 + Y % 4294967296 = Y := by rw [Nat.mul_comm]; exact hYd
    have hed' : e / 4294967296 * 4294967296 + e % 4294967296 = e := by rw [Nat.mul_comm]; exact hed
    clear hYd hed
    generalize Y / 4294967296 = y1 at *
    generalize Y % 4294967296 = y0 at *
    generalize e / 4294967296 = d1 at *
    generalize e % 4294967296 = d0 at *
    have hqm : u / y1 * y1 ≤ u := Nat.div_mul_le_self _ _
    have hqm' : u / y1 * y1 < 18446744073709551616 := by omega
    have hqB : (u * 4294967296 + d1) / Y < 4294967296 := Num.digit_lt hd1B hult
    have hgle : u / y1 ≤ 4294967296 + 1 := Num.guess_le hYd' (by omega) hy0B hult (by omega)
    have hgge : (u * 4294967296 + d1) / Y ≤ u / y1 := Num.guess_ge hYd' hd1B (by omega)
    have hrem : u - u / y1 * y1 < 4294967296 := by
      have := Nat.div_add_mod u y1
      have h2 : u % y1 < y1 := Nat.mod_lt _ (by omega)
      rw [Nat.mul_comm] at this; omega
    refine run ?_
    apply (w_cut (σ := Nat × Nat) rfl (fun p => [(2, U Y), (8, U s), (9, U y1), (10, U y0), (11, U u), (13, U d1), (14, U d0), (15, U p.1)]) (fun p h' => h = h' ∧ p.1 = (u * 4294967296 + d1) / Y ∧ p.2 = (u * 4294967296 + d1) % Y))
    · apply w_block; exact rfl
      apply (w_loop (σ := Nat × Nat) rfl (fun p => [(2, U Y), (8, U s), (9, U y1), (10, U y0), (11, U u), (13, U d1), (14, U d0), (15, U p.1), (16, U p.2)])
        (fun p h' => h = h' ∧ p.1 * y1 + p.2 = u ∧ (u * 4294967296 + d1) / Y ≤ p.1 ∧ p.1 ≤ 4294967296 + 1 ∧ p.2 < 4294967296) (fun p => p.1) (u / y1, u - u / y1 * y1))
      · exact (Sub.cons rfl (Sub.cons rfl (Sub.cons rfl (Sub.cons rfl (Sub.cons rfl (Sub.cons rfl (Sub.cons rfl (Sub.cons rfl (Sub.cons rfl (Sub.nil _))))))))))
      · exact ⟨rfl, by simp only []; omega, hgge, hgle, hrem⟩
      · rintro ⟨q, r⟩ h' ⟨rfl, i1, i2, i3, i4⟩
        dsimp only at i1 i2 i3 i4 ⊢
        have hqy : q * y0 < 18446744073709551616 := Num.mulB i3 hy0B
        refine run ?_
        (apply s_split 69; exact rfl) <;> intro hc
        · have hq1 : 1 ≤ q := by omega
          refine run ?_
          (apply w_condD; exact rfl; exact rfl) <;> intro hb
          · refine run ?_
            apply cut_normal ((u * 4294967296 + d1) / Y, (u * 4294967296 + d1) % Y)
            · exact (Sub.cons rfl (Sub.cons rfl (Sub.cons rfl (Sub.cons rfl (Sub.cons rfl (Sub.cons rfl (Sub.cons rfl (Sub.consE rfl (by rw [← Num.digit_eq' hYd' hy0B (q := q - 1) (r := r + y1) (by rw [← i1, Nat.sub_mul]; have := Nat.mul_le_mul_right y1 hq1; omega) (by omega) hb (by omega) (by omega)]) (Sub.nil _)))))))))
            · exact ⟨rfl, rfl, rfl⟩
          · refine run ?_
            apply again_normal (q - 1, r + y1)
            · exact (Sub.cons rfl (Sub.cons rfl (Sub.cons rfl (Sub.cons rfl (Sub.cons rfl (Sub.cons rfl (Sub.cons rfl (Sub.cons rfl (Sub.cons rfl (Sub.nil _))))))))))
            · exact ⟨rfl, by simp only []; rw [← i1, Nat.sub_mul]; have := Nat.mul_le_mul_right y1 hq1; omega, by simp only []; omega, by simp only []; omega, by simp only []; omega⟩
            · simp only []; omega
        · refine run ?_
          (apply w_condD; exact rfl; exact rfl) <;> intro hd
          · have hqgt := Num.digit_gt hYd' i1 hd (by omega)
            have hq1 : 1 ≤ q := Nat.lt_of_le_of_lt (Nat.zero_le _) hqgt
            refine run ?_
            (apply w_condD; exact rfl; exact rfl) <;> intro hb
            · refine run ?_
              apply cut_normal ((u * 4294967296 + d1) / Y, (u * 4294967296 + d1) % Y)
              · exact (Sub.cons rfl (Sub.cons rfl (Sub.cons rfl (Sub.cons rfl (Sub.cons rfl (Sub.cons rfl (Sub.cons rfl (Sub.consE rfl (by rw [← Num.digit_eq' hYd' hy0B (q := q - 1) (r := r + y1) (by rw [← i1, Nat.sub_mul]; have := Nat.mul_le_mul_right y1 hq1; omega) (by omega) hb (by omega) (by omega)]) (Sub.nil _)))))))))
              · exact ⟨rfl, rfl, rfl⟩
            · refine run ?_
              apply again_normal (q - 1, r + y1)
              · exact (Sub.cons rfl (Sub.cons rfl (Sub.cons rfl (Sub.cons rfl (Sub.cons rfl (Sub.cons rfl (Sub.cons rfl (Sub.cons rfl (Sub.cons rfl (Sub.nil _))))))))))
              · exact ⟨rfl, by simp only []; rw [← i1, Nat.sub_mul]; have := Nat.mul_le_mul_right y1 hq1; omega, by simp only []; omega, by simp only []; omega, by simp only []; omega⟩
              · simp only []; omega
          · refine run ?_
            apply cut_normal ((u * 4294967296 + d1) / Y, (u * 4294967296 + d1) % Y)
            · exact (Sub.cons rfl (Sub.cons rfl (Sub.cons rfl (Sub.cons rfl (Sub.cons rfl (Sub.cons rfl (Sub.cons rfl (Sub.consE rfl (by rw [← Num.digit_eq hYd' hy0B i1 i2 (by omega) (by omega)]) (Sub.nil _)))))))))
            · exact ⟨rfl, rfl, rfl⟩
    · rintro ⟨q1, v⟩ _ ⟨rfl, e1, e2⟩
      dsimp only at e1 e2 ⊢
      rw [← e1] at hqB
      have hvY : v < Y := by rw [e2]; exact Nat.mod_lt _ (by omega)
      have hdm := Num.dm e1 e2
      clear hqm hqm' hgle hgge hrem
      have hw : ((u * 4294967296 % 18446744073709551616 + d1) % 18446744073709551616 + (18446744073709551616 - q1 * Y % 18446744073709551616)) % 18446744073709551616 = v := Num.rest_wrap hdm (Nat.lt_trans hvY hhi64)
      have hm1 : q1 * Y % 18446744073709551616 ≤ 18446744073709551616 := Nat.le_of_lt (Num.modW _)
      refine runS ?_
      (apply s_mulUw; (first | exact isK_c | exact isK_t rfl); (first | exact isK_c | exact isK_t rfl); exact rfl)
      refine runS ?_
      (apply s_addUw; (first | exact isK_c | exact isK_t rfl); (first | exact isK_c | exact isK_t rfl); exact rfl)
      refine runS ?_
      (apply s_mulUw; (first | exact isK_c | exact isK_t rfl); (first | exact isK_c | exact isK_t rfl); exact rfl)
      refine runS ?_
      (apply s_subUw; (first | exact isK_c | exact isK_t rfl); (first | exact isK_c | exact isK_t rfl); exact rfl; omega)
      rw [hw]
      clear hw hm1 hdm
      have hqm : v / y1 * y1 ≤ v := Nat.div_mul_le_self _ _
      have hqm' : v / y1 * y1 < 18446744073709551616 := by omega
      have hqB2 : (v * 4294967296 + d0) / Y < 4294967296 := Num.digit_lt hd0B hvY
      have hgle : v / y1 ≤ 4294967296 + 1 := Num.guess_le hYd' (by omega) hy0B hvY (by omega)
      have hgge : (v * 4294967296 + d0) / Y ≤ v / y1 := Num.guess_ge hYd' hd0B (by omega)
      have hrem : v - v / y1 * y1 < 4294967296 := by
        have := Nat.div_add_mod v y1
        have h2 : v % y1 < y1 := Nat.mod_lt _ (by omega)
        rw [Nat.mul_comm] at this; omega
      refine run ?_
      apply (w_cut (σ := Nat × Nat) rfl (fun p => [(2, U Y), (8, U s), (9, U y1), (10, U y0), (15, U q1), (17, U v), (14, U d0), (18, U p.1)]) (fun p h' => h = h' ∧ p.1 = (v * 4294967296 + d0) / Y ∧ p.2 = (v * 4294967296 + d0) % Y))
      · apply w_block; exact rfl
        apply (w_loop (σ := Nat × Nat) rfl (fun p => [(2, U Y), (8, U s), (9, U y1), (10, U y0), (15, U q1), (17, U v), (14, U d0), (18, U p.1), (16, U p.2)])
          (fun p h' => h = h' ∧ p.1 * y1 + p.2 = v ∧ (v * 4294967296 + d0) / Y ≤ p.1 ∧ p.1 ≤ 4294967296 + 1 ∧ p.2 < 4294967296) (fun p => p.1) (v / y1, v - v / y1 * y1))
        · exact (Sub.cons rfl (Sub.cons rfl (Sub.cons rfl (Sub.cons rfl (Sub.cons rfl (Sub.cons rfl (Sub.cons rfl (Sub.cons rfl (Sub.cons rfl (Sub.nil _))))))))))
        · exact ⟨rfl, by simp only []; omega, hgge, hgle, hrem⟩
        · rintro ⟨q, r⟩ h' ⟨rfl, i1, i2, i3, i4⟩
          dsimp only at i1 i2 i3 i4 ⊢
          have hqy : q * y0 < 18446744073709551616 := Num.mulB i3 hy0B
          refine run ?_
          (apply s_split 104; exact rfl) <;> intro hc
          · have hq1 : 1 ≤ q := by omega
            refine run ?_
            (apply w_condD; exact rfl; exact rfl) <;> intro hb
            · refine run ?_
              apply cut_normal ((v * 4294967296 + d0) / Y, (v * 4294967296 + d0) % Y)
              · exact (Sub.cons rfl (Sub.cons rfl (Sub.cons rfl (Sub.cons rfl (Sub.cons rfl (Sub.cons rfl (Sub.cons rfl (Sub.consE rfl (by rw [← Num.digit_eq' hYd' hy0B (q := q - 1) (r := r + y1) (by rw [← i1, Nat.sub_mul]; have := Nat.mul_le_mul_right y1 hq1; omega) (by omega) hb (by omega) (by omega)]) (Sub.nil _)))))))))
              · exact ⟨rfl, rfl, rfl⟩
            · refine run ?_
              apply again_normal (q - 1, r + y1)
              · exact (Sub.cons rfl (Sub.cons rfl (Sub.cons rfl (Sub.cons rfl (Sub.cons rfl (Sub.cons rfl (Sub.cons rfl (Sub.cons rfl (Sub.cons rfl (Sub.nil _))))))))))
              · exact ⟨rfl, by simp only []; rw [← i1, Nat.sub_mul]; have := Nat.mul_le_mul_right y1 hq1; omega, by simp only []; omega, by simp only []; omega, by simp only []; omega⟩
              · simp only []; omega
          · refine run ?_
            (apply w_condD; exact rfl; exact rfl) <;> intro hd
            · have hqgt := Num.digit_gt hYd' i1 hd (by omega)
              have hq1 : 1 ≤ q := Nat.lt_of_le_of_lt (Nat.zero_le _) hqgt
              refine run ?_
              (apply w_condD; exact rfl; exact rfl) <;> intro hb
              · refine run ?_
                apply cut_normal ((v * 4294967296 + d0) / Y, (v * 4294967296 + d0) % Y)
                · exact (Sub.cons rfl (Sub.cons rfl (Sub.cons rfl (Sub.cons rfl (Sub.cons rfl (Sub.cons rfl (Sub.cons rfl (Sub.consE rfl (by rw [← Num.digit_eq' hYd' hy0B (q := q - 1) (r := r + y1) (by rw [← i1, Nat.sub_mul]; have := Nat.mul_le_mul_right y1 hq1; omega) (by omega) hb (by omega) (by omega)]) (Sub.nil _)))))))))
                · exact ⟨rfl, rfl, rfl⟩
              · refine run ?_
                apply again_normal (q - 1, r + y1)
                · exact (Sub.cons rfl (Sub.cons rfl (Sub.cons rfl (Sub.cons rfl (Sub.cons rfl (Sub.cons rfl (Sub.cons rfl (Sub.cons rfl (Sub.cons rfl (Sub.nil _))))))))))
                · exact ⟨rfl, by simp only []; rw [← i1, Nat.sub_mul]; have := Nat.mul_le_mul_right y1 hq1; omega, by simp only []; omega, by simp only []; omega, by simp only []; omega⟩
                · simp only []; omega
            · refine run ?_
              apply cut_normal ((v * 4294967296 + d0) / Y, (v * 4294967296 + d0) % Y)
              · exact (Sub.cons rfl (Sub.cons rfl (Sub.cons rfl (Sub.cons rfl (Sub.cons rfl (Sub.cons rfl (Sub.cons rfl (Sub.consE rfl (by rw [← Num.digit_eq hYd' hy0B i1 i2 (by omega) (by omega)]) (Sub.nil _)))))))))
              · exact ⟨rfl, rfl, rfl⟩
      · rintro ⟨q0, _⟩ _ ⟨rfl, e3, -⟩
        dsimp only at e3 ⊢
        rw [← e3] at hqB2
        clear hqm hqm' hgle hgge hrem
        obtain ⟨r, e4⟩ : ∃ r, r = (v * 4294967296 + d0) % Y := ⟨_, rfl⟩
        have hrY : r < Y := by rw [e4]; exact Nat.mod_lt _ (by omega)
        have hdm := Num.dm e3 e4
        obtain ⟨f1, f2⟩ := Num.two_end (by omega) hed' e1 e2 e3 e4
        rw [f1, f2]
        have hw : ((v * 4294967296 % 18446744073709551616 + d0) % 18446744073709551616 + (18446744073709551616 - q0 * Y % 18446744073709551616)) % 18446744073709551616 = r := Num.rest_wrap hdm (Nat.lt_trans hrY hhi64)
        have hm1 : q0 * Y % 18446744073709551616 ≤ 18446744073709551616 := Nat.le_of_lt (Num.modW _)
        clear f1 f2 hdm e1 e2 e3 e4
        refine runS ?_
        (apply s_mulU; (first | exact isK_c | exact isK_t rfl); (first | exact isK_c | exact isK_t rfl); exact rfl; omega)
        refine runS ?_
        (apply s_addU; (first | exact isK_c | exact isK_t rfl); (first | exact isK_c | exact isK_t rfl); exact rfl; omega)
        refine runS ?_
        (apply s_mulUw; (first | exact isK_c | exact isK_t rfl); (first | exact isK_c | exact isK_t rfl); exact rfl)
        refine runS ?_
        (apply s_addUw; (first | exact isK_c | exact isK_t rfl); (first | exact isK_c | exact isK_t rfl); exact rfl)
        refine runS ?_
        (apply s_mulUw; (first | exact isK_c | exact isK_t rfl); (first | exact isK_c | exact isK_t rfl); exact rfl)
        refine runS ?_
        (apply s_subUw; (first | exact isK_c | exact isK_t rfl); (first | exact isK_c | exact isK_t rfl); exact rfl; omega)
        rw [hw]
        refine run ?_
        exact fin2 rfl rfl rfl ⟨rfl, rfl⟩
end Go.Proofs.YtbhhagdnbkkjpaaDoor
