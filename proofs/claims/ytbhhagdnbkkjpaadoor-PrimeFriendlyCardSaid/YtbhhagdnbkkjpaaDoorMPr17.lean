/- Texts PrmA to DenU of this work, joined: each says in its own head what it proves, and of which condition. -/
import Derived.Test.YtbhhagdnbkkjpaaDoorMPr16
/- Both tests of primes, fast: powers by seven bits at once; a walk down a row of candidates. No program. No condition. -/
namespace Go.Proofs.YtbhhagdnbkkjpaaDoor
set_option linter.unusedVariables false
set_option maxRecDepth 8000
open Go Go.Mth

theorem spl_two : ∀ (k f m s : Nat), m % 2 = 1 → k ≤ f → spl f (2 ^ k * m) s = (m, s + k)
  | 0, f, m, s, hm, _ => by rw [Nat.pow_zero, Nat.one_mul]; exact spl_odd (by omega) f s
  | k + 1, 0, m, s, _, hf => by omega
  | k + 1, f + 1, m, s, hm, hf => by
    have e : 2 ^ (k + 1) * m = 2 * (2 ^ k * m) := by rw [Nat.pow_succ, Nat.mul_comm (2 ^ k) 2, Nat.mul_assoc]
    unfold spl
    rw [e, if_pos (Nat.mul_mod_right _ _), Nat.mul_div_cancel_left _ (by decide), spl_two k f m (s + 1) hm (by omega), show s + 1 + k = s + (k + 1) by omega]
/-- The exponent of 2 by bits. -/
def v2F (x : Nat) : Nat := Nat.log2 (Nat.land x (Nat.sub 18446744073709551616 x))
theorem v2_two {k m : Nat} (hm : m % 2 = 1) (hx : 2 ^ k * m < 18446744073709551616) : v2F (2 ^ k * m) = k := by
  have hm0 : 0 < m := by omega
  have h64 : (2 : Nat) ^ 64 = 18446744073709551616 := by decide
  have hk : k < 64 := by
    refine Classical.byContradiction fun hc => ?_
    have h1 : 2 ^ 64 ≤ 2 ^ k := Nat.pow_le_pow_right (by decide) (by omega)
    have h2 : 2 ^ k * 1 ≤ 2 ^ k * m := Nat.mul_le_mul_left _ hm0
    omega
  have ha := and_two (by omega) hm (show 2 ^ k * m < 2 ^ 64 by rw [h64]; exact hx)
  rw [h64] at ha
  unfold v2F
  rw [show Nat.land (2 ^ k * m) (Nat.sub 18446744073709551616 (2 ^ k * m)) = 2 ^ k from ha, Nat.log2_two_pow]
/-- All three tell the same of an even number. -/
theorem v2_facts {x : Nat} (h0 : 0 < x) (hx : x < 18446744073709551616) : tz x = v2F x ∧ spl 64 x 0 = (x / 2 ^ v2F x, v2F x) := by
  obtain ⟨k, m, rfl, hm⟩ := two_odd h0
  have hk : k ≤ 64 := by
    refine Classical.byContradiction fun hc => ?_
    have h1 : 2 ^ 64 ≤ 2 ^ k := Nat.pow_le_pow_right (by decide) (by omega)
    have h2 : 2 ^ k * 1 ≤ 2 ^ k * m := Nat.mul_le_mul_left _ (by omega)
    have h64 : (2 : Nat) ^ 64 = 18446744073709551616 := by decide
    omega
  rw [v2_two hm hx, tz_two hm hx, spl_two k 64 m 0 hm hk, Nat.mul_div_cancel_left _ (Nat.pow_pos (by decide)), Nat.zero_add]
  exact ⟨rfl, rfl⟩

/-- Seven bits of the exponent at once. -/
def st (m a r e : Nat) : Nat := Nat.mod (Nat.mul (Nat.pow r 128) (Nat.pow a e)) m
def fv (m a n : Nat) : Nat := st m a (st m a (st m a (st m a (st m a (st m a (st m a (st m a (st m a 1 (Nat.div n 72057594037927936)) (Nat.mod (Nat.div n 562949953421312) 128)) (Nat.mod (Nat.div n 4398046511104) 128)) (Nat.mod (Nat.div n 34359738368) 128)) (Nat.mod (Nat.div n 268435456) 128)) (Nat.mod (Nat.div n 2097152) 128)) (Nat.mod (Nat.div n 16384) 128)) (Nat.mod (Nat.div n 128) 128)) (Nat.mod n 128)
theorem st_eq (m a k e n : Nat) (h : k * 128 + e = n) : st m a (a ^ k % m) e = a ^ n % m := by
  show (a ^ k % m) ^ 128 * a ^ e % m = a ^ n % m
  rw [← h, Nat.pow_add, Nat.pow_mul, Nat.mul_mod, ← Nat.pow_mod, ← Nat.mul_mod]
theorem st_one (m a e : Nat) : st m a 1 e = a ^ e % m := by
  show 1 ^ 128 * a ^ e % m = a ^ e % m
  rw [Nat.one_pow, Nat.one_mul]
theorem fv_eq (m a n : Nat) : fv m a n = a ^ n % m := by
  have key : ∀ (c d : Nat), d = c * 128 → ∀ q, q = Nat.div n c → (Nat.div n d) * 128 + Nat.mod q 128 = q := fun c d hd q hq => by
    subst hd hq
    show n / (c * 128) * 128 + (n / c) % 128 = n / c
    rw [← Nat.div_div_eq_div_mul]
    exact Nat.div_add_mod' (n / c) 128
  unfold fv
  rw [st_one]
  rw [st_eq m a _ _ _ (key 562949953421312 72057594037927936 (by decide) _ rfl)]
  rw [st_eq m a _ _ _ (key 4398046511104 562949953421312 (by decide) _ rfl)]
  rw [st_eq m a _ _ _ (key 34359738368 4398046511104 (by decide) _ rfl)]
  rw [st_eq m a _ _ _ (key 268435456 34359738368 (by decide) _ rfl)]
  rw [st_eq m a _ _ _ (key 2097152 268435456 (by decide) _ rfl)]
  rw [st_eq m a _ _ _ (key 16384 2097152 (by decide) _ rfl)]
  rw [st_eq m a _ _ _ (key 128 16384 (by decide) _ rfl)]
  exact st_eq m a _ _ n (Nat.div_add_mod' n 128)
theorem beqN (a b : Nat) : (a == b) = Nat.beq a b := by
  cases h : Nat.beq a b with
  | true => rw [Nat.eq_of_beq_eq_true h]; simp
  | false =>
    have : a ≠ b := fun e => by rw [e, Nat.beq_refl] at h; cases h
    simp [this]
/-- .. and the test by one base. -/
def lpF (n : Nat) : Nat → Nat → Bool
  | 0, _ => false
  | k + 1, x => match Nat.beq (Nat.mod (Nat.mul x x) n) (Nat.sub n 1) with
    | true => true
    | false => lpF n k (Nat.mod (Nat.mul x x) n)
theorem lpF_eq {n : Nat} (hn : n ≠ 0) : ∀ (k x : Nat), lpF n k x = holdsLoop n k x
  | 0, _ => rfl
  | k + 1, x => by
    unfold lpF holdsLoop
    have e : mulm x x n = Nat.mod (Nat.mul x x) n := by unfold mulm; rw [if_neg hn]; rfl
    rw [e, lpF_eq hn k, beqN]
    change (match Nat.beq (Nat.mod (Nat.mul x x) n) (n - 1) with | true => true | false => holdsLoop n k (Nat.mod (Nat.mul x x) n)) = _
    cases Nat.beq (Nat.mod (Nat.mul x x) n) (n - 1) <;> rfl
def sn2 (n s x : Nat) : Bool := match Nat.beq x 1 with
  | true => true
  | false => match Nat.beq x (Nat.sub n 1) with
    | true => true
    | false => lpF n (Nat.sub s 1) x
theorem sn2_eq {n : Nat} (hn : n ≠ 0) (s x : Nat) : sn2 n s x = (x == 1 || (x == n - 1 || holdsLoop n (s - 1) x)) := by
  unfold sn2
  rw [lpF_eq hn, beqN, beqN]
  change (match Nat.beq x 1 with | true => true | false => match Nat.beq x (n - 1) with | true => true | false => holdsLoop n (s - 1) x) = _
  cases Nat.beq x 1 <;> cases Nat.beq x (n - 1) <;> rfl
def snF (n d s a : Nat) : Bool := sn2 n s (fv n a d)
def hbF (n d s a : Nat) : Bool := match Nat.beq (Nat.mod a n) 0 with
  | true => true
  | false => snF n d s (Nat.mod a n)
theorem hbF_eq {n : Nat} (hn : n ≠ 0) (d s a : Nat) : hbF n d s a = holdsB n d s a := by
  unfold hbF holdsB snF
  have e : powm (a % n) d n = fv n (Nat.mod a n) d := by unfold powm; rw [if_neg hn, fv_eq]; rfl
  rw [e, sn2_eq hn, beqN (a % n) 0]
  change (match Nat.beq (a % n) 0 with | true => true | false => _) = _
  cases Nat.beq (a % n) 0 <;> rfl
theorem snF_eq {n : Nat} (hn : n ≠ 0) (d s a : Nat) : snF n d s a = (powm a d n == 1 || (powm a d n == n - 1 || holdsLoop n (s - 1) (powm a d n))) := by
  unfold snF
  rw [sn2_eq hn]
  have e : powm a d n = fv n a d := by unfold powm; rw [if_neg hn, fv_eq]
  rw [e]
/-- Both tests of an odd number: what they answer, where they agree. -/
def both2 (c s d : Nat) : Option Bool := match Nat.ble 65536 c with
  | true => match hbF c d s 2 with
    | false => some false
    | true => match (bases.all (hbF c d s)), (basesR.all fun a => !(Nat.beq (Nat.mod c a) 0) && snF c d s a) with
      | true, true => some true
      | false, false => some false
      | _, _ => none
  | false => match (bases.all (hbF c d s)), (trialR 300 2 c) with
      | true, true => some true
      | false, false => some false
      | _, _ => none
def both (c : Nat) : Option Bool := both2 c (v2F (Nat.sub c 1)) (Nat.div (Nat.sub c 1) (Nat.pow 2 (v2F (Nat.sub c 1))))
theorem both_ok {c : Nat} {b : Bool} (ho : c % 2 = 1) (h5 : 5 ≤ c) (hc : c < 18446744073709551616) (h : both c = some b) : isB c = b ∧ isR c = b := by
  obtain ⟨e1, e2⟩ := v2_facts (x := c - 1) (by omega) (by omega)
  have hc0 : c ≠ 0 := by omega
  unfold both at h
  have hB : isB c = bases.all (hbF c ((c - 1) / 2 ^ v2F (c - 1)) (v2F (c - 1))) := by
    unfold isB
    rw [if_neg (by omega), e1, funext (hbF_eq hc0 _ _)]
  have hR : isR c = if c < 65536 then trialR 300 2 c else basesR.all fun a => !(Nat.beq (Nat.mod c a) 0) && snF c ((c - 1) / 2 ^ v2F (c - 1)) (v2F (c - 1)) a := by
    unfold isR
    rw [if_neg (by omega)]
    congr 1
    congr 1
    funext a
    unfold strongR
    rw [e2, snF_eq hc0, beqN (c % a) 0]
    rfl
  change both2 c (v2F (c - 1)) ((c - 1) / 2 ^ v2F (c - 1)) = some b at h
  generalize (c - 1) / 2 ^ v2F (c - 1) = d at *
  generalize v2F (c - 1) = s at *
  unfold both2 at h
  split at h
  · rename_i hb
    have hb := Nat.le_of_ble_eq_true hb
    rw [if_neg (by omega)] at hR
    split at h
    · rename_i h2
      cases h
      refine ⟨?_, ?_⟩
      · rw [hB]
        show (hbF c d s 2 && _) = false
        rw [h2]; rfl
      · rw [hR]
        show ((!(Nat.beq (Nat.mod c 2) 0) && snF c d s 2) && _) = false
        have : snF c d s 2 = false := by
          unfold hbF at h2
          have e : Nat.mod 2 c = 2 := Nat.mod_eq_of_lt (by omega)
          rw [e] at h2
          exact h2
        rw [this, Bool.and_false]; rfl
    · rw [hB, hR]
      split at h
      · rename_i g1 g2; cases h; exact ⟨g1, g2⟩
      · rename_i g1 g2; cases h; exact ⟨g1, g2⟩
      · cases h
  · rename_i hb
    have hb : ¬ 65536 ≤ c := fun h' => by rw [Nat.ble_eq_true_of_le h'] at hb; cases hb
    rw [if_pos (by omega)] at hR
    rw [hB, hR]
    split at h
    · rename_i g1 g2; cases h; exact ⟨g1, g2⟩
    · rename_i g1 g2; cases h; exact ⟨g1, g2⟩
    · cases h

/-- A root that is none of a square. -/
def rbases : List Nat := [2, 3, 5, 7, 11, 13, 17, 19, 23, 29, 31, 37, 41, 43, 47, 53, 59, 61, 67, 71, 73, 79, 83, 89, 97]
def rootOk (c by' : Nat) : Bool := rbases.any fun X => Nat.beq (fv c (fv c X (Nat.div (Nat.sub c 1) by')) (Nat.div by' 2)) (Nat.sub c 1)
theorem rootOk_spec {c by' : Nat} (hc : c ≠ 0) (h : rootOk c by' = true) : ∃ X, 2 ≤ X ∧ X < 100 ∧ powm (powm X ((c - 1) / by') c) (by' / 2) c = c - 1 := by
  obtain ⟨X, hX, h⟩ := List.any_eq_true.1 h
  have h := Nat.eq_of_beq_eq_true h
  rw [fv_eq, fv_eq] at h
  refine ⟨X, ?_, ?_, ?_⟩
  · have : ∀ x ∈ rbases, 2 ≤ x := by decide
    exact this X hX
  · have : ∀ x ∈ rbases, x < 100 := by decide
    exact this X hX
  · unfold powm
    rw [if_neg hc, if_neg hc]
    exact h
/-- Down a row of candidates, till so many are found: both tests agree, and what is found has a root. -/
def agr (least by' : Nat) : Nat → Nat → Nat → Bool
  | 0, _, _ => false
  | f + 1, k, left => match Nat.beq left 0 with
    | true => true
    | false => match Nat.ble (Nat.add (Nat.mul k by') 1) least with
      | true => true
      | false => match both (Nat.add (Nat.mul k by') 1) with
        | none => false
        | some true => rootOk (Nat.add (Nat.mul k by') 1) by' && agr least by' f (Nat.sub k 1) (Nat.sub left 1)
        | some false => agr least by' f (Nat.sub k 1) left
/-- The search by a test. -/
def srG (p : Nat → Bool) (least by' count : Nat) : Nat → List Nat → Option (List Nat)
  | 0, _ => none
  | k + 1, out => if (k + 1) * by' + 1 ≤ least then none else if p ((k + 1) * by' + 1) then (if out.length + 1 = count then some (out ++ [(k + 1) * by' + 1]) else srG p least by' count k (out ++ [(k + 1) * by' + 1])) else srG p least by' count k out
/-- What is found: so many, falling, each one that the test takes, with a root. -/
def FoundP (by' : Nat) (q : Nat) : Prop := isB q = true ∧ q % by' = 1 ∧ 5 ≤ q ∧ q < 18446744073709551616 ∧ ∃ X, 2 ≤ X ∧ X < 100 ∧ powm (powm X ((q - 1) / by') q) (by' / 2) q = q - 1
theorem agr_eq {least by' count : Nat} (hb : by' % 2 = 0) (hb2 : 2 ≤ by') (hl : 4 ≤ least) : ∀ (f k left : Nat) (out : List Nat), k * by' + 1 < 18446744073709551616 → agr least by' f k left = true → count ≤ out.length + left → out.length < count →
    srG isB least by' count k out = srG isR least by' count k out ∧ ∀ l, srG isB least by' count k out = some l → l.length = count ∧ ∃ l', l = out ++ l' ∧ l'.Pairwise (· > ·) ∧ ∀ q ∈ l', FoundP by' q ∧ q ≤ k * by' + 1
  | 0, k, left, out, hk, h, _, _ => by cases h
  | f + 1, 0, left, out, hk, h, _, _ => ⟨rfl, fun l hl => by cases hl⟩
  | f + 1, k + 1, left, out, hk, h, hc, ho => by
    unfold agr at h
    have hk1 : k * by' + 1 < 18446744073709551616 := by
      have : k * by' ≤ (k + 1) * by' := Nat.mul_le_mul_right _ (by omega)
      omega
    have hle : k * by' + 1 < (k + 1) * by' + 1 := by rw [Nat.add_mul]; omega
    split at h
    · rename_i h0
      have := Nat.eq_of_beq_eq_true h0
      omega
    · rename_i hl0
      have hl0 : left ≠ 0 := fun e => by subst e; cases hl0
      split at h
      · rename_i hl'
        have hl' : (k + 1) * by' + 1 ≤ least := Nat.le_of_ble_eq_true hl'
        unfold srG
        rw [if_pos hl', if_pos hl']
        exact ⟨rfl, fun l hl => by cases hl⟩
      · rename_i hl'
        have hl' : ¬ (k + 1) * by' + 1 ≤ least := fun h' => by
          have : Nat.ble (Nat.add (Nat.mul (k + 1) by') 1) least = true := Nat.ble_eq_true_of_le h'
          rw [this] at hl'; cases hl'
        have hodd : ((k + 1) * by' + 1) % 2 = 1 := by
          have : (k + 1) * by' % 2 = 0 := by rw [Nat.mul_mod, hb, Nat.mul_zero]
          omega
        split at h
        · cases h
        · rename_i hbo
          obtain ⟨g1, g2⟩ := both_ok hodd (by omega) hk hbo
          have h5 : 5 ≤ (k + 1) * by' + 1 := Nat.lt_of_le_of_lt hl (Nat.lt_of_not_le hl')
          rw [Bool.and_eq_true] at h
          obtain ⟨r1, r2⟩ := h
          obtain ⟨X, x1, x2, x3⟩ := rootOk_spec (c := (k + 1) * by' + 1) (by omega) r1
          have hF : FoundP by' ((k + 1) * by' + 1) := ⟨g1, by rw [Nat.mul_add_mod_self_right]; exact Nat.mod_eq_of_lt hb2, h5, hk, X, x1, x2, x3⟩
          unfold srG
          rw [if_neg hl', if_neg hl', if_pos g1, if_pos g2]
          by_cases hcc : out.length + 1 = count
          · rw [if_pos hcc, if_pos hcc]
            refine ⟨rfl, fun l hl => ?_⟩
            cases hl
            exact ⟨by rw [List.length_append]; exact hcc, [_], rfl, List.pairwise_singleton _ _, fun q hq => by rw [List.mem_singleton.1 hq]; exact ⟨hF, Nat.le_refl _⟩⟩
          · rw [if_neg hcc, if_neg hcc]
            obtain ⟨i1, i2⟩ := agr_eq (count := count) hb hb2 hl f k (left - 1) (out ++ [(k + 1) * by' + 1]) hk1 r2 (by rw [List.length_append, List.length_singleton]; omega) (by rw [List.length_append, List.length_singleton]; omega)
            refine ⟨i1, fun l hl => ?_⟩
            obtain ⟨j1, l', j2, j3, j4⟩ := i2 l hl
            refine ⟨j1, ((k + 1) * by' + 1) :: l', by rw [j2, List.append_assoc]; rfl, List.pairwise_cons.2 ⟨fun q hq => ?_, j3⟩, fun q hq => ?_⟩
            · have := (j4 q hq).2
              show q < (k + 1) * by' + 1
              omega
            · rcases List.mem_cons.1 hq with rfl | hq
              · exact ⟨hF, Nat.le_refl _⟩
              · exact ⟨(j4 q hq).1, by have := (j4 q hq).2; omega⟩
        · rename_i hbo
          obtain ⟨g1, g2⟩ := both_ok hodd (by omega) hk hbo
          unfold srG
          rw [if_neg hl', if_neg hl', if_neg (by rw [g1]; decide), if_neg (by rw [g2]; decide)]
          obtain ⟨i1, i2⟩ := agr_eq (count := count) hb hb2 hl f k left out hk1 h hc ho
          refine ⟨i1, fun l hl => ?_⟩
          obtain ⟨j1, l', j2, j3, j4⟩ := i2 l hl
          exact ⟨j1, l', j2, j3, fun q hq => ⟨(j4 q hq).1, by have := (j4 q hq).2; omega⟩⟩
end Go.Proofs.YtbhhagdnbkkjpaaDoor

/- The walk down the candidates of each size, by the kernel. No program. No condition. -/
namespace Go.Proofs.YtbhhagdnbkkjpaaDoor
set_option linter.unusedVariables false
set_option maxRecDepth 8000
open Go Go.Mth

def pows13 : List Nat := [2, 4, 8, 16, 32, 64, 128, 256, 512, 1024, 2048, 4096, 8192]
def tbl (least : Nat) : Bool := pows13.all fun b => agr least b 4000 (Nat.div (Nat.sub (Nat.mul 2 least) 2) b) 16
theorem tbl4 : tbl 8 = true := by decide +kernel
theorem tbl5 : tbl 16 = true := by decide +kernel
theorem tbl6 : tbl 32 = true := by decide +kernel
theorem tbl7 : tbl 64 = true := by decide +kernel
theorem tbl8 : tbl 128 = true := by decide +kernel
theorem tbl9 : tbl 256 = true := by decide +kernel
theorem tbl10 : tbl 512 = true := by decide +kernel
theorem tbl11 : tbl 1024 = true := by decide +kernel
theorem tbl12 : tbl 2048 = true := by decide +kernel
theorem tbl13 : tbl 4096 = true := by decide +kernel
theorem tbl14 : tbl 8192 = true := by decide +kernel
theorem tbl15 : tbl 16384 = true := by decide +kernel
theorem tbl16 : tbl 32768 = true := by decide +kernel
theorem tbl17 : tbl 65536 = true := by decide +kernel
theorem tbl18 : tbl 131072 = true := by decide +kernel
theorem tbl19 : tbl 262144 = true := by decide +kernel
theorem tbl20 : tbl 524288 = true := by decide +kernel
theorem tbl21 : tbl 1048576 = true := by decide +kernel
theorem tbl22 : tbl 2097152 = true := by decide +kernel
theorem tbl23 : tbl 4194304 = true := by decide +kernel
theorem tbl24 : tbl 8388608 = true := by decide +kernel
theorem tbl25 : tbl 16777216 = true := by decide +kernel
theorem tbl26 : tbl 33554432 = true := by decide +kernel
theorem tbl27 : tbl 67108864 = true := by decide +kernel
theorem tbl28 : tbl 134217728 = true := by decide +kernel
theorem tbl29 : tbl 268435456 = true := by decide +kernel
theorem tbl30 : tbl 536870912 = true := by decide +kernel
theorem tbl31 : tbl 1073741824 = true := by decide +kernel
theorem tbl32 : tbl 2147483648 = true := by decide +kernel
theorem tbl33 : tbl 4294967296 = true := by decide +kernel
theorem tbl34 : tbl 8589934592 = true := by decide +kernel
theorem tbl35 : tbl 17179869184 = true := by decide +kernel
theorem tbl36 : tbl 34359738368 = true := by decide +kernel
theorem tbl37 : tbl 68719476736 = true := by decide +kernel
theorem tbl38 : tbl 137438953472 = true := by decide +kernel
theorem tbl39 : tbl 274877906944 = true := by decide +kernel
theorem tbl40 : tbl 549755813888 = true := by decide +kernel
theorem tbl41 : tbl 1099511627776 = true := by decide +kernel
theorem tbl42 : tbl 2199023255552 = true := by decide +kernel
theorem tbl43 : tbl 4398046511104 = true := by decide +kernel
theorem tbl44 : tbl 8796093022208 = true := by decide +kernel
theorem tbl45 : tbl 17592186044416 = true := by decide +kernel
theorem tbl46 : tbl 35184372088832 = true := by decide +kernel
theorem tbl47 : tbl 70368744177664 = true := by decide +kernel
theorem tbl48 : tbl 140737488355328 = true := by decide +kernel
theorem tbl49 : tbl 281474976710656 = true := by decide +kernel
theorem tbl50 : tbl 562949953421312 = true := by decide +kernel
theorem tbl51 : tbl 1125899906842624 = true := by decide +kernel
theorem tbl52 : tbl 2251799813685248 = true := by decide +kernel
theorem tbl53 : tbl 4503599627370496 = true := by decide +kernel
theorem tbl54 : tbl 9007199254740992 = true := by decide +kernel
theorem tbl55 : tbl 18014398509481984 = true := by decide +kernel
theorem tbl56 : tbl 36028797018963968 = true := by decide +kernel
theorem tbl57 : tbl 72057594037927936 = true := by decide +kernel
theorem tbl58 : tbl 144115188075855872 = true := by decide +kernel
theorem tbl59 : tbl 288230376151711744 = true := by decide +kernel
theorem tbl60 : tbl 576460752303423488 = true := by decide +kernel
theorem tbl61 : tbl 1152921504606846976 = true := by decide +kernel
/-- All sizes. -/
theorem tbl_all : ∀ i, i < 58 → tbl (2 ^ (i + 3)) = true
  | 0, _ => tbl4
  | 1, _ => tbl5
  | 2, _ => tbl6
  | 3, _ => tbl7
  | 4, _ => tbl8
  | 5, _ => tbl9
  | 6, _ => tbl10
  | 7, _ => tbl11
  | 8, _ => tbl12
  | 9, _ => tbl13
  | 10, _ => tbl14
  | 11, _ => tbl15
  | 12, _ => tbl16
  | 13, _ => tbl17
  | 14, _ => tbl18
  | 15, _ => tbl19
  | 16, _ => tbl20
  | 17, _ => tbl21
  | 18, _ => tbl22
  | 19, _ => tbl23
  | 20, _ => tbl24
  | 21, _ => tbl25
  | 22, _ => tbl26
  | 23, _ => tbl27
  | 24, _ => tbl28
  | 25, _ => tbl29
  | 26, _ => tbl30
  | 27, _ => tbl31
  | 28, _ => tbl32
  | 29, _ => tbl33
  | 30, _ => tbl34
  | 31, _ => tbl35
  | 32, _ => tbl36
  | 33, _ => tbl37
  | 34, _ => tbl38
  | 35, _ => tbl39
  | 36, _ => tbl40
  | 37, _ => tbl41
  | 38, _ => tbl42
  | 39, _ => tbl43
  | 40, _ => tbl44
  | 41, _ => tbl45
  | 42, _ => tbl46
  | 43, _ => tbl47
  | 44, _ => tbl48
  | 45, _ => tbl49
  | 46, _ => tbl50
  | 47, _ => tbl51
  | 48, _ => tbl52
  | 49, _ => tbl53
  | 50, _ => tbl54
  | 51, _ => tbl55
  | 52, _ => tbl56
  | 53, _ => tbl57
  | 54, _ => tbl58
  | 55, _ => tbl59
  | 56, _ => tbl60
  | 57, _ => tbl61
  | i + 58, h => absurd h (by omega)
end Go.Proofs.YtbhhagdnbkkjpaaDoor

/- The reference's search for primes, told exactly, of any words. No condition. -/
namespace Go.Proofs.YtbhhagdnbkkjpaaDoor
set_option linter.unusedVariables false
set_option maxRecDepth 8000
open Go Go.Den Go.RowKit Go.Mth

theorem pows_in : ∀ i, i < 14 → 1 ≤ i → pows13.contains (2 ^ i) = true := by decide +kernel
theorem pows_of {n : Nat} (h : pows13.contains n = true) : ∃ i, 1 ≤ i ∧ i ≤ 13 ∧ n = 2 ^ i := by
  have h := List.contains_iff_mem.1 h
  have key : ∀ x ∈ pows13, ∃ i, 1 ≤ i ∧ i ≤ 13 ∧ x = 2 ^ i := by
    intro x hx
    unfold pows13 at hx
    simp only [List.mem_cons, List.not_mem_nil, or_false] at hx
    rcases hx with h | h | h | h | h | h | h | h | h | h | h | h | h
    · exact ⟨1, by decide, by decide, h⟩
    · exact ⟨2, by decide, by decide, h⟩
    · exact ⟨3, by decide, by decide, h⟩
    · exact ⟨4, by decide, by decide, h⟩
    · exact ⟨5, by decide, by decide, h⟩
    · exact ⟨6, by decide, by decide, h⟩
    · exact ⟨7, by decide, by decide, h⟩
    · exact ⟨8, by decide, by decide, h⟩
    · exact ⟨9, by decide, by decide, h⟩
    · exact ⟨10, by decide, by decide, h⟩
    · exact ⟨11, by decide, by decide, h⟩
    · exact ⟨12, by decide, by decide, h⟩
    · exact ⟨13, by decide, by decide, h⟩
  exact key n h
theorem pows_not {n : Nat} (h : ∀ i, 1 ≤ i → i < 14 → n ≠ 2 ^ i) : pows13.contains n = false := by
  cases hc : pows13.contains n with
  | false => rfl
  | true =>
    obtain ⟨i, h1, h2, h3⟩ := pows_of hc
    exact absurd h3 (h i h1 (by omega))

theorem refStepG_spec (n : Nat) (h : Hp) (hn : n < 18446744073709551616) :
    CallsH Tryd.prog 12 [U n] h fun v' h' => v' = .bool (pows13.contains n) ∧ h = h' := by
  have hle : ∀ i, i ≤ 14 → 2 ^ i ≤ 2 ^ 14 := fun i hi => Nat.pow_le_pow_right (by omega) hi
  have h14 : (2 : Nat) ^ 14 = 16384 := by decide
  have hge : ∀ i, i < 14 → 2 ^ i ≤ 2 ^ 13 := fun i hi => Nat.pow_le_pow_right (by omega) (by omega)
  have h13 : (2 : Nat) ^ 13 = 8192 := by decide
  (apply enter Tryd.func12 rfl Tryd.ntmps12 rfl)
  refine runJ ?_
  (first | (apply w_seqB; exact rfl; apply w_block; exact rfl) | skip)
  apply (w_loop (σ := Nat × Nat) rfl (fun k => [(0, U n), (3, U k.1)])
    (fun k h' => h = h' ∧ k.1 = 2 ^ k.2 ∧ 1 ≤ k.2 ∧ k.2 ≤ 14 ∧ ∀ i, 1 ≤ i → i < k.2 → n ≠ 2 ^ i) (fun k => 14 - k.2) (2, 1))
  · exact (Sub.cons rfl (Sub.cons rfl (Sub.nil _)))
  · exact ⟨rfl, rfl, Nat.le_refl _, by decide, fun i h1 h2 => absurd h2 (by omega)⟩
  rintro ⟨k, i⟩ h' ⟨rfl, k1, k2, k3, k4⟩
  dsimp only at k1 k2 k3 k4 ⊢
  have hk := hle i k3
  refine runJ ?_
  (apply w_condD; exact rfl; exact rfl) <;> intro hd
  · have hi : i < 14 := by
      rcases Nat.lt_or_ge i 14 with h1 | h1
      · exact h1
      · obtain rfl : i = 14 := by omega
        omega
    refine runJ ?_
    (apply w_condD; exact rfl; exact rfl) <;> intro he
    · refine runJ ?_
      exact fin1 rfl rfl ⟨by rw [he, k1, pows_in i hi k2], rfl⟩
    · refine runJ ?_
      apply again_normal (2 * k, i + 1)
      · exact (Sub.cons rfl (Sub.cons rfl (Sub.nil _)))
      · refine ⟨rfl, by dsimp only; rw [k1, Nat.pow_succ, Nat.mul_comm], by dsimp only; omega, hi, fun j h1 h2 => ?_⟩
        dsimp only at h2
        rcases Nat.lt_or_ge j i with h3 | h3
        · exact k4 j h1 h3
        · obtain rfl : j = i := by omega
          rw [← k1]; exact he
      · dsimp only; omega
  · have hi : i = 14 := by
      rcases Nat.lt_or_ge i 14 with h1 | h1
      · have := hge i h1
        omega
      · omega
    subst hi
    refine runJ ?_
    exact fin1 rfl rfl ⟨by rw [pows_not k4], rfl⟩

/-- What a search answers. -/
def SrchE (h h' : Hp) (v' : Value) : Option (List Nat) → Prop
  | none => v' = .tuple #[.slice none 0 0, N 7]
  | some ys => ∃ w, v' = .tuple #[w, N 0] ∧ OwnF h' h.size 22 U w ys
/-- Which searches may be. -/
def srchOk (bits : Int) (x : Nat) (count : Int) : Prop := 4 ≤ bits ∧ bits ≤ 61 ∧ pows13.contains x = true ∧ 1 ≤ count ∧ count ≤ 16
instance (bits : Int) (x : Nat) (count : Int) : Decidable (srchOk bits x count) := by unfold srchOk; exact inferInstance
theorem srch_nums {b x : Nat} (h1 : 4 ≤ b) (h2 : b ≤ 61) (hx : pows13.contains x = true) : 8 ≤ 2 ^ (b - 1) ∧ 2 ^ (b - 1) ≤ 1152921504606846976 ∧ 2 ≤ x ∧ x ≤ 8192 ∧ x % 2 = 0 := by
  obtain ⟨i, i1, i2, rfl⟩ := pows_of hx
  have a : 2 ^ 3 ≤ 2 ^ (b - 1) := Nat.pow_le_pow_right (by omega) (by omega)
  have c : 2 ^ (b - 1) ≤ 2 ^ 60 := Nat.pow_le_pow_right (by omega) (by omega)
  have d : 2 ^ 1 ≤ 2 ^ i := Nat.pow_le_pow_right (by omega) i1
  have e : 2 ^ i ≤ 2 ^ 13 := Nat.pow_le_pow_right (by omega) i2
  have f : 2 ^ i % 2 = 0 := by rw [show i = (i - 1) + 1 by omega, Nat.pow_succ, Nat.mul_mod_left]
  have e3 : (2 : Nat) ^ 3 = 8 := by decide
  have e60 : (2 : Nat) ^ 60 = 1152921504606846976 := by decide
  have e1 : (2 : Nat) ^ 1 = 2 := by decide
  have e13 : (2 : Nat) ^ 13 = 8192 := by decide
  omega

set_option maxHeartbeats 2000000 in
theorem refSearchOk_spec (b x count : Nat) (h : Hp) (hb1 : 4 ≤ b) (hb2 : b ≤ 61) (hx : pows13.contains x = true) (hc1 : 1 ≤ count) (hc2 : count ≤ 16) :
    CallsH Tryd.prog 7 [N b, U x, N count] h fun v' h' => Ext h h' ∧ SrchE h h' v' (srG isR (2 ^ (b - 1)) x count ((2 * 2 ^ (b - 1) - 2) / x) []) := by
  obtain ⟨l1, l2, x1, x2, -⟩ := srch_nums hb1 hb2 hx
  have SS := refStepG_spec x h (by omega)
  rw [hx] at SS
  generalize hl : 2 ^ (b - 1) = least at *
  have hdm : (2 * least - 2) / x * x ≤ 2 * least - 2 := Nat.div_mul_le_self _ _
  have hmb : (2 * least - 2) / x * x < 18446744073709551616 := by omega
  generalize hr : srG isR least x count ((2 * least - 2) / x) [] = r
  (apply enter Tryd.func7 rfl Tryd.ntmps7 rfl)
  refine runJ ?_
  (apply s_splitG; exact rfl; exact rfl; exact rfl; exact rfl) <;> intro g1
  · exact absurd g1 (by omega)
  refine runJ ?_
  (apply s_splitG; exact rfl; exact rfl; exact rfl; exact rfl) <;> intro g2
  · exact absurd g2 (by omega)
  refine runJ ?_
  apply (s_call Tryd_ent12 rfl rfl rfl)
  refine (SS).mono ?_
  rintro _ _ ⟨rfl, rfl⟩
  refine ⟨(by first | exact trivial | exact Ext.refl _ | assumption | exact Ext.trans (by assumption) (by assumption)), ?_⟩
  refine runJ ?_
  (apply s_splitG; exact rfl; exact rfl; exact rfl; exact rfl) <;> intro g3
  · exact absurd g3 (by omega)
  refine runJ ?_
  (apply w_condF; exact rfl; exact rfl; exact (show ¬ 16 < count by omega))
  refine runJ ?_
  rw [Nat.one_mul, hl]
  refine runJ ?_
  generalize hk0 : (2 * least - 2) / x = k0 at *
  refine runJ ?_
  (first | (apply w_seqB; exact rfl; apply w_block; exact rfl) | skip)
  apply (w_loop (σ := (Nat × Nat) × List Nat × Value) rfl (fun j => [(1, U x), (2, N count), (8, j.2.2), (9, U least), (10, U j.1.2)])
    (fun j h' => Ext h h' ∧ (if j.2.1.length < count then srG isR least x count j.1.1 j.2.1 = r else some j.2.1 = r) ∧ j.1.2 = j.1.1 * x + 1 ∧ j.1.2 ≤ 2 * least - 1 ∧ OwnF h' h.size 22 U j.2.2 j.2.1 ∧ j.2.1.length ≤ count) (fun j => j.1.1 + (if j.2.1.length < count then 1 else 0)) ((k0, k0 * x + 1), [], .slice none 0 0))
  · exact (Sub.cons rfl (Sub.cons rfl (Sub.cons rfl (Sub.cons rfl (Sub.cons rfl (Sub.nil _))))))
  · exact ⟨Ext.refl _, by dsimp only; rw [if_pos (show ([] : List Nat).length < count from hc1)]; exact hr, rfl, by dsimp only; omega, OwnF.nil _ _ _ _, Nat.zero_le _⟩
  clear hr
  rintro ⟨⟨k, c⟩, out, v⟩ h1 ⟨e1, hr, hck, c1, o1, lo1⟩
  dsimp only at e1 hr hck c1 o1 lo1 ⊢
  refine runJ ?_
  (apply w_condD; exact rfl; exact rfl) <;> intro hlt
  · rw [if_pos hlt] at hr
    refine runJ ?_
    (apply w_condD; exact rfl; exact rfl) <;> intro hcl
    · have hn : r = none := by
        rw [← hr]
        cases k with
        | zero => rfl
        | succ k => unfold srG; rw [if_pos (by rw [← hck]; exact hcl)]
      subst hn
      refine runJ ?_
      exact fin2 rfl rfl rfl ⟨e1, rfl⟩
    cases k with
    | zero => exact absurd (show c ≤ least by omega) hcl
    | succ k =>
    unfold srG at hr
    rw [← hck, if_neg hcl] at hr
    have hcx : x < c := by rw [hck, Nat.add_mul]; omega
    have hck2 : c - x = k * x + 1 := by rw [hck, Nat.add_mul]; omega
    refine runJ ?_
    apply (s_call Tryd_ent13 rfl rfl rfl)
    refine (refIs_spec c h1 (by omega)).mono ?_
    rintro _ h2 ⟨rfl, e2⟩
    refine ⟨(by first | exact trivial | exact trivial), ?_⟩
    have e12 := e1.trans e2
    have o2 := o1.ext e2
    refine runJ ?_
    apply (w_tcut (σ := List Nat × Value) (fun j => [(1, U x), (2, N count), (8, j.2), (9, U least), (10, U c)]) (fun j h' => Ext h h' ∧ OwnF h' h.size 22 U j.2 j.1 ∧ j.1.length ≤ count ∧ j.1 = if isR c then out ++ [c] else out))
    · (apply w_cond; exact rfl; exact rfl) <;> intro hi
      · have hi : isR c = true := by simpa using hi
        refine runJ ?_
        (refine s_app1 (bytes := 8) (c) o2 e12 rfl rfl rfl rfl rfl rfl rfl rfl rfl (by first | exact rfl | exact congrArg some (congrArg I (by omega))) (fun _ => rfl) rfl rfl (fun _ _ => trivial) (by omega) (by simp only [maxLen]; omega) ?_)
        intro v3 h3 o3 e3 k3 b3
        refine runJ ?_
        apply cut_normal (out ++ [c], v3)
        · exact (Sub.cons rfl (Sub.cons rfl (Sub.cons rfl (Sub.cons rfl (Sub.cons rfl (Sub.nil _))))))
        · exact ⟨e3, o3, by rw [List.length_append]; simp; omega, by rw [if_pos hi]⟩
      · have hi : ¬ isR c = true := by simpa using hi
        refine runJ ?_
        apply cut_normal (out, v)
        · exact (Sub.cons rfl (Sub.cons rfl (Sub.cons rfl (Sub.cons rfl (Sub.cons rfl (Sub.nil _))))))
        · exact ⟨e12, o2, lo1, by rw [if_neg hi]⟩
    rintro ⟨out', v'⟩ h3 ⟨e3, o3, l3, q3⟩
    dsimp only at e3 o3 l3 q3 ⊢
    refine runJ ?_
    (apply w_condD; exact rfl; exact rfl) <;> intro hcx2
    · omega
    · refine runJ ?_
      apply again_normal ((k, c - x), out', v')
      · exact (Sub.cons rfl (Sub.cons rfl (Sub.cons rfl (Sub.cons rfl (Sub.cons rfl (Sub.nil _))))))
      · refine ⟨e3, ?_, hck2, by dsimp only; omega, o3, l3⟩
        dsimp only
        by_cases hi : isR c = true
        · rw [if_pos hi] at hr q3
          subst q3
          rw [List.length_append, List.length_singleton]
          by_cases he : out.length + 1 = count
          · rw [if_pos he] at hr
            rw [if_neg (by omega)]
            exact hr
          · rw [if_neg he] at hr
            rw [if_pos (by omega)]
            exact hr
        · rw [if_neg hi] at hr q3
          subst q3
          rw [if_pos hlt]
          exact hr
      · dsimp only
        rw [if_pos hlt]
        split <;> omega
  · rw [if_neg hlt] at hr
    subst hr
    refine runJ ?_
    exact fin2 rfl rfl rfl ⟨e1, v, rfl, o1⟩
theorem refSearchNo_spec (b count : Int) (x : Nat) (h : Hp) (hx : x < 18446744073709551616) (hb : -9223372036854775808 ≤ b ∧ b < 9223372036854775808) (hc : -9223372036854775808 ≤ count ∧ count < 9223372036854775808) (hno : ¬ srchOk b x count) :
    CallsH Tryd.prog 7 [I b, U x, I count] h fun v' h' => v' = .tuple #[.slice none 0 0, N 1] ∧ h = h' := by
  unfold srchOk at hno
  have SS := refStepG_spec x h hx
  (apply enter Tryd.func7 rfl Tryd.ntmps7 rfl)
  refine runJ ?_
  (apply s_splitG; exact rfl; exact rfl; exact rfl; exact rfl) <;> intro g1
  · refine runJ ?_
    exact fin2 rfl rfl rfl ⟨rfl, rfl⟩
  refine runJ ?_
  (apply s_splitG; exact rfl; exact rfl; exact rfl; exact rfl) <;> intro g2
  · refine runJ ?_
    exact fin2 rfl rfl rfl ⟨rfl, rfl⟩
  refine runJ ?_
  apply (s_call Tryd_ent12 rfl rfl rfl)
  refine (SS).mono ?_
  rintro _ _ ⟨rfl, rfl⟩
  refine ⟨(by first | exact trivial | exact Ext.refl _ | assumption | exact Ext.trans (by assumption) (by assumption)), ?_⟩
  cases hp : pows13.contains x with
  | false =>
    refine runJ ?_
    exact fin2 rfl rfl rfl ⟨rfl, rfl⟩
  | true =>
    refine runJ ?_
    (apply s_splitG; exact rfl; exact rfl; exact rfl; exact rfl) <;> intro g3
    · refine runJ ?_
      exact fin2 rfl rfl rfl ⟨rfl, rfl⟩
    refine runJ ?_
    have h16 : 16 < count := Classical.byContradiction fun hc => hno ⟨by omega, by omega, hp, by omega, by omega⟩
    (apply w_condT; exact rfl; exact rfl; exact h16)
    refine runJ ?_
    exact fin2 rfl rfl rfl ⟨rfl, rfl⟩
end Go.Proofs.YtbhhagdnbkkjpaaDoor

/- Roots of what is found: half powers; the fixed roots; which words are steps. No program beside what tells roots. -/
namespace Go.Proofs.YtbhhagdnbkkjpaaDoor
set_option linter.unusedVariables false
set_option maxRecDepth 8000
open Go Go.Mth

theorem sq_one {q : Nat} (hq : 2 < q) : (q - 1) * (q - 1) % q = 1 := by
  have e : (q - 1) * (q - 1) = q * (q - 2) + 1 := by
    obtain ⟨c, rfl⟩ : ∃ c, q = c + 2 := ⟨q - 2, by omega⟩
    show (c + 1) * (c + 1) = (c + 2) * c + 1
    grind
  rw [e, Nat.mul_add_mod]
  exact Nat.mod_eq_of_lt (by omega)
theorem odd_neg {q : Nat} (hq : 2 < q) : ∀ j, (q - 1) ^ (2 * j + 1) % q = q - 1
  | 0 => by rw [Nat.mul_zero, Nat.zero_add, Nat.pow_one]; exact Nat.mod_eq_of_lt (by omega)
  | j + 1 => by
    rw [show 2 * (j + 1) + 1 = (2 * j + 1) + 1 + 1 by omega, Nat.pow_succ, Nat.pow_succ, Nat.mul_assoc, Nat.mul_mod, odd_neg hq j, sq_one hq, Nat.mul_one]
    exact Nat.mod_eq_of_lt (by omega)
theorem root_half {q n r : Nat} (hq : 2 < q) (h : RootR q n r) : powm r (n / 2) q = q - 1 := by
  obtain ⟨-, w, hw, h1, ⟨j, -, rfl⟩, -⟩ := h
  have hq0 : q ≠ 0 := by omega
  unfold powm at h1 ⊢
  rw [if_neg hq0] at h1 ⊢
  rw [← Nat.pow_mod, ← Nat.pow_mul, Nat.mul_comm (2 * j + 1), Nat.pow_mul, Nat.pow_mod, h1]
  exact odd_neg hq j
theorem root17 : ∀ w, w < 17 → powm w 4 17 = 16 → (∃ j, j < 4 ∧ w ^ (2 * j + 1) % 17 = 2) ∧ ∀ j, j < 4 → 2 ≤ w ^ (2 * j + 1) % 17 := by decide +kernel
theorem root97 : ∀ w, w < 97 → powm w 16 97 = 96 → (∃ j, j < 16 ∧ w ^ (2 * j + 1) % 97 = 19) ∧ ∀ j, j < 16 → 19 ≤ w ^ (2 * j + 1) % 97 := by decide +kernel
theorem rootR17 {r : Nat} (h : RootR 17 8 r) : r = 2 := by
  obtain ⟨-, w, hw, h1, ⟨j, hj, h2⟩, h3⟩ := h
  obtain ⟨⟨i, hi, e⟩, g⟩ := root17 w hw h1
  have a := h3 i hi
  have b := g j hj
  omega
theorem rootR97 {r : Nat} (h : RootR 97 32 r) : r = 19 := by
  obtain ⟨-, w, hw, h1, ⟨j, hj, h2⟩, h3⟩ := h
  obtain ⟨⟨i, hi, e⟩, g⟩ := root97 w hw h1
  have a := h3 i hi
  have b := g j hj
  omega
theorem steps_ok : ∀ n, n < 8193 → (Nat.blt (oc n) 9223372036854775808 && (Nat.beq (oc n &&& 127) 1 == pows13.contains n || Nat.blt n 2)) = true := by
  have h : ((List.range 8193).all fun n => (Nat.blt (oc n) 9223372036854775808 && (Nat.beq (oc n &&& 127) 1 == pows13.contains n || Nat.blt n 2))) = true := by decide +kernel
  intro n hn
  exact List.all_eq_true.1 h n (List.mem_range.2 hn)
theorem step_oc {n : Nat} (h2 : 2 ≤ n) (h : n ≤ 8192) : oc n < 9223372036854775808 ∧ (oc n &&& 127 = 1 ↔ pows13.contains n = true) := by
  have := steps_ok n (by omega)
  rw [Bool.and_eq_true, Bool.or_eq_true] at this
  obtain ⟨a, b⟩ := this
  have a : oc n < 9223372036854775808 := Nat.le_of_ble_eq_true a
  refine ⟨a, ?_⟩
  rcases b with b | b
  · have b := eq_of_beq b
    constructor
    · intro e; rw [← b, e]; rfl
    · intro e; rw [e] at b; exact Nat.eq_of_beq_eq_true b
  · have := Nat.le_of_ble_eq_true b
    omega
theorem step_big {n : Nat} (h : n < 2 ∨ 8192 < n) : pows13.contains n = false := pows_not fun i h1 h2 e => by
  have a : 2 ^ 1 ≤ 2 ^ i := Nat.pow_le_pow_right (by decide) h1
  have b : 2 ^ i ≤ 2 ^ 13 := Nat.pow_le_pow_right (by decide) (by omega)
  have c : (2 : Nat) ^ 1 = 2 := by decide
  have d : (2 : Nat) ^ 13 = 8192 := by decide
  omega
/-- The same search by both tests, and what it finds. -/
theorem srch_same {b x count : Nat} (h1 : 4 ≤ b) (h2 : b ≤ 61) (hx : pows13.contains x = true) (c1 : 1 ≤ count) (c2 : count ≤ 16) :
    srG isB (2 ^ (b - 1)) x count ((2 * 2 ^ (b - 1) - 2) / x) [] = srG isR (2 ^ (b - 1)) x count ((2 * 2 ^ (b - 1) - 2) / x) [] ∧
    ∀ l, srG isB (2 ^ (b - 1)) x count ((2 * 2 ^ (b - 1) - 2) / x) [] = some l → l.length = count ∧ l.Pairwise (· > ·) ∧ ∀ q ∈ l, FoundP x q := by
  obtain ⟨l1, l2, x1, x2, x3⟩ := srch_nums h1 h2 hx
  have ht := tbl_all (b - 4) (by omega)
  rw [show b - 4 + 3 = b - 1 by omega] at ht
  have hm : x ∈ pows13 := List.contains_iff_mem.1 hx
  have ha : agr (2 ^ (b - 1)) x 4000 ((2 * 2 ^ (b - 1) - 2) / x) 16 = true := List.all_eq_true.1 ht x hm
  have hd := Nat.div_mul_le_self (2 * 2 ^ (b - 1) - 2) x
  obtain ⟨g1, g2⟩ := agr_eq (count := count) x3 x1 (by omega) 4000 _ 16 [] (by omega) ha (by simpa using c2) (show 0 < count from c1)
  refine ⟨g1, fun l hl => ?_⟩
  obtain ⟨i1, l', i2, i3, i4⟩ := g2 l hl
  rw [List.nil_append] at i2
  subst i2
  exact ⟨i1, i3, fun q hq => (i4 q hq).1⟩
theorem srch_fix : srG isB 128 16 2 15 [] = some [241, 193] := by decide +kernel
end Go.Proofs.YtbhhagdnbkkjpaaDoor

/- Package prime: which words are steps; the search, told exactly. Condition: the table of math/bits reads as it is laid. -/
namespace Go.Proofs.YtbhhagdnbkkjpaaDoor
set_option linter.unusedVariables false
set_option maxRecDepth 8000
open Go Go.Den Go.RowKit Go.Mth

set_option maxHeartbeats 1000000 in
theorem pstepG_spec (n : Nat) (h : Hp) (hn : n < 18446744073709551616) : CallsH Tryd.prog 11 [U n] h fun v' h' => v' = .bool (pows13.contains n) ∧ h = h' := by
  (apply enter Tryd.func11 rfl Tryd.ntmps11 rfl)
  refine runJ ?_
  (apply s_splitG; exact rfl; exact rfl; exact rfl; exact rfl) <;> intro g1
  · refine runJ ?_
    (apply s_splitG; exact rfl; exact rfl; exact rfl; exact rfl) <;> intro g2
    · obtain ⟨o1, o2⟩ := step_oc (n := n) (by omega) (by omega)
      have hd : decide (oc n &&& 127 = 1) = pows13.contains n := by
        cases hc : pows13.contains n with
        | true => exact decide_eq_true (o2.2 hc)
        | false => exact decide_eq_false fun e => by rw [o2.1 e] at hc; cases hc
      refine runJ ?_
      apply (s_call Tryd_ent20 rfl rfl rfl)
      refine (ones_spec n h hn o1).mono ?_
      rintro _ _ ⟨rfl, rfl⟩
      refine ⟨(by first | exact trivial | exact Ext.refl _ | assumption | exact Ext.trans (by assumption) (by assumption)), ?_⟩
      refine runJ ?_
      exact fin1 rfl rfl ⟨congrArg Value.bool hd, rfl⟩
    · refine runJ ?_
      exact fin1 rfl rfl ⟨by rw [step_big (.inr (by omega))], rfl⟩
  · refine runJ ?_
    exact fin1 rfl rfl ⟨by rw [step_big (.inl (by omega))], rfl⟩
end Go.Proofs.YtbhhagdnbkkjpaaDoor

/- Bytes: quotients, words cut to bytes. No condition. -/
namespace Go.Den
set_option linter.unusedVariables false
set_option maxRecDepth 8000
open Go Go.RowKit

/-- A byte. -/
abbrev Y (x : Nat) : Value := .int .u8 ((x : Nat) : Int)
section rules
variable {P : Program} {n : Nat} {Q : Post} {l : Fr} {h : Hp} {ops : List Oper} {Ch : Hp → Prop} {E : Nat → Bool} {i d : Nat} {x y : Operand}
theorem s_quoU8 {a b : Nat} {t yt : TypeId} (hx : IsK (ev l x) .u8 a) (hy : IsK (ev l y) .u8 b) (hb : Nat.blt d n = true) (hn : 0 < b ∧ a < 256)
    (q : S P n ops Ch E Q (i + 1) ((d, .int .u8 ((a / b : Nat) : Int)) :: l) h) : O P n ops Ch E Q i d (.binOp .quo t x y yt) l h :=
  s_bin hx.h hy.h hb (fun w' => by
    show (Op.intDiv .quo .u8 (a : Int) (b : Int)).run P w' = _
    unfold Op.intDiv
    rw [if_neg (by omega)]
    show Result.ok (Value.int .u8 (IntKind.u8.wrap ((a : Int).tdiv b))) w' = _
    rw [← Int.ofNat_tdiv]
    have h1 : a / b ≤ a := Nat.div_le_self _ _
    have h2 : IntKind.u8.wrap ((a / b : Nat) : Int) = ((a / b : Nat) : Int) := by
      generalize a / b = c at *
      show ((c : Int) % 256) = _
      exact Int.emod_eq_of_lt (by omega) (by omega)
    rw [h2]) q
theorem s_convY {src dst : TypeId} {k0 : IntKind} {a : Nat} {u : TypeDesc} (hx : IsK (ev l x) k0 a) (hs : P.underlying src = some u) (hd : P.underlying dst = some (.int .u8)) (hb : Nat.blt d n = true)
    (k : S P n ops Ch E Q (i + 1) ((d, Y (a % 256)) :: l) h) : O P n ops Ch E Q i d (.convert src dst x) l h :=
  s_conv hx.h hs hd hb (by
    have h2 : IntKind.u8.wrap (a : Int) = ((a % 256 : Nat) : Int) := by
      show ((a : Int) % 256) = _
      rw [Int.natCast_emod]; rfl
    rw [h2]; exact k)
end rules
/-- A function without results. -/
theorem fin0n {P : Program} {n : Nat} {fn : Func} {R : Value → Hp → Prop} {l : Fr} {h : Hp} (hr : fn.results = #[]) (k : R (.tuple #[]) h) : At (Fin P n fn R) .normal l h :=
  ⟨⟨_, fun a w hf _ => by simp [results, hr], k⟩⟩
theorem fin0r {P : Program} {n : Nat} {fn : Func} {R : Value → Hp → Prop} {l : Fr} {h : Hp} (hr : fn.results = #[]) (k : R (.tuple #[]) h) : At (Fin P n fn R) .ret l h :=
  ⟨⟨_, fun a w hf _ => by simp [results, hr], k⟩⟩
end Go.Den
