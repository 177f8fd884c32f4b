/- Texts Mth to NttA of this work, joined, without what the law does not lean on. -/
import Derived.Test.YtfcmdefigldpnaaGreatDoorMCb12
import Derived.Laws.World
namespace Go.Mth

def Cg (q a b : Int) : Prop := ∃ k, a = b + q * k
section
variable {q a b c d : Int}
theorem Cg.refl (q a : Int) : Cg q a a := ⟨0, by omega⟩
theorem Cg.of_eq (h : a = b) : Cg q a b := ⟨0, by omega⟩
theorem Cg.symm (h : Cg q a b) : Cg q b a := by
  obtain ⟨k, h⟩ := h
  exact ⟨-k, by rw [h, Int.mul_neg]; omega⟩
theorem Cg.trans (h : Cg q a b) (k : Cg q b c) : Cg q a c := by
  obtain ⟨x, h⟩ := h
  obtain ⟨y, k⟩ := k
  exact ⟨x + y, by rw [h, k, Int.mul_add]; omega⟩
theorem Cg.add (h : Cg q a b) (k : Cg q c d) : Cg q (a + c) (b + d) := by
  obtain ⟨x, h⟩ := h
  obtain ⟨y, k⟩ := k
  exact ⟨x + y, by rw [h, k, Int.mul_add]; omega⟩
theorem Cg.neg (h : Cg q a b) : Cg q (-a) (-b) := by
  obtain ⟨x, h⟩ := h
  exact ⟨-x, by rw [h, Int.mul_neg]; omega⟩
theorem Cg.sub (h : Cg q a b) (k : Cg q c d) : Cg q (a - c) (b - d) := by
  rw [Int.sub_eq_add_neg, Int.sub_eq_add_neg]; exact h.add k.neg
theorem Cg.mul (h : Cg q a b) (k : Cg q c d) : Cg q (a * c) (b * d) := by
  obtain ⟨x, h⟩ := h
  obtain ⟨y, k⟩ := k
  refine ⟨b * y + x * d + x * q * y, ?_⟩
  subst h; subst k; grind
theorem Cg.pow (h : Cg q a b) : ∀ n : Nat, Cg q (a ^ n) (b ^ n)
  | 0 => by rw [Int.pow_zero, Int.pow_zero]; exact Cg.refl _ _
  | n + 1 => by rw [Int.pow_succ, Int.pow_succ]; exact (h.pow n).mul h
theorem Cg.mod (q a : Int) : Cg q (a % q) a := ⟨-(a / q), by have := Int.emod_add_mul_ediv a q; rw [Int.mul_neg]; omega⟩
theorem Cg.q0 (q : Int) : Cg q q 0 := ⟨1, by omega⟩
theorem Cg.eq (h : Cg q a b) (h1 : 0 ≤ a) (h2 : a < q) (h3 : 0 ≤ b) (h4 : b < q) : a = b := by
  obtain ⟨k, h⟩ := h
  have : k = 0 := by
    rcases Int.lt_trichotomy k 0 with hk | hk | hk
    · have := Int.mul_le_mul_of_nonneg_left (show k ≤ -1 by omega) (show 0 ≤ q by omega)
      omega
    · exact hk
    · have := Int.mul_le_mul_of_nonneg_left (show 1 ≤ k by omega) (show 0 ≤ q by omega)
      omega
  subst this
  omega
theorem Cg.eqN {q a b : Nat} (h : Cg q a b) (h2 : a < q) (h4 : b < q) : a = b := by
  have := h.eq (by omega) (by omega) (by omega) (by omega)
  omega
end

def sm : Nat → (Nat → Int) → Int
  | 0, _ => 0
  | n + 1, f => sm n f + f n
theorem sm_congr {f g : Nat → Int} : ∀ n, (∀ j, j < n → f j = g j) → sm n f = sm n g
  | 0, _ => rfl
  | n + 1, h => by unfold sm; rw [sm_congr n fun j hj => h j (by omega), h n (by omega)]
theorem sm_cg {q : Int} {f g : Nat → Int} : ∀ n, (∀ j, j < n → Cg q (f j) (g j)) → Cg q (sm n f) (sm n g)
  | 0, _ => Cg.refl _ _
  | n + 1, h => by unfold sm; exact (sm_cg n fun j hj => h j (by omega)).add (h n (by omega))
theorem sm_add {f g : Nat → Int} : ∀ n, sm n (fun j => f j + g j) = sm n f + sm n g
  | 0 => rfl
  | n + 1 => by unfold sm; rw [sm_add n]; dsimp only; omega
theorem sm_sub {f g : Nat → Int} : ∀ n, sm n (fun j => f j - g j) = sm n f - sm n g
  | 0 => rfl
  | n + 1 => by unfold sm; rw [sm_sub n]; dsimp only; omega
theorem sm_mul {f : Nat → Int} (c : Int) : ∀ n, sm n (fun j => c * f j) = c * sm n f
  | 0 => by unfold sm; rw [Int.mul_zero]
  | n + 1 => by unfold sm; rw [sm_mul c n, Int.mul_add]
theorem sm_mulR {f : Nat → Int} (c : Int) (n : Nat) : sm n (fun j => f j * c) = sm n f * c := by
  rw [Int.mul_comm, ← sm_mul]; exact sm_congr n fun j _ => Int.mul_comm _ _
theorem sm_zero : ∀ n, sm n (fun _ => 0) = 0
  | 0 => rfl
  | n + 1 => by unfold sm; rw [sm_zero n]; rfl
theorem sm_one : ∀ n : Nat, sm n (fun _ => 1) = n
  | 0 => rfl
  | n + 1 => by unfold sm; rw [sm_one n]; dsimp only; omega
theorem sm_app {f : Nat → Int} (m : Nat) : ∀ n, sm (m + n) f = sm m f + sm n (fun j => f (m + j))
  | 0 => by rw [Nat.add_zero]; show _ = sm m f + 0; omega
  | n + 1 => by
    show sm (m + n) f + f (m + n) = sm m f + (sm n (fun j => f (m + j)) + f (m + n))
    rw [sm_app m n]; omega
theorem sm_two {f : Nat → Int} : ∀ n, sm (2 * n) f = sm n (fun j => f (2 * j)) + sm n (fun j => f (2 * j + 1))
  | 0 => rfl
  | n + 1 => by
    rw [show 2 * (n + 1) = 2 * n + 1 + 1 by omega]
    show sm (2 * n) f + f (2 * n) + f (2 * n + 1) = (sm n (fun j => f (2 * j)) + f (2 * n)) + (sm n (fun j => f (2 * j + 1)) + f (2 * n + 1))
    rw [sm_two n]; omega
theorem sm_swap {f : Nat → Nat → Int} (m : Nat) : ∀ n, sm n (fun i => sm m (f i)) = sm m (fun j => sm n (fun i => f i j))
  | 0 => by simp only [sm]; rw [sm_zero]
  | n + 1 => by
    show sm n (fun i => sm m (f i)) + sm m (f n) = sm m (fun j => sm n (fun i => f i j) + f n j)
    rw [sm_swap m n, sm_add]
theorem sm_single {f : Nat → Int} {i : Nat} : ∀ n, i < n → (∀ j, j < n → j ≠ i → f j = 0) → sm n f = f i
  | 0, h, _ => by omega
  | n + 1, h, k => by
    unfold sm
    by_cases hi : i = n
    · subst hi
      rw [sm_congr i (g := fun _ => 0) fun j hj => k j (by omega) (by omega), sm_zero]; omega
    · rw [sm_single n (by omega) fun j hj hne => k j (by omega) hne, k n (by omega) (by omega)]; omega

theorem sm_alt {q : Int} {f : Nat → Int} {h : Nat} (k : ∀ j, Cg q (f (h + j)) (-(f j))) : ∀ M, Cg q (sm (h * (2 * M)) f) 0
  | 0 => Cg.refl _ _
  | M + 1 => by
    rw [show h * (2 * (M + 1)) = h * (2 * M) + (h + h) by rw [show 2 * (M + 1) = 2 * M + 1 + 1 by omega, Nat.mul_add, Nat.mul_add]; omega, sm_app, sm_app h h]
    have k2 : ∀ m j, Cg q (f (h * (2 * m) + j)) (f j) := by
      intro m
      induction m with
      | zero => intro j; exact Cg.of_eq (congrArg f (by simp))
      | succ m ih =>
        intro j
        rw [show h * (2 * (m + 1)) + j = h + (h + (h * (2 * m) + j)) by rw [show 2 * (m + 1) = 2 * m + 1 + 1 by omega, Nat.mul_add, Nat.mul_add]; omega]
        exact ((k _).trans (k _).neg).trans ((Cg.of_eq (Int.neg_neg _)).trans (ih j))
    have e1 : Cg q (sm h (fun j => f (h * (2 * M) + j))) (sm h f) := sm_cg h fun j _ => k2 M j
    have e2 : Cg q (sm h (fun j => f (h * (2 * M) + (h + j)))) (-(sm h f)) := by
      have := sm_cg (q := q) (f := fun j => f (h * (2 * M) + (h + j))) (g := fun j => (-1) * f j) h fun j _ => (k2 M _).trans ((k j).trans (Cg.of_eq (by omega)))
      rw [sm_mul] at this
      exact this.trans (Cg.of_eq (by omega))
    have := (sm_alt k M).add (e1.add e2)
    exact this.trans (Cg.of_eq (by omega))

theorem two_odd : ∀ (L d : Nat), 0 < d → d < 2 ^ L → ∃ v o, v < L ∧ d = 2 ^ v * (2 * o + 1)
  | 0, d, h, k => by rw [Nat.pow_zero] at k; omega
  | L + 1, d, h, k => by
    by_cases hd : d % 2 = 1
    · exact ⟨0, d / 2, by omega, by rw [Nat.pow_zero]; omega⟩
    · obtain ⟨v, o, h1, h2⟩ := two_odd L (d / 2) (by omega) (by rw [Nat.pow_succ] at k; omega)
      exact ⟨v + 1, o, by omega, by rw [Nat.pow_succ, Nat.mul_comm _ 2, Nat.mul_assoc, ← h2]; omega⟩

theorem pow_odd {q w : Int} {n : Nat} (hw : Cg q (w ^ n) (-1)) (o : Nat) : Cg q (w ^ (n * (2 * o + 1))) (-1) := by
  rw [Int.pow_mul]
  refine (hw.pow _).trans (Cg.of_eq ?_)
  rw [Int.pow_succ, Int.pow_mul]; simp [Int.one_pow]

theorem sm_root {q w : Int} {L d e : Nat} (hw : Cg q (w ^ (2 ^ L)) (-1)) (h0 : 0 < d) (hd : d < 2 ^ L) : Cg q (sm (2 ^ L) fun k => w ^ (d * (2 * k + e))) 0 := by
  obtain ⟨v, o, h1, h2⟩ := two_odd L d h0 hd
  obtain ⟨m, rfl⟩ : ∃ m, L = v + (m + 1) := ⟨L - v - 1, by omega⟩
  have := sm_alt (q := q) (f := fun k => w ^ (d * (2 * k + e))) (h := 2 ^ m) (fun j => by
    show Cg q (w ^ (d * (2 * (2 ^ m + j) + e))) (-(w ^ (d * (2 * j + e))))
    rw [show d * (2 * (2 ^ m + j) + e) = 2 ^ (v + (m + 1)) * (2 * o + 1) + d * (2 * j + e) by
      rw [show 2 * (2 ^ m + j) + e = 2 * 2 ^ m + (2 * j + e) by omega, Nat.mul_add]
      congr 1
      rw [h2, Nat.pow_add, Nat.pow_succ, Nat.mul_comm (2 ^ m) 2, Nat.mul_assoc, Nat.mul_assoc, Nat.mul_comm (2 * o + 1)], Int.pow_add]
    exact ((pow_odd hw o).mul (Cg.refl _ _)).trans (Cg.of_eq (by omega))) (2 ^ v)
  rw [show 2 ^ m * (2 * 2 ^ v) = 2 ^ (v + (m + 1)) by rw [Nat.pow_add, Nat.pow_succ, Nat.mul_comm 2, ← Nat.mul_assoc, Nat.mul_comm (2 ^ m), Nat.mul_assoc]] at this
  exact this

def dft (n : Nat) (w : Int) (a : Nat → Int) (k : Nat) : Int := sm n fun j => a j * w ^ (j * (2 * k + 1))
def idft (n : Nat) (u p : Int) (v : Nat → Int) (i : Nat) : Int := p * (u ^ i * sm n fun k => v k * u ^ (2 * (i * k)))
theorem dft_cg {q w : Int} {n : Nat} {a b : Nat → Int} (h : ∀ j, j < n → Cg q (a j) (b j)) (k : Nat) : Cg q (dft n w a k) (dft n w b k) :=
  sm_cg n fun j hj => (h j hj).mul (Cg.refl _ _)
theorem idft_cg {q u p : Int} {n : Nat} {a b : Nat → Int} (h : ∀ j, j < n → Cg q (a j) (b j)) (i : Nat) : Cg q (idft n u p a i) (idft n u p b i) :=
  (Cg.refl _ _).mul ((Cg.refl _ _).mul (sm_cg n fun j hj => (h j hj).mul (Cg.refl _ _)))

section
variable {q w u p : Int} {L : Nat}
theorem uw_pow (huw : Cg q (u * w) 1) (i : Nat) : Cg q (u ^ i * w ^ i) 1 := by
  rw [← Int.mul_pow]; exact (huw.pow i).trans (Cg.of_eq Int.one_pow)
theorem u_root (huw : Cg q (u * w) 1) {n : Nat} (hw : Cg q (w ^ n) (-1)) : Cg q (u ^ n) (-1) := by
  have h1 := uw_pow huw n
  have h2 := (Cg.refl q (u ^ n)).mul hw
  exact ((Cg.of_eq (by omega)).trans (h2.symm.trans h1).neg)

theorem sm_uw (hw : Cg q (w ^ (2 ^ L)) (-1)) (huw : Cg q (u * w) 1) {i j : Nat} (hi : i < 2 ^ L) (hj : j < 2 ^ L) (hne : j ≠ i) (e : Nat) : Cg q (sm (2 ^ L) fun k => u ^ (i * (2 * k + e)) * w ^ (j * (2 * k + e))) 0 := by
  rcases Nat.lt_or_gt_of_ne hne with h | h
  · obtain ⟨d, rfl⟩ : ∃ d, i = d + j := ⟨i - j, by omega⟩
    refine (sm_cg _ fun k _ => ?_).trans (sm_root (u_root huw hw) (d := d) (e := e) (by omega) (by omega))
    rw [Nat.add_mul, Int.pow_add, Int.mul_assoc]
    exact ((Cg.refl _ _).mul (uw_pow huw _)).trans (Cg.of_eq (Int.mul_one _))
  · obtain ⟨d, rfl⟩ : ∃ d, j = d + i := ⟨j - i, by omega⟩
    refine (sm_cg _ fun k _ => ?_).trans (sm_root hw (d := d) (e := e) (by omega) (by omega))
    rw [Nat.add_mul, Int.pow_add, Int.mul_comm (w ^ _), ← Int.mul_assoc]
    exact ((uw_pow huw _).mul (Cg.refl _ _)).trans (Cg.of_eq (Int.one_mul _))

theorem idft_dft (hw : Cg q (w ^ (2 ^ L)) (-1)) (huw : Cg q (u * w) 1) (hp : Cg q (((2 ^ L : Nat) : Int) * p) 1) (a : Nat → Int) {i : Nat} (hi : i < 2 ^ L) :
    Cg q (idft (2 ^ L) u p (dft (2 ^ L) w a) i) (a i) := by
  unfold idft dft
  have e : u ^ i * sm (2 ^ L) (fun k => sm (2 ^ L) (fun j => a j * w ^ (j * (2 * k + 1))) * u ^ (2 * (i * k)))
      = sm (2 ^ L) fun j => a j * sm (2 ^ L) fun k => u ^ (i * (2 * k + 1)) * w ^ (j * (2 * k + 1)) := by
    rw [← sm_mul]
    rw [sm_congr (2 ^ L) (g := fun k => sm (2 ^ L) fun j => a j * (u ^ (i * (2 * k + 1)) * w ^ (j * (2 * k + 1)))) (fun k _ => by
      rw [← sm_mulR, ← sm_mul]
      refine sm_congr _ fun j _ => ?_
      rw [show i * (2 * k + 1) = 2 * (i * k) + i by rw [Nat.mul_add, Nat.mul_one, Nat.mul_left_comm], Int.pow_add]
      grind), sm_swap]
    exact sm_congr _ fun j _ => sm_mul _ _
  rw [e]
  have hs : Cg q (sm (2 ^ L) fun j => a j * sm (2 ^ L) fun k => u ^ (i * (2 * k + 1)) * w ^ (j * (2 * k + 1))) (a i * ((2 ^ L : Nat) : Int)) := by
    have := sm_single (f := fun j => if j = i then a i * ((2 ^ L : Nat) : Int) else 0) (i := i) (2 ^ L) hi (fun j _ hne => by simp [hne])
    simp only [if_true] at this
    rw [← this]
    refine sm_cg _ fun j hj => ?_
    by_cases hji : j = i
    · subst hji
      rw [if_pos rfl]
      refine (Cg.refl _ _).mul ?_
      rw [← sm_one]
      exact sm_cg _ fun k _ => uw_pow huw _
    · rw [if_neg hji]
      exact ((Cg.refl _ _).mul (sm_uw hw huw hi hj hji 1)).trans (Cg.of_eq (Int.mul_zero _))
  refine ((Cg.refl q p).mul hs).trans ?_
  refine (Cg.of_eq (show p * (a i * ((2 ^ L : Nat) : Int)) = a i * (((2 ^ L : Nat) : Int) * p) by grind)).trans (((Cg.refl q (a i)).mul hp).trans (Cg.of_eq (Int.mul_one _)))

theorem dft_idft (hw : Cg q (w ^ (2 ^ L)) (-1)) (huw : Cg q (u * w) 1) (hp : Cg q (((2 ^ L : Nat) : Int) * p) 1) (v : Nat → Int) {k : Nat} (hk : k < 2 ^ L) :
    Cg q (dft (2 ^ L) w (idft (2 ^ L) u p v) k) (v k) := by
  unfold idft dft
  have e : sm (2 ^ L) (fun j => p * (u ^ j * sm (2 ^ L) fun i => v i * u ^ (2 * (j * i))) * w ^ (j * (2 * k + 1)))
      = p * sm (2 ^ L) fun i => v i * sm (2 ^ L) fun j => u ^ (j * (2 * i + 1)) * w ^ (j * (2 * k + 1)) := by
    rw [sm_congr (2 ^ L) (g := fun j => p * sm (2 ^ L) fun i => v i * (u ^ (j * (2 * i + 1)) * w ^ (j * (2 * k + 1)))) (fun j _ => by
      rw [Int.mul_assoc]
      congr 1
      rw [← sm_mul, ← sm_mulR]
      refine sm_congr _ fun i _ => ?_
      rw [show j * (2 * i + 1) = 2 * (j * i) + j by rw [Nat.mul_add, Nat.mul_one, Nat.mul_left_comm], Int.pow_add]
      grind), sm_mul, sm_swap]
    exact congrArg _ (sm_congr _ fun j _ => sm_mul _ _)
  rw [e]
  have hs : Cg q (sm (2 ^ L) fun i => v i * sm (2 ^ L) fun j => u ^ (j * (2 * i + 1)) * w ^ (j * (2 * k + 1))) (v k * ((2 ^ L : Nat) : Int)) := by
    have := sm_single (f := fun j => if j = k then v k * ((2 ^ L : Nat) : Int) else 0) (i := k) (2 ^ L) hk (fun j _ hne => by simp [hne])
    simp only [if_true] at this
    rw [← this]
    refine sm_cg _ fun i hi => ?_
    by_cases hik : i = k
    · subst hik
      rw [if_pos rfl]
      refine (Cg.refl _ _).mul ?_
      rw [← sm_one]
      exact sm_cg _ fun j _ => uw_pow huw _
    · rw [if_neg hik]
      refine ((Cg.refl _ _).mul ?_).trans (Cg.of_eq (Int.mul_zero _))
      rcases Nat.lt_or_gt_of_ne hik with h | h
      · obtain ⟨d, rfl⟩ : ∃ d, k = d + i := ⟨k - i, by omega⟩
        refine (sm_cg _ fun j _ => ?_).trans (sm_root hw (d := d) (e := 0) (by omega) (by omega))
        rw [show j * (2 * (d + i) + 1) = d * (2 * j + 0) + j * (2 * i + 1) by grind, Int.pow_add, Int.mul_comm (w ^ _), ← Int.mul_assoc]
        exact ((uw_pow huw _).mul (Cg.refl _ _)).trans (Cg.of_eq (Int.one_mul _))
      · obtain ⟨d, rfl⟩ : ∃ d, i = d + k := ⟨i - k, by omega⟩
        refine (sm_cg _ fun j _ => ?_).trans (sm_root (u_root huw hw) (d := d) (e := 0) (by omega) (by omega))
        rw [show j * (2 * (d + k) + 1) = d * (2 * j + 0) + j * (2 * k + 1) by grind, Int.pow_add, Int.mul_assoc]
        exact ((Cg.refl _ _).mul (uw_pow huw _)).trans (Cg.of_eq (Int.mul_one _))
  refine ((Cg.refl q p).mul hs).trans ?_
  refine (Cg.of_eq (show p * (v k * ((2 ^ L : Nat) : Int)) = v k * (((2 ^ L : Nat) : Int) * p) by grind)).trans (((Cg.refl q (v k)).mul hp).trans (Cg.of_eq (Int.mul_one _)))
end


def rev : Nat → Nat → Nat
  | 0, _ => 0
  | L + 1, i => rev L (i / 2) + i % 2 * 2 ^ L
theorem rev_lt : ∀ L i, rev L i < 2 ^ L
  | 0, i => by unfold rev; decide
  | L + 1, i => by
    unfold rev
    have h1 := rev_lt L (i / 2)
    have h2 : i % 2 * 2 ^ L ≤ 1 * 2 ^ L := Nat.mul_le_mul_right _ (by omega)
    rw [Nat.pow_succ]; omega
theorem rev_even (L c : Nat) : rev (L + 1) (2 * c) = rev L c := by
  show rev L (2 * c / 2) + 2 * c % 2 * 2 ^ L = rev L c
  rw [show 2 * c / 2 = c by omega, show 2 * c % 2 = 0 by omega]; omega
theorem rev_odd (L c : Nat) : rev (L + 1) (2 * c + 1) = rev L c + 2 ^ L := by
  show rev L ((2 * c + 1) / 2) + (2 * c + 1) % 2 * 2 ^ L = rev L c + 2 ^ L
  rw [show (2 * c + 1) / 2 = c by omega, show (2 * c + 1) % 2 = 1 by omega]; omega
theorem rev_top (b : Nat) (hb : b ≤ 1) : ∀ L i, i < 2 ^ L → rev (L + 1) (b * 2 ^ L + i) = 2 * rev L i + b
  | 0, i, h => by
    obtain rfl : i = 0 := by rw [Nat.pow_zero] at h; omega
    show 0 + (b * 2 ^ 0 + 0) % 2 * 2 ^ 0 = 2 * 0 + b
    rw [Nat.pow_zero]; omega
  | L + 1, i, h => by
    have ih := rev_top b hb L (i / 2) (by rw [Nat.pow_succ] at h; omega)
    show rev (L + 1) ((b * 2 ^ (L + 1) + i) / 2) + (b * 2 ^ (L + 1) + i) % 2 * 2 ^ (L + 1) = 2 * (rev L (i / 2) + i % 2 * 2 ^ L) + b
    have e : b * 2 ^ (L + 1) = 2 * (b * 2 ^ L) := by rw [Nat.pow_succ, Nat.mul_left_comm, Nat.mul_comm (2 ^ L), Nat.mul_left_comm]; grind
    rw [show (b * 2 ^ (L + 1) + i) / 2 = b * 2 ^ L + i / 2 by omega, show (b * 2 ^ (L + 1) + i) % 2 = i % 2 by omega, ih, Nat.pow_succ, Nat.mul_add]
    grind
theorem rev_rev : ∀ L i, i < 2 ^ L → rev L (rev L i) = i
  | 0, i, h => by
    rw [Nat.pow_zero] at h
    show 0 = i
    omega
  | L + 1, i, h => by
    show rev (L + 1) (rev L (i / 2) + i % 2 * 2 ^ L) = i
    rw [Nat.add_comm (rev L (i / 2)), rev_top (i % 2) (by omega) L _ (rev_lt _ _), rev_rev L (i / 2) (by rw [Nat.pow_succ] at h; omega)]
    omega

theorem step_lo (w : Int) (a : Nat → Int) (m t r k : Nat) :
    sm m (fun j => a (r + j * (2 * t)) * w ^ (2 * (2 * t) * (k * j))) + sm m (fun j => a (r + t + j * (2 * t)) * w ^ (2 * (2 * t) * (k * j))) * w ^ (k * (2 * t))
      = sm (2 * m) fun j => a (r + j * t) * w ^ (2 * t * (k * j)) := by
  rw [sm_two, ← sm_mulR]
  congr 1
  · refine sm_congr _ fun j _ => ?_
    rw [show 2 * j * t = j * (2 * t) by grind, show 2 * t * (k * (2 * j)) = 2 * (2 * t) * (k * j) by grind]
  · refine sm_congr _ fun j _ => ?_
    rw [show r + (2 * j + 1) * t = r + t + j * (2 * t) by grind, show 2 * t * (k * (2 * j + 1)) = 2 * (2 * t) * (k * j) + k * (2 * t) by grind, Int.pow_add, Int.mul_assoc]

theorem step_hi {q w : Int} (a : Nat → Int) (m t r k : Nat) (hw : Cg q (w ^ (2 * t * m)) (-1)) :
    Cg q (sm m (fun j => a (r + j * (2 * t)) * w ^ (2 * (2 * t) * (k * j))) - sm m (fun j => a (r + t + j * (2 * t)) * w ^ (2 * (2 * t) * (k * j))) * w ^ (k * (2 * t)))
      (sm (2 * m) fun j => a (r + j * t) * w ^ (2 * t * ((k + m) * j))) := by
  rw [sm_two, ← sm_mulR, Int.sub_eq_add_neg]
  refine Cg.add ?_ ?_
  · refine sm_cg _ fun j _ => ?_
    rw [show 2 * j * t = j * (2 * t) by grind, show 2 * t * ((k + m) * (2 * j)) = 2 * (2 * t) * (k * j) + 2 * t * m * (2 * j) by grind, Int.pow_add]
    refine (Cg.refl _ _).mul ((Cg.of_eq (Int.mul_one _).symm).trans ((Cg.refl _ _).mul ?_))
    rw [Int.pow_mul]
    refine Cg.symm ((hw.pow _).trans (Cg.of_eq ?_))
    rw [Int.pow_mul]; simp [Int.one_pow]
  · rw [show ∀ x : Int, -x = (-1) * x by intro x; omega, ← sm_mul]
    refine sm_cg _ fun j _ => ?_
    rw [show r + (2 * j + 1) * t = r + t + j * (2 * t) by grind, show 2 * t * ((k + m) * (2 * j + 1)) = 2 * (2 * t) * (k * j) + k * (2 * t) + 2 * t * m * (2 * j + 1) by grind, Int.pow_add, Int.pow_add]
    refine (Cg.of_eq (show (-1) * (a (r + t + j * (2 * t)) * w ^ (2 * (2 * t) * (k * j)) * w ^ (k * (2 * t))) = a (r + t + j * (2 * t)) * (w ^ (2 * (2 * t) * (k * j)) * w ^ (k * (2 * t)) * (-1)) by grind)).trans ?_
    exact (Cg.refl _ _).mul ((Cg.refl _ _).mul (pow_odd hw j).symm)

def Std (q w : Int) (L : Nat) (a : Nat → Int) (s : Nat) (A : Nat → Int) : Prop :=
  ∀ c k, c < 2 ^ (L - s) → k < 2 ^ s → Cg q (A (c * 2 ^ s + k)) (sm (2 ^ s) fun j => a (rev (L - s) c + j * 2 ^ (L - s)) * w ^ (2 * 2 ^ (L - s) * (k * j)))
theorem std_zero {q w : Int} {L : Nat} {a A : Nat → Int} (h : ∀ c, c < 2 ^ L → A c = a (rev L c)) : Std q w L a 0 A := fun c k hc hk => by
  obtain rfl : k = 0 := by rw [Nat.pow_zero] at hk; omega
  rw [Nat.sub_zero] at hc ⊢
  refine Cg.of_eq ?_
  rw [show c * 2 ^ 0 + 0 = c by simp, h c hc]
  show _ = 0 + a (rev L c + 0 * 2 ^ L) * w ^ (2 * 2 ^ L * (0 * 0))
  simp
theorem std_last {q w : Int} {L : Nat} {a A : Nat → Int} (h : Std q w L a L A) {k : Nat} (hk : k < 2 ^ L) : Cg q (A k) (sm (2 ^ L) fun j => a j * w ^ (2 * (k * j))) := by
  have := h 0 k (by rw [Nat.sub_self]; decide) hk
  rw [Nat.sub_self] at this
  refine (Cg.of_eq (by congr 1; omega)).trans (this.trans (Cg.of_eq (sm_congr _ fun j _ => ?_)))
  rw [show rev 0 0 + j * 2 ^ 0 = j by unfold rev; omega, show 2 * 2 ^ 0 * (k * j) = 2 * (k * j) by rw [Nat.pow_zero, Nat.mul_one]]

theorem std_congr {q w : Int} {L s : Nat} {a A B : Nat → Int} (hs : s ≤ L) (h : Std q w L a s A) (e : ∀ p, p < 2 ^ L → B p = A p) : Std q w L a s B := fun c k hc hk => by
  have hp : c * 2 ^ s + k < 2 ^ L := by
    have h1 : (c + 1) * 2 ^ s ≤ 2 ^ (L - s) * 2 ^ s := Nat.mul_le_mul_right _ hc
    rw [← Nat.pow_add, show L - s + s = L by omega, Nat.succ_mul] at h1
    omega
  rw [e _ hp]; exact h c k hc hk
theorem std_step {q w : Int} {L s : Nat} {a A B : Nat → Int} (hw : Cg q (w ^ (2 ^ L)) (-1)) (hs : s < L) (h : Std q w L a s A)
    (lo : ∀ c k, c * (2 * 2 ^ s) + k < 2 ^ L → k < 2 ^ s → Cg q (B (c * (2 * 2 ^ s) + k)) (A (c * (2 * 2 ^ s) + k) + A (c * (2 * 2 ^ s) + k + 2 ^ s) * w ^ (k * 2 ^ (L - s))))
    (hi : ∀ c k, c * (2 * 2 ^ s) + k < 2 ^ L → k < 2 ^ s → Cg q (B (c * (2 * 2 ^ s) + k + 2 ^ s)) (A (c * (2 * 2 ^ s) + k) - A (c * (2 * 2 ^ s) + k + 2 ^ s) * w ^ (k * 2 ^ (L - s)))) : Std q w L a (s + 1) B := by
  obtain ⟨M, rfl⟩ : ∃ M, L = s + (M + 1) := ⟨L - s - 1, by omega⟩
  intro c k hc hk
  rw [show s + (M + 1) - (s + 1) = M by omega] at hc ⊢
  rw [show s + (M + 1) - s = M + 1 by omega] at lo hi
  unfold Std at h
  rw [show s + (M + 1) - s = M + 1 by omega] at h
  have hL : 2 ^ (s + (M + 1)) = 2 ^ M * (2 * 2 ^ s) := by rw [Nat.pow_add, Nat.pow_succ]; grind
  have hL2 : 2 ^ (s + (M + 1)) = 2 * 2 ^ M * 2 ^ s := by rw [hL]; grind
  have hc2 : c * (2 * 2 ^ s) + 2 * 2 ^ s ≤ 2 ^ (s + (M + 1)) := by
    rw [hL, ← Nat.succ_mul]; exact Nat.mul_le_mul_right _ hc
  rw [hL2] at hw
  have hps : 2 ^ (s + 1) = 2 * 2 ^ s := by rw [Nat.pow_succ, Nat.mul_comm]
  have hpM : 2 ^ (M + 1) = 2 * 2 ^ M := by rw [Nat.pow_succ, Nat.mul_comm]
  rw [hps] at hk ⊢
  have E : ∀ k, k < 2 ^ s → Cg q (A (c * (2 * 2 ^ s) + k)) (sm (2 ^ s) fun j => a (rev M c + j * (2 * 2 ^ M)) * w ^ (2 * (2 * 2 ^ M) * (k * j))) := fun k hk => by
    have := h (2 * c) k (by rw [hpM]; omega) hk
    rw [rev_even, hpM, show 2 * c * 2 ^ s = c * (2 * 2 ^ s) by grind] at this
    exact this
  have O : ∀ k, k < 2 ^ s → Cg q (A (c * (2 * 2 ^ s) + k + 2 ^ s)) (sm (2 ^ s) fun j => a (rev M c + 2 ^ M + j * (2 * 2 ^ M)) * w ^ (2 * (2 * 2 ^ M) * (k * j))) := fun k hk => by
    have := h (2 * c + 1) k (by rw [hpM]; omega) hk
    rw [rev_odd, hpM, show (2 * c + 1) * 2 ^ s + k = c * (2 * 2 ^ s) + k + 2 ^ s by grind] at this
    exact this
  rw [hpM] at lo hi
  by_cases hkm : k < 2 ^ s
  · refine (lo c k (by omega) hkm).trans ?_
    exact ((E k hkm).add ((O k hkm).mul (Cg.refl _ _))).trans (Cg.of_eq (step_lo w a (2 ^ s) (2 ^ M) (rev M c) k))
  · obtain ⟨k', rfl⟩ : ∃ k', k = k' + 2 ^ s := ⟨k - 2 ^ s, by omega⟩
    have hk' : k' < 2 ^ s := by omega
    rw [← Nat.add_assoc]
    refine (hi c k' (by omega) hk').trans ?_
    exact ((E k' hk').sub ((O k' hk').mul (Cg.refl _ _))).trans (step_hi a (2 ^ s) (2 ^ M) (rev M c) k' hw)
end Go.Mth


namespace Go.Proofs.YtfcmdefigldpnaaGreatDoor
set_option linter.unusedVariables false
set_option maxRecDepth 8000
open Go Go.Den Go.RowKit Go.Mth

def rstep (s m x : Nat) : Nat := (x / 2 ^ s &&& m) ||| ((x &&& m) * 2 ^ s % 18446744073709551616)
theorem rstep_lt {s m x : Nat} (hm : m < 18446744073709551616) : rstep s m x < 18446744073709551616 :=
  Nat.or_lt_two_pow (n := 64) (Nat.lt_of_le_of_lt Nat.and_le_right hm) (Nat.mod_lt _ (by decide))
def rv32 (x : Nat) : Nat := (x / 2 ^ 32) ||| (x * 2 ^ 32 % 18446744073709551616)
def rv64 (x : Nat) : Nat := rv32 (rstep 16 281470681808895 (rstep 8 71777214294589695 (rstep 4 1085102592571150095 (rstep 2 3689348814741910323 (rstep 1 6148914691236517205 x)))))
theorem rv64_lt (x : Nat) : rv64 x < 18446744073709551616 := by
  unfold rv64 rv32
  exact Nat.or_lt_two_pow (n := 64) (Nat.lt_of_le_of_lt (Nat.div_le_self _ _) (rstep_lt (by decide))) (Nat.mod_lt _ (by decide))

theorem rstep_b1 {s m x : Nat} (hm : m < 18446744073709551616) : (x / 2 ^ s &&& m) < 18446744073709551616 := Nat.lt_of_le_of_lt Nat.and_le_right hm
theorem rstep_b2 {s m x : Nat} : (x &&& m) * 2 ^ s % 18446744073709551616 < 18446744073709551616 := Nat.mod_lt _ (by decide)

theorem Tryz_ent208 : Ent Tryz.prog 208 := ent_of Tryz.func208 (by kernel_rfl) rfl
theorem revBytes_spec (x : Nat) (h : Hp) (hx : x < 18446744073709551616) :
    CallsH Tryz.prog 208 [U x] h fun v h' => v = U (rv32 (rstep 16 281470681808895 (rstep 8 71777214294589695 x))) ∧ h = h' := by
  have l1 := rstep_lt (s := 8) (m := 71777214294589695) (x := x) (by decide)
  have a1 := rstep_b1 (s := 8) (m := 71777214294589695) (x := x) (by decide)
  have a2 := rstep_b2 (s := 8) (m := 71777214294589695) (x := x)
  (apply enter Tryz.func208 rfl Tryz.ntmps208 rfl)
  refine runJ ?_
  refine o_know (t := 11) (u := U (rstep 8 71777214294589695 x / 2 ^ 16)) rfl rfl (o_know (t := 0) (u := U (rstep 8 71777214294589695 x)) rfl rfl ?_)
  generalize rstep 8 71777214294589695 x = y at *
  have l2 := rstep_lt (s := 16) (m := 281470681808895) (x := y) (by decide)
  have b1 := rstep_b1 (s := 16) (m := 281470681808895) (x := y) (by decide)
  have b2 := rstep_b2 (s := 16) (m := 281470681808895) (x := y)
  refine runJ ?_
  have c1 : rstep 16 281470681808895 y / 2 ^ 32 < 18446744073709551616 := Nat.lt_of_le_of_lt (Nat.div_le_self _ _) l2
  have c2 : rstep 16 281470681808895 y * 2 ^ 32 % 18446744073709551616 < 18446744073709551616 := Nat.mod_lt _ (by decide)
  apply s_orU (isK_t rfl) (isK_t rfl) rfl ⟨c1, c2⟩
  refine runJ ?_
  exact fin1 rfl rfl ⟨rfl, rfl⟩

theorem Tryz_ent203 : Ent Tryz.prog 203 := ent_of Tryz.func203 (by kernel_rfl) rfl
theorem reverse_spec (x : Nat) (h : Hp) (hx : x < 18446744073709551616) :
    CallsH Tryz.prog 203 [U x] h fun v h' => v = U (rv64 x) ∧ h = h' := by
  have l1 := rstep_lt (s := 1) (m := 6148914691236517205) (x := x) (by decide)
  have a1 := rstep_b1 (s := 1) (m := 6148914691236517205) (x := x) (by decide)
  have a2 := rstep_b2 (s := 1) (m := 6148914691236517205) (x := x)
  unfold rv64
  (apply enter Tryz.func203 rfl Tryz.ntmps203 rfl)
  refine runJ ?_
  refine o_know (t := 11) (u := U (rstep 1 6148914691236517205 x / 2 ^ 2)) rfl rfl (o_know (t := 0) (u := U (rstep 1 6148914691236517205 x)) rfl rfl ?_)
  generalize rstep 1 6148914691236517205 x = y at *
  have l2 := rstep_lt (s := 2) (m := 3689348814741910323) (x := y) (by decide)
  have b1 := rstep_b1 (s := 2) (m := 3689348814741910323) (x := y) (by decide)
  have b2 := rstep_b2 (s := 2) (m := 3689348814741910323) (x := y)
  refine runJ ?_
  refine o_know (t := 18) (u := U (rstep 2 3689348814741910323 y / 2 ^ 4)) rfl rfl (o_know (t := 0) (u := U (rstep 2 3689348814741910323 y)) rfl rfl ?_)
  generalize rstep 2 3689348814741910323 y = z at *
  have l3 := rstep_lt (s := 4) (m := 1085102592571150095) (x := z) (by decide)
  have c1 := rstep_b1 (s := 4) (m := 1085102592571150095) (x := z) (by decide)
  have c2 := rstep_b2 (s := 4) (m := 1085102592571150095) (x := z)
  refine runJ ?_
  refine o_know (t := 24) (u := U (rstep 4 1085102592571150095 z)) rfl rfl ?_
  apply (s_call Tryz_ent208 rfl rfl rfl)
  refine (revBytes_spec _ h l3).mono ?_
  rintro _ _ ⟨rfl, rfl⟩
  refine clsI ?_
  refine runJ ?_
  exact fin1 rfl rfl ⟨rfl, rfl⟩

def revOk (L : Nat) : Bool := (List.range (2 ^ L)).all fun i => rv64 i / 2 ^ (64 - L) == rev L i
theorem revOk_all : revOk 1 && revOk 2 && revOk 3 && revOk 4 && revOk 5 && revOk 6 && revOk 7 && revOk 8 && revOk 9 = true := by decide +kernel
theorem rv64_rev {L i : Nat} (h1 : 1 ≤ L) (h2 : L ≤ 9) (hi : i < 2 ^ L) : rv64 i / 2 ^ (64 - L) = rev L i := by
  have hk := revOk_all
  simp only [Bool.and_eq_true] at hk
  have key : revOk L = true := by
    obtain ⟨⟨⟨⟨⟨⟨⟨⟨k1, k2⟩, k3⟩, k4⟩, k5⟩, k6⟩, k7⟩, k8⟩, k9⟩ := hk
    rcases (show L = 1 ∨ L = 2 ∨ L = 3 ∨ L = 4 ∨ L = 5 ∨ L = 6 ∨ L = 7 ∨ L = 8 ∨ L = 9 by omega) with rfl | rfl | rfl | rfl | rfl | rfl | rfl | rfl | rfl <;> assumption
  have := List.all_eq_true.1 key i (List.mem_range.2 hi)
  exact eq_of_beq this

def ocw (x y : Nat) : Nat := (x + y) % 18446744073709551616
def oc1 (x : Nat) : Nat := ocw (x / 2 ^ 1 &&& 6148914691236517205) (x &&& 6148914691236517205)
def oc2 (x : Nat) : Nat := ocw (x / 2 ^ 2 &&& 3689348814741910323) (x &&& 3689348814741910323)
def oc3 (x : Nat) : Nat := ocw (x / 2 ^ 4) x &&& 1085102592571150095
def oc4 (s x : Nat) : Nat := ocw x (x / 2 ^ s)
def oc (x : Nat) : Nat := oc4 32 (oc4 16 (oc4 8 (oc3 (oc2 (oc1 x)))))
theorem ocw_lt (x y : Nat) : ocw x y < 18446744073709551616 := Nat.mod_lt _ (by decide)
theorem and_lt {a m : Nat} (hm : m < 18446744073709551616) : (a &&& m) < 18446744073709551616 := Nat.lt_of_le_of_lt Nat.and_le_right hm

theorem Tryz_ent153 : Ent Tryz.prog 153 := ent_of Tryz.func153 (by kernel_rfl) rfl
set_option maxHeartbeats 1000000 in
theorem ones_spec (x : Nat) (h : Hp) (hx : x < 18446744073709551616) (hoc : oc x < 9223372036854775808) :
    CallsH Tryz.prog 153 [U x] h fun v h' => v = N (oc x &&& 127) ∧ h = h' := by
  unfold oc at hoc ⊢
  have a1 := and_lt (a := x / 2 ^ 1) (m := 6148914691236517205) (by decide)
  have a2 := and_lt (a := x) (m := 6148914691236517205) (by decide)
  (apply enter Tryz.func153 rfl Tryz.ntmps153 rfl)
  refine runJ ?_
  (apply s_addUw; (first | exact isK_c | exact isK_t rfl); (first | exact isK_c | exact isK_t rfl); exact rfl)
  refine runJ ?_
  refine o_know (t := 13) (u := U (oc1 x &&& 3689348814741910323)) rfl rfl (o_know (t := 11) (u := U (oc1 x / 2 ^ 2 &&& 3689348814741910323)) rfl rfl ?_)
  have b0 : oc1 x < 18446744073709551616 := ocw_lt _ _
  generalize oc1 x = y at *
  (apply s_addUw; (first | exact isK_c | exact isK_t rfl); (first | exact isK_c | exact isK_t rfl); exact rfl)
  refine runJ ?_
  refine o_know (t := 17) (u := U (oc2 y)) rfl rfl (o_know (t := 16) (u := U (oc2 y / 2 ^ 4)) rfl rfl ?_)
  have c0 : oc2 y < 18446744073709551616 := ocw_lt _ _
  generalize oc2 y = z at *
  (apply s_addUw; (first | exact isK_c | exact isK_t rfl); (first | exact isK_c | exact isK_t rfl); exact rfl)
  refine runJ ?_
  refine o_know (t := 20) (u := U (oc3 z)) rfl rfl (o_know (t := 22) (u := U (oc3 z / 2 ^ 8)) rfl rfl ?_)
  have d0 : oc3 z < 18446744073709551616 := and_lt (by decide)
  generalize oc3 z = a at *
  (apply s_addUw; (first | exact isK_c | exact isK_t rfl); (first | exact isK_c | exact isK_t rfl); exact rfl)
  refine runJ ?_
  refine o_know (t := 24) (u := U (oc4 8 a)) rfl rfl (o_know (t := 26) (u := U (oc4 8 a / 2 ^ 16)) rfl rfl ?_)
  have e0 : oc4 8 a < 18446744073709551616 := ocw_lt _ _
  generalize oc4 8 a = b at *
  (apply s_addUw; (first | exact isK_c | exact isK_t rfl); (first | exact isK_c | exact isK_t rfl); exact rfl)
  refine runJ ?_
  refine o_know (t := 28) (u := U (oc4 16 b)) rfl rfl (o_know (t := 30) (u := U (oc4 16 b / 2 ^ 32)) rfl rfl ?_)
  have f0 : oc4 16 b < 18446744073709551616 := ocw_lt _ _
  generalize oc4 16 b = c at *
  (apply s_addUw; (first | exact isK_c | exact isK_t rfl); (first | exact isK_c | exact isK_t rfl); exact rfl)
  refine runJ ?_
  refine o_know (t := 33) (u := N (oc4 32 c)) rfl rfl ?_
  apply s_andI (isK_t rfl) isK_c rfl ⟨hoc, by decide⟩
  refine runJ ?_
  exact fin1 rfl rfl ⟨rfl, rfl⟩

theorem Tryz_ent169 : Ent Tryz.prog 169 := ent_of Tryz.func169 (by kernel_rfl) rfl
theorem onesN_spec (x : Nat) (h : Hp) (hx : x < 18446744073709551616) (hoc : oc x < 9223372036854775808) :
    CallsH Tryz.prog 169 [U x] h fun v h' => v = N (oc x &&& 127) ∧ h = h' := by
  (apply enter Tryz.func169 rfl Tryz.ntmps169 rfl)
  refine runJ ?_
  apply (s_call Tryz_ent153 rfl rfl rfl)
  refine (ones_spec x h hx hoc).mono ?_
  rintro _ _ ⟨rfl, rfl⟩
  refine clsI ?_
  refine runJ ?_
  exact fin1 rfl rfl ⟨rfl, rfl⟩

theorem oc_pow : ∀ L, L < 14 → oc (2 ^ L) < 9223372036854775808 ∧ oc (2 ^ L) &&& 127 = 1 := by decide +kernel

theorem Tryz_ent202 : Ent Tryz.prog 202 := ent_of Tryz.func202 (by kernel_rfl) rfl
theorem blen_spec (x : Nat) (h : Hp) (hx : x < 18446744073709551616) :
    CallsH Tryz.prog 202 [U x] h fun v h' => v = N (Lib.bitLen x) ∧ h = h' :=
  callsH_same fun w => Tryz.bits_Len x w (by omega) (by omega)
theorem blen_pow : ∀ L, L < 14 → Lib.bitLen (2 ^ L) = L + 1 := by decide +kernel
end Go.Proofs.YtfcmdefigldpnaaGreatDoor


namespace Go.Proofs.YtfcmdefigldpnaaGreatDoor
set_option linter.unusedVariables false
set_option maxRecDepth 8000
open Go Go.Mth

theorem cg_addm {q : Nat} (hq : 0 < q) (a b : Nat) : Cg q ((addm a b q : Nat) : Int) ((a : Int) + b) := by
  rw [addm, if_neg (by omega), Int.natCast_emod, Int.natCast_add]; exact Cg.mod _ _
theorem cg_mulm {q : Nat} (hq : 0 < q) (a b : Nat) : Cg q ((mulm a b q : Nat) : Int) ((a : Int) * b) := by
  rw [mulm, if_neg (by omega), Int.natCast_emod, Int.natCast_mul]; exact Cg.mod _ _
theorem cg_subm {q : Nat} (hq : 0 < q) (a b : Nat) : Cg q ((subm a b q : Nat) : Int) ((a : Int) - b) := by
  have hb : b % q < q := Nat.mod_lt _ hq
  rw [subm, if_neg (by omega), Int.natCast_emod, Int.natCast_add, Int.ofNat_sub (by omega), Int.natCast_emod]
  refine (Cg.mod _ _).trans ?_
  refine ((Cg.refl _ _).add ((Cg.q0 _).sub (Cg.mod _ _))).trans (Cg.of_eq (by omega))

def btf (q : Nat) (W : Nat → Nat) (h s : Nat) (f : Nat → Nat) (p : Nat) : Nat :=
  if p % (2 * h) < h then addm (f p) (mulm (f (p + h)) (W (p % (2 * h) * s)) q) q else subm (f (p - h)) (mulm (f p) (W ((p % (2 * h) - h) * s)) q) q
theorem btf_lt {q : Nat} (hq : 0 < q) (W : Nat → Nat) (h s : Nat) (f : Nat → Nat) (p : Nat) : btf q W h s f p < q := by
  unfold btf; split
  · exact addm_lt hq
  · exact subm_lt hq
theorem btf_lo {q : Nat} {W : Nat → Nat} {h s : Nat} {f : Nat → Nat} {c k : Nat} (hk : k < h) : btf q W h s f (c * (2 * h) + k) = addm (f (c * (2 * h) + k)) (mulm (f (c * (2 * h) + k + h)) (W (k * s)) q) q := by
  have e : (c * (2 * h) + k) % (2 * h) = k := by rw [Nat.add_comm, Nat.add_mul_mod_self_right, Nat.mod_eq_of_lt (by omega)]
  unfold btf; rw [e, if_pos hk]
theorem btf_hi {q : Nat} {W : Nat → Nat} {h s : Nat} {f : Nat → Nat} {c k : Nat} (hk : k < h) : btf q W h s f (c * (2 * h) + k + h) = subm (f (c * (2 * h) + k)) (mulm (f (c * (2 * h) + k + h)) (W (k * s)) q) q := by
  have e : (c * (2 * h) + k + h) % (2 * h) = k + h := by rw [Nat.add_assoc, Nat.add_comm, Nat.add_mul_mod_self_right, Nat.mod_eq_of_lt (by omega)]
  unfold btf; rw [e, if_neg (by omega), Nat.add_sub_cancel, Nat.add_sub_cancel]

theorem std_btf {q L s : Nat} {w : Int} {a : Nat → Int} {W f : Nat → Nat} (hq : 0 < q) (hw : Cg q (w ^ (2 ^ L)) (-1)) (hs : s < L) (hW : ∀ m, m < 2 ^ L → Cg q ((W m : Nat) : Int) (w ^ m)) (h : Std q w L a s fun p => ((f p : Nat) : Int)) :
    Std q w L a (s + 1) fun p => ((btf q W (2 ^ s) (2 ^ (L - s)) f p : Nat) : Int) := by
  have hb : ∀ k, k < 2 ^ s → k * 2 ^ (L - s) < 2 ^ L := fun k hk => by
    have := Nat.mul_lt_mul_of_pos_right hk (Nat.two_pow_pos (L - s))
    rwa [← Nat.pow_add, show s + (L - s) = L by omega] at this
  refine std_step hw hs h (fun c k _ hk => ?_) (fun c k _ hk => ?_)
  · rw [btf_lo hk]
    exact (cg_addm hq _ _).trans ((Cg.refl _ _).add ((cg_mulm hq _ _).trans ((Cg.refl _ _).mul (hW _ (hb k hk)))))
  · rw [btf_hi hk]
    exact (cg_subm hq _ _).trans ((Cg.refl _ _).sub ((cg_mulm hq _ _).trans ((Cg.refl _ _).mul (hW _ (hb k hk)))))

def Mid (n h i k : Nat) (f g : Nat → Nat) (xs : List Nat) : Prop := xs.length = n ∧ ∀ p, p < n → xs.getD p 0 = if p < i ∨ (p < i + 2 * h ∧ (p - i) % h < k) then g p else f p
section
variable {n h i k : Nat} {f g : Nat → Nat} {xs : List Nat}
theorem getD_of {x : Nat} {p : Nat} (h : xs[p]? = some x) : xs.getD p 0 = x := by rw [List.getD_eq_getElem?_getD, h]; rfl
theorem getD_lt {p : Nat} (h : p < xs.length) : xs[p]? = some (xs.getD p 0) := by rw [List.getD_eq_getElem?_getD, List.getElem?_eq_getElem h]; rfl
theorem getD_set {p r x : Nat} (hp : p < xs.length) : (xs.set r x).getD p 0 = if p = r then x else xs.getD p 0 := by
  rw [List.getD_eq_getElem?_getD, List.getElem?_set, List.getD_eq_getElem?_getD]
  by_cases e : r = p
  · subst e; rw [if_pos rfl, if_pos hp, if_pos rfl]; rfl
  · rw [if_neg e, if_neg (by omega)]
theorem mid_start (hl : xs.length = n) (hf : ∀ p, p < n → xs.getD p 0 = f p) : Mid n h 0 0 f g xs := ⟨hl, fun p hp => by rw [if_neg (by omega)]; exact hf p hp⟩
theorem mid_lo (m : Mid n h i k f g xs) (hk : k < h) (hn : i + 2 * h ≤ n) : xs[i + k]? = some (f (i + k)) := by
  rw [getD_lt (by rw [m.1]; omega), m.2 _ (by omega), if_neg]
  rw [show i + k - i = k by omega, Nat.mod_eq_of_lt hk]; omega
theorem mid_hi (m : Mid n h i k f g xs) (hk : k < h) (hn : i + 2 * h ≤ n) : xs[i + k + h]? = some (f (i + k + h)) := by
  rw [getD_lt (by rw [m.1]; omega), m.2 _ (by omega), if_neg]
  rw [show i + k + h - i = k + h by omega, Nat.add_mod_right, Nat.mod_eq_of_lt hk]; omega
theorem mid_step (m : Mid n h i k f g xs) (hk : k < h) (hn : i + 2 * h ≤ n) : Mid n h i (k + 1) f g ((xs.set (i + k) (g (i + k))).set (i + k + h) (g (i + k + h))) := by
  refine ⟨by rw [List.length_set, List.length_set]; exact m.1, fun p hp => ?_⟩
  have hl := m.1
  rw [getD_set (by rw [List.length_set]; omega), getD_set (by omega)]
  by_cases h1 : p = i + k + h
  · subst h1
    rw [if_pos rfl, if_pos]
    refine .inr ⟨by omega, ?_⟩
    rw [show i + k + h - i = k + h by omega, Nat.add_mod_right, Nat.mod_eq_of_lt hk]; omega
  rw [if_neg h1]
  by_cases h2 : p = i + k
  · subst h2
    rw [if_pos rfl, if_pos]
    refine .inr ⟨by omega, ?_⟩
    rw [show i + k - i = k by omega, Nat.mod_eq_of_lt hk]; omega
  rw [if_neg h2, m.2 p hp]
  by_cases h3 : p < i
  · rw [if_pos (.inl h3), if_pos (.inl h3)]
  by_cases h4 : p < i + 2 * h
  · obtain ⟨d, rfl⟩ : ∃ d, p = i + d := ⟨p - i, by omega⟩
    rw [show i + d - i = d by omega]
    have hd : d % h ≠ k := by
      by_cases hd : d < h
      · rw [Nat.mod_eq_of_lt hd]; omega
      · rw [Nat.mod_eq_sub_mod (by omega), Nat.mod_eq_of_lt (by omega)]; omega
    by_cases h5 : d % h < k
    · rw [if_pos (.inr ⟨h4, h5⟩), if_pos (.inr ⟨h4, by omega⟩)]
    · rw [if_neg (by omega), if_neg (by omega)]
  · rw [if_neg (by omega), if_neg (by omega)]
theorem mid_next (m : Mid n h i h f g xs) (hh : 0 < h) : Mid n h (i + 2 * h) 0 f g xs := ⟨m.1, fun p hp => by
  rw [m.2 p hp]
  have := Nat.mod_lt (p - i) hh
  by_cases h1 : p < i + 2 * h
  · rw [if_pos (.inr ⟨h1, this⟩), if_pos (.inl h1)]
  · rw [if_neg (by omega), if_neg (by omega)]⟩
theorem mid_end (m : Mid n h i 0 f g xs) (hi : n ≤ i) : ∀ p, p < n → xs.getD p 0 = g p := fun p hp => by
  rw [m.2 p hp, if_pos (.inl (by omega))]

def Swp (L i : Nat) (f : Nat → Nat) (xs : List Nat) : Prop := xs.length = 2 ^ L ∧ ∀ p, p < 2 ^ L → xs.getD p 0 = if p < i ∨ rev L p < i then f (rev L p) else f p
theorem swp_start {L : Nat} (hl : xs.length = 2 ^ L) (hf : ∀ p, p < 2 ^ L → xs.getD p 0 = f p) : Swp L 0 f xs := ⟨hl, fun p hp => by rw [if_neg (by omega)]; exact hf p hp⟩
theorem swp_end {L : Nat} (s : Swp L (2 ^ L) f xs) : ∀ p, p < 2 ^ L → xs.getD p 0 = f (rev L p) := fun p hp => by rw [s.2 p hp, if_pos (.inl hp)]
theorem swp_keep {L : Nat} (s : Swp L i f xs) (hi : i < 2 ^ L) (hk : ¬ i < rev L i) : Swp L (i + 1) f xs := ⟨s.1, fun p hp => by
  rw [s.2 p hp]
  by_cases h1 : p < i ∨ rev L p < i
  · rw [if_pos h1, if_pos (by omega)]
  rw [if_neg h1]
  by_cases h2 : p < i + 1 ∨ rev L p < i + 1
  · rw [if_pos h2]
    have hp' : rev L p = p := by
      by_cases h3 : p = i
      · subst h3; omega
      · have h4 : rev L p = i := by omega
        have h5 := rev_rev L p hp
        rw [h4] at h5; omega
    rw [hp']
  · rw [if_neg h2]⟩
theorem swp_lo {L : Nat} (s : Swp L i f xs) (hi : i < 2 ^ L) (hk : i < rev L i) : xs[i]? = some (f i) := by
  rw [getD_lt (by rw [s.1]; omega), s.2 _ hi, if_neg (by omega)]
theorem swp_hi {L : Nat} (s : Swp L i f xs) (hi : i < 2 ^ L) (hk : i < rev L i) : xs[rev L i]? = some (f (rev L i)) := by
  have := rev_lt L i
  rw [getD_lt (by rw [s.1]; omega), s.2 _ this, rev_rev L i hi, if_neg (by omega)]
theorem swp_step {L : Nat} (s : Swp L i f xs) (hi : i < 2 ^ L) (hk : i < rev L i) : Swp L (i + 1) f ((xs.set i (f (rev L i))).set (rev L i) (f i)) := by
  have hr := rev_lt L i
  have hrr := rev_rev L i hi
  refine ⟨by rw [List.length_set, List.length_set]; exact s.1, fun p hp => ?_⟩
  have hl := s.1
  rw [getD_set (by rw [List.length_set]; omega), getD_set (by omega)]
  by_cases h1 : p = rev L i
  · subst h1
    rw [if_pos rfl, if_pos (.inr (by omega)), hrr]
  rw [if_neg h1]
  by_cases h2 : p = i
  · subst h2
    rw [if_pos rfl, if_pos (.inl (by omega))]
  rw [if_neg h2, s.2 p hp]
  have h3 : rev L p ≠ i := fun e => h1 (by rw [← e, rev_rev L p hp])
  by_cases h4 : p < i ∨ rev L p < i
  · rw [if_pos h4, if_pos (by omega)]
  · rw [if_neg h4, if_neg (by omega)]
end

theorem gcd_pow {q n : Nat} (L : Nat) (hq : q % 2 = 1) : Nat.gcd (2 ^ L) q = 1 := by
  have : Nat.gcd 2 q = 1 := by rw [Nat.gcd_rec, hq]; decide
  exact Nat.Coprime.pow_left L this
theorem gcd_root {q w n : Nat} (hq : 1 < q) (hn : 0 < n) (h : w ^ n % q = q - 1) : Nat.gcd w q = 1 := by
  have h1 : Nat.gcd w q ∣ q := Nat.gcd_dvd_right _ _
  have h2 : Nat.gcd w q ∣ w ^ n := Nat.dvd_trans (Nat.gcd_dvd_left _ _) ⟨w ^ (n - 1), by rw [← Nat.pow_succ']; congr 1; omega⟩
  have h3 : Nat.gcd w q ∣ q - 1 := by rw [← h]; exact (Nat.dvd_mod_iff h1).2 h2
  have h4 := Nat.dvd_sub h1 h3
  rw [show q - (q - 1) = 1 by omega] at h4
  exact Nat.dvd_one.1 h4
theorem cg_of_mod {q a : Nat} {b : Int} (h : Cg q (a : Int) b) (c : Nat) (hc : c % q = a % q) : Cg q (c : Int) b := by
  have h1 := Cg.mod (q : Int) (c : Int)
  have h2 := Cg.mod (q : Int) (a : Int)
  have : ((c : Int) % q) = ((a : Int) % q) := by rw [← Int.natCast_emod, ← Int.natCast_emod, hc]
  rw [this] at h1
  exact h1.symm.trans (h2.trans h)
theorem cg_root {q w n : Nat} (hq : 1 < q) (h : w ^ n % q = q - 1) : Cg q ((w : Int) ^ n) (-1) := by
  have := Cg.mod (q : Int) ((w : Int) ^ n)
  rw [← Int.natCast_pow, ← Int.natCast_emod, h, Int.ofNat_sub (by omega)] at this
  rw [← Int.natCast_pow]
  exact this.symm.trans (((Cg.q0 _).sub (Cg.refl _ _)).trans (Cg.of_eq (by omega)))
theorem cg_one {q a b : Nat} (h : a * b % q = 1) : Cg q ((a : Int) * b) 1 := by
  have := Cg.mod (q : Int) ((a : Int) * b)
  rw [← Int.natCast_mul, ← Int.natCast_emod, h] at this
  rw [← Int.natCast_mul]
  exact this.symm
theorem lists_cg {q : Nat} {xs ys : List Nat} (hl : xs.length = ys.length) (hx : ∀ x ∈ xs, x < q) (hy : ∀ x ∈ ys, x < q) (h : ∀ p, p < xs.length → Cg q ((xs.getD p 0 : Nat) : Int) ((ys.getD p 0 : Nat) : Int)) : xs = ys := by
  apply List.ext_getElem? 
  intro p
  by_cases hp : p < xs.length
  · rw [getD_lt hp, getD_lt (by omega)]
    have := (h p hp).eqN (hx _ (List.mem_of_getElem? (getD_lt hp))) (hy _ (List.mem_of_getElem? (getD_lt (xs := ys) (by omega))))
    rw [this]
  · rw [List.getElem?_eq_none (by omega), List.getElem?_eq_none (by omega)]
end Go.Proofs.YtfcmdefigldpnaaGreatDoor

