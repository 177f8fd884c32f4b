/- Texts NttA to NttE of this work, joined: each says in its own head what it proves, and of which condition. -/
import Derived.Test.YtbhhagdnbkkjpaaDoorMPr13
/- The steps of a transform over rows of words: plain facts. No condition. -/
namespace Go.Proofs.YtbhhagdnbkkjpaaDoor
set_option linter.unusedVariables false
set_option maxRecDepth 8000
open Go Go.Mth

theorem cg_addm {q : Nat} (hq : 0 < q) (a b : Nat) : Cg q ((addm a b q : Nat) : Int) ((a : Int) + b) := by
  rw [addm, if_neg (by omega), Int.natCast_emod, Int.natCast_add]; exact Cg.mod _ _
theorem cg_mulm {q : Nat} (hq : 0 < q) (a b : Nat) : Cg q ((mulm a b q : Nat) : Int) ((a : Int) * b) := by
  rw [mulm, if_neg (by omega), Int.natCast_emod, Int.natCast_mul]; exact Cg.mod _ _
theorem cg_subm {q : Nat} (hq : 0 < q) (a b : Nat) : Cg q ((subm a b q : Nat) : Int) ((a : Int) - b) := by
  have hb : b % q < q := Nat.mod_lt _ hq
  rw [subm, if_neg (by omega), Int.natCast_emod, Int.natCast_add, Int.ofNat_sub (by omega), Int.natCast_emod]
  refine (Cg.mod _ _).trans ?_
  refine ((Cg.refl _ _).add ((Cg.q0 _).sub (Cg.mod _ _))).trans (Cg.of_eq (by omega))

def btf (q : Nat) (W : Nat → Nat) (h s : Nat) (f : Nat → Nat) (p : Nat) : Nat :=
  if p % (2 * h) < h then addm (f p) (mulm (f (p + h)) (W (p % (2 * h) * s)) q) q else subm (f (p - h)) (mulm (f p) (W ((p % (2 * h) - h) * s)) q) q
theorem btf_lt {q : Nat} (hq : 0 < q) (W : Nat → Nat) (h s : Nat) (f : Nat → Nat) (p : Nat) : btf q W h s f p < q := by
  unfold btf; split
  · exact addm_lt hq
  · exact subm_lt hq
theorem btf_lo {q : Nat} {W : Nat → Nat} {h s : Nat} {f : Nat → Nat} {c k : Nat} (hk : k < h) : btf q W h s f (c * (2 * h) + k) = addm (f (c * (2 * h) + k)) (mulm (f (c * (2 * h) + k + h)) (W (k * s)) q) q := by
  have e : (c * (2 * h) + k) % (2 * h) = k := by rw [Nat.add_comm, Nat.add_mul_mod_self_right, Nat.mod_eq_of_lt (by omega)]
  unfold btf; rw [e, if_pos hk]
theorem btf_hi {q : Nat} {W : Nat → Nat} {h s : Nat} {f : Nat → Nat} {c k : Nat} (hk : k < h) : btf q W h s f (c * (2 * h) + k + h) = subm (f (c * (2 * h) + k)) (mulm (f (c * (2 * h) + k + h)) (W (k * s)) q) q := by
  have e : (c * (2 * h) + k + h) % (2 * h) = k + h := by rw [Nat.add_assoc, Nat.add_comm, Nat.add_mul_mod_self_right, Nat.mod_eq_of_lt (by omega)]
  unfold btf; rw [e, if_neg (by omega), Nat.add_sub_cancel, Nat.add_sub_cancel]

theorem std_btf {q L s : Nat} {w : Int} {a : Nat → Int} {W f : Nat → Nat} (hq : 0 < q) (hw : Cg q (w ^ (2 ^ L)) (-1)) (hs : s < L) (hW : ∀ m, m < 2 ^ L → Cg q ((W m : Nat) : Int) (w ^ m)) (h : Std q w L a s fun p => ((f p : Nat) : Int)) :
    Std q w L a (s + 1) fun p => ((btf q W (2 ^ s) (2 ^ (L - s)) f p : Nat) : Int) := by
  have hb : ∀ k, k < 2 ^ s → k * 2 ^ (L - s) < 2 ^ L := fun k hk => by
    have := Nat.mul_lt_mul_of_pos_right hk (Nat.two_pow_pos (L - s))
    rwa [← Nat.pow_add, show s + (L - s) = L by omega] at this
  refine std_step hw hs h (fun c k _ hk => ?_) (fun c k _ hk => ?_)
  · rw [btf_lo hk]
    exact (cg_addm hq _ _).trans ((Cg.refl _ _).add ((cg_mulm hq _ _).trans ((Cg.refl _ _).mul (hW _ (hb k hk)))))
  · rw [btf_hi hk]
    exact (cg_subm hq _ _).trans ((Cg.refl _ _).sub ((cg_mulm hq _ _).trans ((Cg.refl _ _).mul (hW _ (hb k hk)))))

/-- A row in the midst of a step. -/
def Mid (n h i k : Nat) (f g : Nat → Nat) (xs : List Nat) : Prop := xs.length = n ∧ ∀ p, p < n → xs.getD p 0 = if p < i ∨ (p < i + 2 * h ∧ (p - i) % h < k) then g p else f p
section
variable {n h i k : Nat} {f g : Nat → Nat} {xs : List Nat}
theorem getD_of {x : Nat} {p : Nat} (h : xs[p]? = some x) : xs.getD p 0 = x := by rw [List.getD_eq_getElem?_getD, h]; rfl
theorem getD_lt {p : Nat} (h : p < xs.length) : xs[p]? = some (xs.getD p 0) := by rw [List.getD_eq_getElem?_getD, List.getElem?_eq_getElem h]; rfl
theorem getD_set {p r x : Nat} (hp : p < xs.length) : (xs.set r x).getD p 0 = if p = r then x else xs.getD p 0 := by
  rw [List.getD_eq_getElem?_getD, List.getElem?_set, List.getD_eq_getElem?_getD]
  by_cases e : r = p
  · subst e; rw [if_pos rfl, if_pos hp, if_pos rfl]; rfl
  · rw [if_neg e, if_neg (by omega)]
theorem mid_start (hl : xs.length = n) (hf : ∀ p, p < n → xs.getD p 0 = f p) : Mid n h 0 0 f g xs := ⟨hl, fun p hp => by rw [if_neg (by omega)]; exact hf p hp⟩
theorem mid_lo (m : Mid n h i k f g xs) (hk : k < h) (hn : i + 2 * h ≤ n) : xs[i + k]? = some (f (i + k)) := by
  rw [getD_lt (by rw [m.1]; omega), m.2 _ (by omega), if_neg]
  rw [show i + k - i = k by omega, Nat.mod_eq_of_lt hk]; omega
theorem mid_hi (m : Mid n h i k f g xs) (hk : k < h) (hn : i + 2 * h ≤ n) : xs[i + k + h]? = some (f (i + k + h)) := by
  rw [getD_lt (by rw [m.1]; omega), m.2 _ (by omega), if_neg]
  rw [show i + k + h - i = k + h by omega, Nat.add_mod_right, Nat.mod_eq_of_lt hk]; omega
theorem mid_step (m : Mid n h i k f g xs) (hk : k < h) (hn : i + 2 * h ≤ n) : Mid n h i (k + 1) f g ((xs.set (i + k) (g (i + k))).set (i + k + h) (g (i + k + h))) := by
  refine ⟨by rw [List.length_set, List.length_set]; exact m.1, fun p hp => ?_⟩
  have hl := m.1
  rw [getD_set (by rw [List.length_set]; omega), getD_set (by omega)]
  by_cases h1 : p = i + k + h
  · subst h1
    rw [if_pos rfl, if_pos]
    refine .inr ⟨by omega, ?_⟩
    rw [show i + k + h - i = k + h by omega, Nat.add_mod_right, Nat.mod_eq_of_lt hk]; omega
  rw [if_neg h1]
  by_cases h2 : p = i + k
  · subst h2
    rw [if_pos rfl, if_pos]
    refine .inr ⟨by omega, ?_⟩
    rw [show i + k - i = k by omega, Nat.mod_eq_of_lt hk]; omega
  rw [if_neg h2, m.2 p hp]
  by_cases h3 : p < i
  · rw [if_pos (.inl h3), if_pos (.inl h3)]
  by_cases h4 : p < i + 2 * h
  · obtain ⟨d, rfl⟩ : ∃ d, p = i + d := ⟨p - i, by omega⟩
    rw [show i + d - i = d by omega]
    have hd : d % h ≠ k := by
      by_cases hd : d < h
      · rw [Nat.mod_eq_of_lt hd]; omega
      · rw [Nat.mod_eq_sub_mod (by omega), Nat.mod_eq_of_lt (by omega)]; omega
    by_cases h5 : d % h < k
    · rw [if_pos (.inr ⟨h4, h5⟩), if_pos (.inr ⟨h4, by omega⟩)]
    · rw [if_neg (by omega), if_neg (by omega)]
  · rw [if_neg (by omega), if_neg (by omega)]
theorem mid_next (m : Mid n h i h f g xs) (hh : 0 < h) : Mid n h (i + 2 * h) 0 f g xs := ⟨m.1, fun p hp => by
  rw [m.2 p hp]
  have := Nat.mod_lt (p - i) hh
  by_cases h1 : p < i + 2 * h
  · rw [if_pos (.inr ⟨h1, this⟩), if_pos (.inl h1)]
  · rw [if_neg (by omega), if_neg (by omega)]⟩
theorem mid_end (m : Mid n h i 0 f g xs) (hi : n ≤ i) : ∀ p, p < n → xs.getD p 0 = g p := fun p hp => by
  rw [m.2 p hp, if_pos (.inl (by omega))]

/-- A row in the midst of being turned round. -/
def Swp (L i : Nat) (f : Nat → Nat) (xs : List Nat) : Prop := xs.length = 2 ^ L ∧ ∀ p, p < 2 ^ L → xs.getD p 0 = if p < i ∨ rev L p < i then f (rev L p) else f p
theorem swp_start {L : Nat} (hl : xs.length = 2 ^ L) (hf : ∀ p, p < 2 ^ L → xs.getD p 0 = f p) : Swp L 0 f xs := ⟨hl, fun p hp => by rw [if_neg (by omega)]; exact hf p hp⟩
theorem swp_end {L : Nat} (s : Swp L (2 ^ L) f xs) : ∀ p, p < 2 ^ L → xs.getD p 0 = f (rev L p) := fun p hp => by rw [s.2 p hp, if_pos (.inl hp)]
theorem swp_keep {L : Nat} (s : Swp L i f xs) (hi : i < 2 ^ L) (hk : ¬ i < rev L i) : Swp L (i + 1) f xs := ⟨s.1, fun p hp => by
  rw [s.2 p hp]
  by_cases h1 : p < i ∨ rev L p < i
  · rw [if_pos h1, if_pos (by omega)]
  rw [if_neg h1]
  by_cases h2 : p < i + 1 ∨ rev L p < i + 1
  · rw [if_pos h2]
    have hp' : rev L p = p := by
      by_cases h3 : p = i
      · subst h3; omega
      · have h4 : rev L p = i := by omega
        have h5 := rev_rev L p hp
        rw [h4] at h5; omega
    rw [hp']
  · rw [if_neg h2]⟩
theorem swp_lo {L : Nat} (s : Swp L i f xs) (hi : i < 2 ^ L) (hk : i < rev L i) : xs[i]? = some (f i) := by
  rw [getD_lt (by rw [s.1]; omega), s.2 _ hi, if_neg (by omega)]
theorem swp_hi {L : Nat} (s : Swp L i f xs) (hi : i < 2 ^ L) (hk : i < rev L i) : xs[rev L i]? = some (f (rev L i)) := by
  have := rev_lt L i
  rw [getD_lt (by rw [s.1]; omega), s.2 _ this, rev_rev L i hi, if_neg (by omega)]
theorem swp_step {L : Nat} (s : Swp L i f xs) (hi : i < 2 ^ L) (hk : i < rev L i) : Swp L (i + 1) f ((xs.set i (f (rev L i))).set (rev L i) (f i)) := by
  have hr := rev_lt L i
  have hrr := rev_rev L i hi
  refine ⟨by rw [List.length_set, List.length_set]; exact s.1, fun p hp => ?_⟩
  have hl := s.1
  rw [getD_set (by rw [List.length_set]; omega), getD_set (by omega)]
  by_cases h1 : p = rev L i
  · subst h1
    rw [if_pos rfl, if_pos (.inr (by omega)), hrr]
  rw [if_neg h1]
  by_cases h2 : p = i
  · subst h2
    rw [if_pos rfl, if_pos (.inl (by omega))]
  rw [if_neg h2, s.2 p hp]
  have h3 : rev L p ≠ i := fun e => h1 (by rw [← e, rev_rev L p hp])
  by_cases h4 : p < i ∨ rev L p < i
  · rw [if_pos h4, if_pos (by omega)]
  · rw [if_neg h4, if_neg (by omega)]
end

/-- Powers in a row. -/
theorem gcd_pow {q n : Nat} (L : Nat) (hq : q % 2 = 1) : Nat.gcd (2 ^ L) q = 1 := by
  have : Nat.gcd 2 q = 1 := by rw [Nat.gcd_rec, hq]; decide
  exact Nat.Coprime.pow_left L this
theorem gcd_root {q w n : Nat} (hq : 1 < q) (hn : 0 < n) (h : w ^ n % q = q - 1) : Nat.gcd w q = 1 := by
  have h1 : Nat.gcd w q ∣ q := Nat.gcd_dvd_right _ _
  have h2 : Nat.gcd w q ∣ w ^ n := Nat.dvd_trans (Nat.gcd_dvd_left _ _) ⟨w ^ (n - 1), by rw [← Nat.pow_succ']; congr 1; omega⟩
  have h3 : Nat.gcd w q ∣ q - 1 := by rw [← h]; exact (Nat.dvd_mod_iff h1).2 h2
  have h4 := Nat.dvd_sub h1 h3
  rw [show q - (q - 1) = 1 by omega] at h4
  exact Nat.dvd_one.1 h4
theorem cg_of_mod {q a : Nat} {b : Int} (h : Cg q (a : Int) b) (c : Nat) (hc : c % q = a % q) : Cg q (c : Int) b := by
  have h1 := Cg.mod (q : Int) (c : Int)
  have h2 := Cg.mod (q : Int) (a : Int)
  have : ((c : Int) % q) = ((a : Int) % q) := by rw [← Int.natCast_emod, ← Int.natCast_emod, hc]
  rw [this] at h1
  exact h1.symm.trans (h2.trans h)
theorem cg_root {q w n : Nat} (hq : 1 < q) (h : w ^ n % q = q - 1) : Cg q ((w : Int) ^ n) (-1) := by
  have := Cg.mod (q : Int) ((w : Int) ^ n)
  rw [← Int.natCast_pow, ← Int.natCast_emod, h, Int.ofNat_sub (by omega)] at this
  rw [← Int.natCast_pow]
  exact this.symm.trans (((Cg.q0 _).sub (Cg.refl _ _)).trans (Cg.of_eq (by omega)))
theorem cg_one {q a b : Nat} (h : a * b % q = 1) : Cg q ((a : Int) * b) 1 := by
  have := Cg.mod (q : Int) ((a : Int) * b)
  rw [← Int.natCast_mul, ← Int.natCast_emod, h] at this
  rw [← Int.natCast_mul]
  exact this.symm
theorem lists_cg {q : Nat} {xs ys : List Nat} (hl : xs.length = ys.length) (hx : ∀ x ∈ xs, x < q) (hy : ∀ x ∈ ys, x < q) (h : ∀ p, p < xs.length → Cg q ((xs.getD p 0 : Nat) : Int) ((ys.getD p 0 : Nat) : Int)) : xs = ys := by
  apply List.ext_getElem? 
  intro p
  by_cases hp : p < xs.length
  · rw [getD_lt hp, getD_lt (by omega)]
    have := (h p hp).eqN (hx _ (List.mem_of_getElem? (getD_lt hp))) (hy _ (List.mem_of_getElem? (getD_lt (xs := ys) (by omega))))
    rw [this]
  · rw [List.getElem?_eq_none (by omega), List.getElem?_eq_none (by omega)]
end Go.Proofs.YtbhhagdnbkkjpaaDoor

/- Package prime: roots. Condition: the table of math/bits reads as it is laid. -/
namespace Go.Proofs.YtbhhagdnbkkjpaaDoor
set_option linter.unusedVariables false
set_option maxRecDepth 8000
open Go Go.Den Go.RowKit Go.Mth

theorem Tryd_ent16 : Ent Tryd.prog 16 := ent_of Tryd.func16 (by kernel_rfl) rfl
theorem smin_spec (v : Value) (xs : List Nat) (h : Hp) (s : SlF h U v xs) (h0 : 0 < xs.length) (hl : xs.length < 4611686018427387904) :
    CallsH Tryd.prog 16 [v] h fun v' h' => (∃ m, v' = U m ∧ m ∈ xs ∧ ∀ x ∈ xs, m ≤ x) ∧ h = h' := by
  obtain ⟨x0, hx0⟩ := get_lt h0
  (apply enter Tryd.func16 rfl Tryd.ntmps16 rfl)
  refine runJ ?_
  (apply w_condF; exact rfl; exact rfl; exact (show ¬ xs.length < 1 by omega))
  refine runJ ?_
  (first | (apply w_seqB; exact rfl; apply w_block; exact rfl) | skip)
  apply (w_loop (σ := Nat × Nat) rfl (fun j => [(0, v), (3, U j.2), (4, N j.1)])
    (fun j h' => h = h' ∧ 1 ≤ j.1 ∧ j.1 ≤ xs.length ∧ j.2 ∈ xs ∧ ∀ x ∈ xs.take j.1, j.2 ≤ x) (fun j => xs.length - j.1) (1, x0))
  · exact (Sub.cons rfl (Sub.cons rfl (Sub.cons rfl (Sub.nil _))))
  · refine ⟨rfl, Nat.le_refl _, h0, List.mem_of_getElem? hx0, ?_⟩
    intro x hx
    rw [show (1, x0).1 = 0 + 1 from rfl, take_snoc hx0] at hx
    simp at hx
    dsimp only; omega
  rintro ⟨j, m⟩ h' ⟨rfl, j1, j2, j3, j4⟩
  dsimp only at j1 j2 j3 j4 ⊢
  refine runJ ?_
  (apply w_condD; exact rfl; exact rfl) <;> intro hj
  · obtain ⟨y, hy⟩ := get_lt hj
    refine runJ ?_
    apply s_minU (isK_t rfl) (isK_t rfl) rfl
    refine runJ ?_
    apply again_normal (j + 1, min m y)
    · exact (Sub.cons rfl (Sub.cons rfl (Sub.cons rfl (Sub.nil _))))
    · refine ⟨rfl, by dsimp only; omega, hj, ?_, ?_⟩
      · dsimp only
        rcases Nat.le_total m y with hh | hh
        · rw [Nat.min_eq_left hh]; exact j3
        · rw [Nat.min_eq_right hh]; exact List.mem_of_getElem? hy
      · dsimp only
        intro x hx
        rw [take_snoc hy] at hx
        rcases List.mem_append.1 hx with hx | hx
        · have := j4 x hx; omega
        · simp only [List.mem_singleton] at hx; omega
    · dsimp only; omega
  · rw [List.take_of_length_le (by omega)] at j4
    refine runJ ?_
    exact fin1 rfl rfl ⟨⟨m, rfl, j3, j4⟩, rfl⟩

theorem Tryd_ent11 : Ent Tryd.prog 11 := ent_of Tryd.func11 (by kernel_rfl) rfl
theorem pstep_spec (L : Nat) (h : Hp) (h1 : 1 ≤ L) (h2 : L ≤ 13) : CallsH Tryd.prog 11 [U (2 ^ L)] h fun v' h' => v' = .bool true ∧ h = h' := by
  have hoc := oc_pow L (by omega)
  have hlo : 2 ^ 1 ≤ 2 ^ L := Nat.pow_le_pow_right (by omega) h1
  have hhi : 2 ^ L ≤ 2 ^ 13 := Nat.pow_le_pow_right (by omega) h2
  generalize 2 ^ L = n at *
  (apply enter Tryd.func11 rfl Tryd.ntmps11 rfl)
  refine runJ ?_
  (apply s_splitG; exact rfl; exact rfl; exact rfl; exact rfl) <;> intro g1
  · refine runJ ?_
    (apply s_splitG; exact rfl; exact rfl; exact rfl; exact rfl) <;> intro g2
    · refine runJ ?_
      apply (s_call Tryd_ent20 rfl rfl rfl)
      refine (ones_spec n h (by omega) hoc.1).mono ?_
      rintro _ _ ⟨rfl, rfl⟩
      refine ⟨(by first | exact trivial | exact Ext.refl _ | assumption | exact Ext.trans (by assumption) (by assumption)), ?_⟩
      refine runJ ?_
      exact fin1 rfl rfl ⟨by rw [hoc.2]; rfl, rfl⟩
    · exact absurd (by omega) g2
  · exact absurd (by omega) g1

/-- The least of the powers with odd exponents of one root. -/
def RootR (q n r : Nat) : Prop := r < q ∧ ∃ w, w < q ∧ powm w (n / 2) q = q - 1 ∧ (∃ j, j < n / 2 ∧ r = w ^ (2 * j + 1) % q) ∧ ∀ j, j < n / 2 → r ≤ w ^ (2 * j + 1) % q

theorem odd_next {w q m : Nat} (hq : q ≠ 0) (hm : 1 ≤ m) : mulm (w ^ (2 * (m - 1) + 1) % q) (mulm w w q) q = w ^ (2 * m + 1) % q := by
  unfold mulm
  rw [if_neg hq, if_neg hq, ← Nat.mul_mod, ← Nat.mul_assoc, ← Nat.pow_succ, ← Nat.pow_succ]
  congr 2; omega

theorem Tryd_ent8 : Ent Tryd.prog 8 := ent_of Tryd.func8 (by kernel_rfl) rfl
set_option maxHeartbeats 1000000 in
theorem root_spec (q L X : Nat) (h : Hp) (T : TB h) (h1 : 1 ≤ L) (h2 : L ≤ 13) (hq3 : 3 ≤ q) (hq : q < 18446744073709551616) (hB : isB q = true) (hd : (q - 1) % 2 ^ L = 0) (hX : 2 ≤ X) (hX2 : X < 18446744073709551615)
    (hx : powm (powm X ((q - 1) / 2 ^ L) q) (2 ^ L / 2) q = q - 1) :
    CallsH Tryd.prog 8 [U q, U (2 ^ L)] h fun v' h' => (∃ r, v' = .tuple #[U r, N 0] ∧ RootR q (2 ^ L) r) ∧ Ext h h' := by
  have ST := fun h => pstep_spec L h h1 h2
  have hlo : 2 ^ 1 ≤ 2 ^ L := Nat.pow_le_pow_right (by omega) h1
  have hhi : 2 ^ L ≤ 2 ^ 13 := Nat.pow_le_pow_right (by omega) h2
  have hq0 : ¬ q = 0 := by omega
  generalize 2 ^ L = n at *
  have hdn : ¬ (q - 1) % n ≠ 0 := by omega
  (apply enter Tryd.func8 rfl Tryd.ntmps8 rfl)
  refine runJ ?_
  apply (s_call Tryd_ent11 rfl rfl rfl)
  refine (ST h).mono ?_
  rintro _ _ ⟨rfl, rfl⟩
  refine ⟨(by first | exact trivial | exact Ext.refl _ | assumption | exact Ext.trans (by assumption) (by assumption)), ?_⟩
  refine runJ ?_
  apply (s_call Tryd_ent9 rfl rfl rfl)
  refine (is_spec q h T hq).mono ?_
  rintro _ h2 ⟨rfl, e2⟩
  refine ⟨(by first | exact trivial | exact trivial), ?_⟩
  rw [hB]
  refine runJ ?_
  (apply w_condF; exact rfl; exact rfl; exact hdn)
  refine runJ ?_
  (first | (apply w_seqB; exact rfl; apply w_block; exact rfl) | skip)
  apply (w_loop (σ := Nat × Nat) rfl (fun j => [(0, U q), (1, U n), (6, U j.2), (7, U j.1)])
    (fun j h' => h2 = h' ∧ 2 ≤ j.1 ∧ j.1 ≤ X + 1 ∧ j.2 < q ∧ (j.1 = X + 1 → powm j.2 (n / 2) q = q - 1)) (fun j => X + 1 - j.1) (2, 1))
  · exact (Sub.cons rfl (Sub.cons rfl (Sub.cons rfl (Sub.cons rfl (Sub.nil _)))))
  · exact ⟨rfl, Nat.le_refl _, by dsimp only; omega, by dsimp only; omega, by dsimp only; omega⟩
  rintro ⟨x, w⟩ h3 ⟨rfl, j1, j2, j3, j4⟩
  dsimp only at j1 j2 j3 j4 ⊢
  refine runJ ?_
  apply (s_call Tryd_ent14 rfl rfl rfl)
  refine (pow_spec w (n / 2) q h2 (by omega) (by omega) hq).mono ?_
  rintro _ _ ⟨rfl, rfl⟩
  refine ⟨(by first | exact trivial | exact Ext.refl _ | assumption | exact Ext.trans (by assumption) (by assumption)), ?_⟩
  refine runJ ?_
  (apply w_condD; exact rfl; exact rfl) <;> intro hw
  · have hxX : ¬ x = X + 1 := fun e => hw (j4 e)
    have hpl : powm x ((q - 1) / n) q < q := by unfold powm; rw [if_neg hq0]; exact Nat.mod_lt _ (by omega)
    have hdl : (q - 1) / n < 18446744073709551616 := Nat.lt_of_le_of_lt (Nat.div_le_self _ _) (by omega)
    refine runJ ?_
    apply (s_call Tryd_ent14 rfl rfl rfl)
    refine (pow_spec x ((q - 1) / n) q h2 (by omega) hdl hq).mono ?_
    rintro _ _ ⟨rfl, rfl⟩
    refine ⟨(by first | exact trivial | exact Ext.refl _ | assumption | exact Ext.trans (by assumption) (by assumption)), ?_⟩
    refine runJ ?_
    apply again_normal (x + 1, powm x ((q - 1) / n) q)
    · exact (Sub.cons rfl (Sub.cons rfl (Sub.cons rfl (Sub.cons rfl (Sub.nil _)))))
    · refine ⟨rfl, by dsimp only; omega, by dsimp only; omega, hpl, ?_⟩
      dsimp only
      intro e
      obtain rfl : x = X := by omega
      exact hx
    · dsimp only; omega
  have hw : powm w (n / 2) q = q - 1 := Decidable.of_not_not hw
  refine runJ ?_
  (apply (s_litF (f := U) [w] (fun _ => rfl)); exact rfl; exact rfl; exact rfl; exact rfl; exact rfl; exact rfl; exact rfl; exact rfl; omega)
  intro v4 h4 o4 e4 b4
  refine ⟨(by first | exact trivial | exact Ext.refl _ | assumption | exact Ext.trans (by assumption) (by assumption)), ?_⟩
  have e24 := e2.trans e4
  refine runJ ?_
  apply (s_call Tryd_ent15 rfl rfl rfl)
  refine (mul_spec w w q h4 (by omega) (by omega) hq).mono ?_
  rintro _ _ ⟨rfl, rfl⟩
  refine ⟨(by first | exact trivial | exact Ext.refl _ | assumption | exact Ext.trans (by assumption) (by assumption)), ?_⟩
  have hml : mulm w w q < q := mulm_lt (by omega)
  refine runJ ?_
  (first | (apply w_seqB; exact rfl; apply w_block; exact rfl) | skip)
  apply (w_loop (σ := List Nat × Value) rfl (fun j => [(0, U q), (1, U n), (8, j.2), (9, U (mulm w w q))])
    (fun j h' => Ext h2 h' ∧ OwnF h' h2.size 22 U j.2 j.1 ∧ 1 ≤ j.1.length ∧ j.1.length ≤ n / 2 ∧ ∀ (k : Nat) (y : Nat), j.1[k]? = some y → y = w ^ (2 * k + 1) % q) (fun j => n / 2 - j.1.length) ([w], v4))
  · exact (Sub.cons rfl (Sub.cons rfl (Sub.cons rfl (Sub.cons rfl (Sub.nil _)))))
  · refine ⟨e4, o4, Nat.le_refl _, by simp only [List.length_singleton]; omega, fun k y hk => ?_⟩
    rw [List.getElem?_singleton] at hk
    by_cases hk0 : k = 0
    · subst hk0
      simp at hk
      rw [← hk, Nat.mul_zero, Nat.zero_add, Nat.pow_one, Nat.mod_eq_of_lt j3]
    · rw [if_neg hk0] at hk; cases hk
  rintro ⟨xs, v⟩ h5 ⟨e5, o5, k1, k2, k3⟩
  dsimp only at e5 o5 k1 k2 k3 ⊢
  have e25 := e2.trans e5
  refine runJ ?_
  (apply w_condD; exact rfl; exact rfl) <;> intro hl
  · obtain ⟨y, hy⟩ := get_lt (l := xs) (j := xs.length - 1) (by omega)
    have hyv := k3 _ _ hy
    have hyl : y < q := by rw [hyv]; exact Nat.mod_lt _ (by omega)
    have hnx := odd_next (w := w) hq0 k1
    rw [← hyv] at hnx
    refine runJ ?_
    apply (s_call Tryd_ent15 rfl rfl rfl)
    refine (mul_spec y (mulm w w q) q h5 (by omega) (by omega) hq).mono ?_
    rintro _ _ ⟨rfl, rfl⟩
    refine ⟨(by first | exact trivial | exact Ext.refl _ | assumption | exact Ext.trans (by assumption) (by assumption)), ?_⟩
    refine runJ ?_
    (refine s_app1 (bytes := 8) (mulm y (mulm w w q) q) o5 e5 rfl rfl rfl rfl rfl rfl rfl rfl rfl (by first | exact rfl | exact congrArg some (congrArg I (by omega))) (fun _ => rfl) rfl rfl (fun _ _ => trivial) (by omega) (by simp only [maxLen]; omega) ?_)
    intro v6 h6 o6 e6 k6 b6
    refine runJ ?_
    apply again_normal (xs ++ [mulm y (mulm w w q) q], v6)
    · exact (Sub.cons rfl (Sub.cons rfl (Sub.cons rfl (Sub.cons rfl (Sub.nil _)))))
    · refine ⟨e6, o6, by simp, by simp only [List.length_append, List.length_singleton]; omega, fun k z hk => ?_⟩
      by_cases hkl : k < xs.length
      · rw [List.getElem?_append_left hkl] at hk; exact k3 k z hk
      · have hkl2 : k < xs.length + 1 := by have := (List.getElem?_eq_some_iff.1 hk).1; simpa using this
        obtain rfl : k = xs.length := by omega
        rw [List.getElem?_append_right (Nat.le_refl _), Nat.sub_self] at hk
        simp at hk
        rw [← hk, hnx]
    · simp only [List.length_append, List.length_singleton]; omega
  · have hlen : xs.length = n / 2 := by omega
    have s5 := o5.sl
    refine runJ ?_
    apply (s_call Tryd_ent16 rfl rfl rfl)
    refine (smin_spec v xs h5 s5 (by omega) (by omega)).mono ?_
    rintro _ _ ⟨⟨m, rfl, m1, m2⟩, rfl⟩
    refine ⟨(by first | exact trivial | exact trivial), ?_⟩
    refine runJ ?_
    refine fin2 rfl rfl rfl ⟨⟨m, rfl, ?_⟩, e25⟩
    obtain ⟨k, hk, hkm⟩ := List.getElem_of_mem m1
    have hkv := k3 k m (by rw [List.getElem?_eq_getElem hk, hkm])
    refine ⟨by rw [hkv]; exact Nat.mod_lt _ (by omega), w, j3, hw, ⟨k, by omega, hkv⟩, fun j hj => ?_⟩
    obtain ⟨y, hy⟩ := get_lt (l := xs) (j := j) (by omega)
    rw [← k3 j y hy]
    exact m2 y (List.mem_of_getElem? hy)
end Go.Proofs.YtbhhagdnbkkjpaaDoor

/- Package ntt: what a table holds; the transform in place. No condition. -/
namespace Go.Proofs.YtbhhagdnbkkjpaaDoor
set_option linter.unusedVariables false
set_option maxRecDepth 8000
open Go Go.Den Go.RowKit Go.Mth

/-- A table: its size is 2^L; the root, its inverse, and the size's inverse. -/
structure Tbl where mk ::
  L : Nat
  q : Nat
  w : Nat
  u : Nat
  p : Nat
  vr : Value
  vu : Value
abbrev Tbl.n (t : Tbl) : Nat := 2 ^ t.L
def pows (w q n : Nat) : List Nat := (List.range n).map fun j => w ^ j % q
theorem pows_len (w q n : Nat) : (pows w q n).length = n := by unfold pows; simp
theorem pows_get {w q n j : Nat} (h : j < n) : (pows w q n)[j]? = some (w ^ j % q) := by unfold pows; simp [h]
structure TblOk (t : Tbl) : Prop where mk ::
  l1 : 1 ≤ t.L
  l9 : t.L ≤ 9
  q1 : 1 < t.q
  q61 : t.q < 2305843009213693952
  wl : t.w < t.q
  ul : t.u < t.q
  pl : t.p < t.q
  wn : t.w ^ (2 ^ t.L) % t.q = t.q - 1
  uw : t.w * t.u % t.q = 1
  np : 2 ^ t.L * t.p % t.q = 1
theorem TblOk.size {t : Tbl} (k : TblOk t) : 2 ≤ 2 ^ t.L ∧ 2 ^ t.L ≤ 512 :=
  ⟨Nat.pow_le_pow_right (n := 2) (by omega) k.l1, Nat.pow_le_pow_right (n := 2) (by omega) k.l9⟩

/-- A row that fits: so long, all below. -/
def Fit (n q : Nat) (xs : List Nat) : Prop := xs.length = n ∧ ∀ x ∈ xs, x < q
instance (n q : Nat) (xs : List Nat) : Decidable (Fit n q xs) := by unfold Fit; exact inferInstance

/-- Each times the power of its place. -/
def twl (w q : Nat) (xs : List Nat) : List Nat := (List.range xs.length).map fun j => mulm (xs.getD j 0) (w ^ j % q) q

end Go.Proofs.YtbhhagdnbkkjpaaDoor

/- Own calculus: a drawn region in which some operations only read, in any order among themselves, ahead of others that write. No condition. -/
namespace Go.Den
set_option linter.unusedVariables false
set_option maxRecDepth 8000
open Go Go.RowKit

/-- A load of one cell. -/
def roOp (P : Program) (o : Oper) : Bool := match o.op with
  | .load t _ => plainTy P t
  | _ => false

section order
variable {P : Program} {ops : Array Oper} {C : World → Prop} {E R : Nat → Bool}
theorem ro_run {o : Oper} {a : Act} {w : World} {K : Value → World → Prop} (ho : roOp P o = true) (h : Eff P o a w K) : ∃ v, (execOp a.eval o).run P w = .ok (.value v) w ∧ K v w := by
  obtain ⟨d, op, ty, ps, af, g⟩ := o
  unfold roOp at ho
  cases op <;> first | cases ho | skip
  rename_i t x
  unfold Eff at h
  simp only [execOp, Sem.run_bind] at h ⊢
  cases hx : a.eval x with
  | pointer p =>
    cases p with
    | none => rw [hx] at h; exact h.elim
    | some p =>
      rw [hx] at h
      cases hc : w.cell? p with
      | some u =>
        rw [run_load1 ho hc] at h ⊢
        exact ⟨u, rfl, h⟩
      | none =>
        have e : (Instr.loadAt t (.pointer (some p))).run P w = (load p).run P w := by
          show ((do let x ← isAgg t; if x then (do pure (.agg (← loadCells p (← sizeOf t)))) else load p : Sem Value)).run P w = _
          rw [Sem.run_bind, run_isAgg_plain ho w]
          simp
        have e2 : (load p).run P w = match World.farLoad P w p (Mode.plain == Mode.atomic) with
            | .ok (v, _) => .ok v w
            | .error x => .halt x w := by
          unfold load Sem.run
          rw [hc]
          rfl
        rw [e, e2] at h ⊢
        cases hf : World.farLoad P w p (Mode.plain == Mode.atomic) with
        | ok y => rw [hf] at h; exact ⟨y.1, rfl, h⟩
        | error x => rw [hf] at h; exact h.elim
  | _ => rw [hx] at h; exact h.elim

theorem pullR (hs : NoSel ops) {Q : Act → World → Prop} {j : Nat} {oj : Oper} (hj : ops[j]? = some oj) (post : List Nat) : ∀ (pre : List Nat) (a : Act) (w : World), C w →
    (∀ i ∈ pre, (∀ oi, ops[i]? = some oi → oi.apart ops oj = true) ∧ (¬ (E i = true ∧ E j = true) ∨ (roOp P oj = true ∧ ∀ oi, ops[i]? = some oi → roOp P oi = true))) →
    Mix P ops C E Q (pre ++ j :: post) a w →
    (∃ v, Stab P ops C oj v a ∧ Mix P ops C E Q (pre ++ post) (a.put oj.dst v) w) ∨
    (E j = true ∧ Wanted ops oj a = true ∧ Eff P oj a w fun v w' => C w' ∧ Mix P ops C E Q (pre ++ post) (a.put oj.dst v) w')
  | [], a, w, _, _, h => by
    obtain ⟨o, ho, h⟩ := h
    rw [hj] at ho; cases ho
    exact h
  | i :: pre, a, w, hC, hp, h => by
    obtain ⟨oi, hi, h⟩ := h
    obtain ⟨hap, hch⟩ := hp i (by simp)
    have hp' : ∀ i ∈ pre, (∀ oi, ops[i]? = some oi → oi.apart ops oj = true) ∧ (¬ (E i = true ∧ E j = true) ∨ (roOp P oj = true ∧ ∀ oi, ops[i]? = some oi → roOp P oi = true)) := fun k hk => hp k (by simp [hk])
    obtain ⟨h1, h2, h3⟩ := Oper.apart_spec (hap oi hi)
    have hsi : ∀ cs b, oi.op ≠ .select cs b := fun cs b => hs i oi cs b hi
    have hsj : ∀ cs b, oj.op ≠ .select cs b := fun cs b => hs j oj cs b hj
    -- j does not see what i writes; i does not see what j writes
    have ej : ∀ (a : Act) (u : Value), execOp (a.put oi.dst u).eval oj = execOp a.eval oj := fun a u => execOp_put oj hsj a oi.dst u h1
    have wj : ∀ (a : Act) (u : Value), Wanted ops oj (a.put oi.dst u) = Wanted ops oj a := fun a u => wanted_put oj a oi.dst u h1
    have ei : ∀ (a : Act) (u : Value), execOp (a.put oj.dst u).eval oi = execOp a.eval oi := fun a u => execOp_put oi hsi a oj.dst u h3
    have wi : ∀ (a : Act) (u : Value), Wanted ops oi (a.put oj.dst u) = Wanted ops oi a := fun a u => wanted_put oi a oj.dst u h3
    have pc : ∀ (a : Act) (u v : Value), (a.put oi.dst u).put oj.dst v = (a.put oj.dst v).put oi.dst u := fun a u v => Act.put_comm a u v h2
    rcases h with ⟨u, hu, h⟩ | ⟨hE, hW, h⟩
    · rcases pullR hs hj post pre (a.put oi.dst u) w hC hp' h with ⟨v, hv, k⟩ | ⟨hEj, hWj, k⟩
      · refine .inl ⟨v, hv.of_same (ej a u).symm (wj a u).symm, oi, hi, .inl ⟨u, hu.of_same (ei a v) (wi a v), ?_⟩⟩
        rw [← pc a u v]; exact k
      · refine .inr ⟨hEj, by rw [← wj a u]; exact hWj, ?_⟩
        unfold Eff at k ⊢
        rw [ej a u] at k
        exact EffUpon_mono (fun v w' hk => ⟨hk.1, oi, hi, .inl ⟨u, hu.of_same (ei a v) (wi a v), by rw [← pc a u v]; exact hk.2⟩⟩) k
    · rcases hch with hch | ⟨rj, ri⟩
      rotate_left
      · have ri := ri oi hi
        obtain ⟨u, hu, hC', h⟩ := ro_run ri h
        rcases pullR hs hj post pre (a.put oi.dst u) w hC' hp' h with ⟨v, hv, k⟩ | ⟨hEj, hWj, k⟩
        · refine .inl ⟨v, hv.of_same (ej a u).symm (wj a u).symm, oi, hi, .inr ⟨hE, by rw [wi a v]; exact hW, ?_⟩⟩
          unfold Eff
          rw [ei a v, hu]
          exact ⟨hC', by rw [← pc a u v]; exact k⟩
        · unfold Eff at k
          rw [ej a u] at k
          obtain ⟨v, hv, -, k⟩ := ro_run rj k
          refine .inr ⟨hEj, by rw [← wj a u]; exact hWj, ?_⟩
          unfold Eff
          rw [hv]
          refine ⟨hC', oi, hi, .inr ⟨hE, by rw [wi a v]; exact hW, ?_⟩⟩
          unfold Eff
          rw [ei a v, hu]
          exact ⟨hC', by rw [← pc a u v]; exact k⟩
      have hEj : ¬ E j = true := fun e => hch ⟨hE, e⟩
      have step : Eff P oi a w fun u w' => C w' ∧ ∃ v, Stab P ops C oj v a ∧ Mix P ops C E Q (pre ++ post) ((a.put oj.dst v).put oi.dst u) w' := by
        refine Eff_mono (fun u w' hk => ⟨hk.1, ?_⟩) h
        rcases pullR hs hj post pre (a.put oi.dst u) w' hk.1 hp' hk.2 with ⟨v, hv, k⟩ | ⟨hEj', -, -⟩
        · exact ⟨v, hv.of_same (ej a u).symm (wj a u).symm, by rw [← pc a u v]; exact k⟩
        · exact absurd hEj' hEj
      obtain ⟨u0, w0, hc0, v0, hv0, -⟩ := EffUpon_some step
      refine .inl ⟨v0, hv0, oi, hi, .inr ⟨hE, by rw [wi a v0]; exact hW, ?_⟩⟩
      unfold Eff at step ⊢
      rw [ei a v0]
      refine EffUpon_mono (fun u w' hk => ?_) step
      obtain ⟨hc, v, hv, k⟩ := hk
      rw [Stab.unique hC hv hv0] at k
      exact ⟨hc, k⟩

/-- As regionOk, but two that only read need no order between them: edges lead back; two operations, one behind the other, are apart, or the later one waits for the earlier one; of two that act the later one comes behind the earlier one. -/
def regionOkR (P : Program) (ops : List Oper) (E R : Nat → Bool) : Bool :=
  let A := ops.toArray
  let an := ancGo ops #[]
  Region.noSelect A &&
  ops.zipIdx.all fun (oj, j) =>
    oj.after.toList.all (fun e => !Region.binds .any e || Nat.blt e.on j) &&
    (ops.take j).zipIdx.all fun (oi, i) =>
      ((oj.after.toList.any fun e => Region.binds .any e && Nat.beq e.on i) || oi.apart A oj) &&
      (!(E i && E j) || (R i && R j && roOp P oi && roOp P oj) || (an.getD j 0).testBit i)

theorem regionOkR_spec {l : List Oper} (h : regionOkR P l E R = true) : NoSel l.toArray ∧
    (∀ j oj, l[j]? = some oj → ∀ e ∈ oj.after.toList, Region.binds .any e = true → e.on < j) ∧
    (∀ i j oi oj, i < j → l[i]? = some oi → l[j]? = some oj → ((∃ e ∈ oj.after.toList, Region.binds .any e = true ∧ e.on = i) ∨ oi.apart l.toArray oj = true) ∧
      (E i = true → E j = true → (roOp P oi = true ∧ roOp P oj = true) ∨ ((ancGo l #[]).getD j 0).testBit i = true)) := by
  unfold regionOkR at h
  simp only [Bool.and_eq_true] at h
  obtain ⟨h0, h⟩ := h
  refine ⟨Region.noSelect_spec h0, fun j oj hj e he hb => ?_, fun i j oi oj hij hi hj => ?_⟩
  · have h1 := zipIdx_all h hj
    simp only [Bool.and_eq_true, List.all_eq_true] at h1
    have := h1.1 e he
    simp only [hb, Bool.not_true, Bool.false_or] at this
    exact Nat.le_of_ble_eq_true this
  · have h1 := zipIdx_all h hj
    simp only [Bool.and_eq_true] at h1
    have h2 := zipIdx_all h1.2 (show (l.take j)[i]? = some oi by rw [List.getElem?_take, if_pos hij]; exact hi)
    simp only [Bool.and_eq_true, Bool.or_eq_true] at h2
    obtain ⟨h3, h4⟩ := h2
    refine ⟨?_, fun ei ej => ?_⟩
    · rcases h3 with h3 | h3
      · rw [List.any_eq_true] at h3
        obtain ⟨e, he, hb⟩ := h3
        simp only [Bool.and_eq_true] at hb
        exact .inl ⟨e, he, hb.1, Nat.eq_of_beq_eq_true hb.2⟩
      · exact .inr h3
    · rcases h4 with (h4 | h4) | h4
      · simp [ei, ej] at h4
      · exact .inl ⟨h4.1.2, h4.2⟩
      · exact .inr h4

theorem any_of_mixR {l : List Oper} {Q : Exit → Act → World → Prop} (h : regionOkR P l E R = true) : ∀ (m : Nat) (L : List Nat) (listed : Array Bool) (a : Act) (w : World),
    L.length = m → L.Pairwise (· < ·) → (∀ i, i ∈ L ↔ i < l.length ∧ listed.getD i true = false) → listed.size = l.length →
    Closed l.toArray (fun i => listed.getD i false) → C w → Mix P l.toArray C E (fun a w => Q .normal a w) L a w → wpAny P .any l.toArray Q m listed a w := by
  obtain ⟨hs, hback, hpair⟩ := regionOkR_spec h
  intro m
  induction m with
  | zero =>
    intro L listed a w hlen hsort hmem hsz hcl hC hm
    have hL : L = [] := List.length_eq_zero_iff.1 hlen
    subst hL
    refine ⟨?_, hm⟩
    rw [List.eq_nil_iff_forall_not_mem]
    intro j hj
    obtain ⟨h1, o, ho, -⟩ := mem_ready.1 hj
    have hjl : j < l.length := by simpa using (Array.getElem?_eq_some_iff.1 ho).1
    have := (hmem j).2 ⟨hjl, h1⟩
    simp at this
  | succ m ih =>
    intro L listed a w hlen hsort hmem hsz hcl hC hm
    refine ⟨fun hnil => ?_, fun j hj => ?_⟩
    · -- the first that is left may come up
      cases L with
      | nil => simp at hlen
      | cons k L' =>
        exfalso
        have hk := (hmem k).1 (by simp)
        have hkr : k ∈ Region.ready .any l.toArray listed := by
          refine mem_ready.2 ⟨hk.2, l[k]'hk.1, by simp [hk.1], fun e he hb => ?_⟩
          have hlt := hback k (l[k]'hk.1) (by simp [hk.1]) e (by simpa using he) hb
          have hlt' : e.on < l.length := Nat.lt_trans hlt hk.1
          cases hg : listed.getD e.on true with
          | true =>
            rw [Array.getD_eq_getD_getElem?] at hg ⊢
            rw [Array.getElem?_eq_getElem (by omega)] at hg ⊢
            simpa using hg
          | false =>
            have hin := (hmem e.on).2 ⟨hlt', hg⟩
            rcases List.mem_cons.1 hin with heq | hin'
            · omega
            · have := (List.pairwise_cons.1 hsort).1 _ hin'
              omega
        rw [hnil] at hkr
        cases hkr
    · obtain ⟨hj1, oj, hoj, hjall⟩ := mem_ready.1 hj
      have hjl : j < l.length := by simpa using (Array.getElem?_eq_some_iff.1 hoj).1
      have hoj' : l[j]? = some oj := by simpa using hoj
      have hjL : j ∈ L := (hmem j).2 ⟨hjl, hj1⟩
      obtain ⟨pre, post, rfl⟩ := List.append_of_mem hjL
      have hpre : ∀ i ∈ pre, i < j := fun i hi => by
        have := List.pairwise_append.1 hsort
        exact this.2.2 i hi j (by simp)
      have hdep : ∀ e ∈ oj.after.toList, Region.binds .any e = true → listed.getD e.on false = true := fun e he hb => hjall e (by simpa using he) hb
      have hap : ∀ i ∈ pre, (∀ oi, l.toArray[i]? = some oi → oi.apart l.toArray oj = true) ∧ (¬ (E i = true ∧ E j = true) ∨ (roOp P oj = true ∧ ∀ oi, l.toArray[i]? = some oi → roOp P oi = true)) := fun i hi => by
        have hi1 := (hmem i).1 (by simp [hi])
        have hif : listed.getD i false = false := by
          have h1 := hi1.2
          rw [Array.getD_eq_getD_getElem?] at h1 ⊢
          rw [Array.getElem?_eq_getElem (by omega)] at h1 ⊢
          simpa using h1
        refine ⟨fun oi hoi => ?_, ?_⟩
        · obtain ⟨hor, -⟩ := hpair i j oi oj (hpre i hi) (by simpa using hoi) hoj'
          rcases hor with ⟨e, he, hb, heq⟩ | hap
          · have := hdep e he hb
            rw [heq, hif] at this
            cases this
          · exact hap
        · obtain ⟨-, hch⟩ := hpair i j (l[i]'hi1.1) oj (hpre i hi) (by simp [hi1.1]) hoj'
          by_cases e12 : E i = true ∧ E j = true
          rotate_left
          · exact .inl e12
          obtain ⟨e1, e2⟩ := e12
          rcases hch e1 e2 with ⟨q1, q2⟩ | hb
          · refine .inr ⟨q2, fun oi hoi => ?_⟩
            obtain rfl : l[i]'hi1.1 = oi := by
              have : l[i]? = some oi := by simpa using hoi
              rw [List.getElem?_eq_getElem hi1.1] at this
              exact Option.some.inj this
            exact q1
          exfalso
          have := anc_sound (ops := l.toArray) hcl l #[] (by simp) (by simp) (fun k _ hk => ⟨l[k]'(by simpa using hk), by simp at hk; simp [hk]⟩) (by simp) j oj hoj (by simpa using hjl) hdep i hb
          rw [hif] at this
          cases this
      have hmem' : ∀ i, i ∈ pre ++ post ↔ i < l.length ∧ (listed.setIfInBounds j true).getD i true = false := fun i => by
        have hnd : i ∈ pre ++ post ↔ i ∈ pre ++ j :: post ∧ i ≠ j := by
          have hq := List.pairwise_append.1 hsort
          have hq2 := List.pairwise_cons.1 hq.2.1
          constructor
          · intro hi
            refine ⟨by rcases List.mem_append.1 hi with hi | hi <;> simp [hi], fun heq => ?_⟩
            subst heq
            rcases List.mem_append.1 hi with hi | hi
            · exact Nat.lt_irrefl _ (hpre _ hi)
            · exact Nat.lt_irrefl _ (hq2.1 _ hi)
          · rintro ⟨hi, hne⟩
            rcases List.mem_append.1 hi with hi | hi
            · simp [hi]
            · rcases List.mem_cons.1 hi with hi | hi
              · exact absurd hi hne
              · simp [hi]
        rw [hnd, hmem i]
        by_cases hij : j = i
        · subst hij
          have hset : (listed.setIfInBounds j true).getD j true = true := by
            rw [Array.getD_eq_getD_getElem?, Array.getElem?_setIfInBounds_self_of_lt (by omega)]; rfl
          rw [hset]
          simp
        · rw [getD_set_ne true hij]
          constructor
          · rintro ⟨⟨h1, h2⟩, -⟩; exact ⟨h1, h2⟩
          · rintro ⟨h1, h2⟩; exact ⟨⟨h1, h2⟩, fun e => hij e.symm⟩
      have hcl' : Closed l.toArray (fun i => (listed.setIfInBounds j true).getD i false) := fun k o hk hl e he hb => by
        by_cases hkj : j = k
        · subst hkj
          rw [hoj] at hk; cases hk
          exact getD_set_true (hdep e he hb)
        · have hl' : listed.getD k false = true := by
            have := getD_set_ne (listed := listed) false hkj
            simp only [this] at hl
            exact hl
          exact getD_set_true (hcl k o hk hl' e he hb)
      have hlen' : (pre ++ post).length = m := by simp at hlen ⊢; omega
      have hsort' : (pre ++ post).Pairwise (· < ·) := by
        refine hsort.sublist ?_
        exact List.Sublist.append_left (List.sublist_cons_self _ _) _
      have next : ∀ a' w', C w' → Mix P l.toArray C E (fun a w => Q .normal a w) (pre ++ post) a' w' → wpAny P .any l.toArray Q m (listed.setIfInBounds j true) a' w' := fun a' w' hC' hm' =>
        ih (pre ++ post) (listed.setIfInBounds j true) a' w' hlen' hsort' hmem' (by simpa using hsz) hcl' hC' hm'
      unfold wpOp
      simp only [hoj]
      rcases pullR hs hoj post pre a w hC hap hm with ⟨v, hv, k⟩ | ⟨-, hW, k⟩
      · rcases hv with ⟨hW, hr⟩ | ⟨hW, rfl⟩
        · rw [if_pos (show Region.wanted _ _ = true from hW)]
          refine .inl ?_
          unfold Oper.wp
          rw [hr w hC]
          exact next _ _ hC k
        · rw [if_neg (by unfold Wanted at hW; rw [hW]; exact Bool.false_ne_true)]
          exact next _ _ hC k
      · rw [if_pos (show Region.wanted _ _ = true from hW)]
        exact .inl (wp_of_Eff (fun v w' hk => next _ _ hk.1 hk.2) k)


theorem region_drawnR {id : Nat} {l : List Oper} {Q : Exit → Act → World → Prop} {a : Act} {w : World} (hm : P.follows .mixedOrders = true) (hok : regionOkR P l E R = true)
    (hC : C { w with drawn := w.drawn + 1 }) (h : Mix P l.toArray C E (fun a w => Q .normal a w) (List.range l.length) a { w with drawn := w.drawn + 1 }) :
    (Code.region id l.toArray true).wp P Q a w := by
  refine wp_region_any hm ?_
  have := any_of_mixR (P := P) (C := C) (Q := Q) hok l.length (List.range l.length) (Array.replicate l.length false) a { w with drawn := w.drawn + 1 } (by simp) List.pairwise_lt_range
    (fun i => by
      rw [List.mem_range]
      constructor
      · intro hi
        refine ⟨hi, ?_⟩
        rw [Array.getD_eq_getD_getElem?, Array.getElem?_eq_getElem (by simpa using hi)]
        simp
      · exact fun hi => hi.1)
    (by simp) (fun k o _ hk e _ _ => by
      exfalso
      by_cases hlt : k < l.length
      · simp [Array.getD_eq_getD_getElem?, hlt] at hk
      · simp [Array.getD_eq_getD_getElem?, hlt] at hk) hC h
  simpa using this


end order

section rules
variable {P : Program} {n : Nat} {Q : Post} {l : Fr} {h : Hp}
theorem r_drawnR {c : Code} (Ch : Hp → Prop) (R : Nat → Bool) (hc : tagOf c = .region true) (hm : P.follows .mixedOrders = true) (hok : regionOkR P (opsOf c) (fun i => effB (opsOf c) i || R i) R = true) (hC : Ch h)
    (k : S P n (opsOf c) Ch (fun i => effB (opsOf c) i || R i) Q 0 l h) : W P n c Q l h := W.mk fun a w hf hw => by
  cases c <;> cases hc
  rename_i id ops
  have := region_drawnR (id := id) (l := ops.toList) (Q := lift n Q w) (C := fun w' => Oth w w' ∧ Ch w'.heap) hm hok ⟨⟨rfl, rfl, rfl⟩, by rw [← hw] at hC; exact hC⟩ (a := a) (by
    have := k.run a { w with drawn := w.drawn + 1 } w hf hw ⟨rfl, rfl, rfl⟩
    rw [Nat.sub_zero, ← List.range_eq_range'] at this
    exact this)
  simpa using this
theorem rd_now {Ch : Hp → Prop} {E : Nat → Bool} {i : Nat} {h : Hp} {p : Hp → Prop} (hE : E i = true) (hC : Ch h) (hp : p h) : Rd Ch E i h p := ⟨.inl ⟨hE, hC, hp⟩⟩
end rules
end Go.Den

/- Package ntt: the transform in place. No condition. -/
namespace Go.Proofs.YtbhhagdnbkkjpaaDoor
set_option linter.unusedVariables false
set_option maxRecDepth 8000
open Go Go.Den Go.RowKit Go.Mth

theorem pow_split {L s : Nat} (h : s < L) : 2 ^ L = 2 ^ (L - s - 1) * (2 * 2 ^ s) := by
  rw [Nat.mul_left_comm, ← Nat.pow_add, show L - s - 1 + s = L - 1 by omega, ← Nat.pow_succ', show (L - 1).succ = L by omega]
theorem pow_by {L s : Nat} (h : s ≤ L) : 2 ^ L / 2 ^ s = 2 ^ (L - s) := Nat.pow_div h (by decide)
theorem pow_kb {L s k : Nat} (h : s ≤ L) (hk : k < 2 ^ s) : k * 2 ^ (L - s) < 2 ^ L := by
  have := Nat.mul_lt_mul_of_pos_right hk (Nat.two_pow_pos (L - s))
  rwa [← Nat.pow_add, show s + (L - s) = L by omega] at this
theorem blk_room {M D c n : Nat} (hn : n = M * D) (h : c * D < n) : c * D + D ≤ n := by
  subst hn
  have : c < M := Nat.lt_of_mul_lt_mul_right h
  rw [← Nat.succ_mul]; exact Nat.mul_le_mul_right _ this

abbrev gt (xs : List Nat) (p : Nat) : Int := ((xs.getD p 0 : Nat) : Int)
/-- What the transform leaves. -/
def Trn (L q z : Nat) (xs ys : List Nat) : Prop := Fit (2 ^ L) q ys ∧ ∀ k, k < 2 ^ L → Cg q (gt ys k) (sm (2 ^ L) fun j => gt xs j * (z : Int) ^ (2 * (k * j)))

theorem fit_of {n q : Nat} {ys : List Nat} (hl : ys.length = n) (h : ∀ p, p < n → ys.getD p 0 < q) : Fit n q ys := ⟨hl, fun x hx => by
  obtain ⟨k, hk, rfl⟩ := List.getElem_of_mem hx
  have := h k (by omega)
  rw [getD_of (List.getElem?_eq_getElem hk)] at this
  exact this⟩
theorem fit_get {n q : Nat} {ys : List Nat} (h : Fit n q ys) {p : Nat} (hp : p < n) : ys.getD p 0 < q := h.2 _ (List.mem_of_getElem? (getD_lt (by rw [h.1]; exact hp)))

end Go.Proofs.YtbhhagdnbkkjpaaDoor

/- Package ntt: values, back, products. No condition. -/
namespace Go.Proofs.YtbhhagdnbkkjpaaDoor
set_option linter.unusedVariables false
set_option maxRecDepth 8000
open Go Go.Den Go.RowKit Go.Mth

theorem own_sepV {α : Type} {h h1 : Hp} {f : α → Value} {B : Nat} {e e' : TypeId} {w p : Value} {ws : List α} {cs : List Value} (o : OwnF h1 B e f w ws) (s : Var h p e' cs) (hB : h.size ≤ B) : pblk p ≠ w.ownBlock := by
  obtain ⟨j, hj, hlt⟩ := s.blk
  rw [hj]
  intro hc
  have := (o.blk j hc.symm).1
  omega
theorem own_sepS {α β : Type} {h h1 : Hp} {f : α → Value} {f' : β → Value} {B : Nat} {e : TypeId} {w v : Value} {ws : List α} {xs : List β} (o : OwnF h1 B e f w ws) (s : SlF h f' v xs) (h0 : 0 < xs.length) (hB : h.size ≤ B) : v.ownBlock = none ∨ v.ownBlock ≠ w.ownBlock := by
  cases hv : v.ownBlock with
  | none => exact .inl rfl
  | some j =>
    refine .inr fun hc => ?_
    have h1 := s.lt h0 j hv
    have := (o.blk j hc.symm).1
    omega

theorem twl_len (z q : Nat) (xs : List Nat) : (twl z q xs).length = xs.length := by unfold twl; simp
theorem twl_get {z q : Nat} {xs : List Nat} {j : Nat} (h : j < xs.length) : (twl z q xs).getD j 0 = mulm (xs.getD j 0) (z ^ j % q) q := by
  refine getD_of ?_
  unfold twl; rw [List.getElem?_map, List.getElem?_range h]; rfl
theorem twl_fit {z q n : Nat} {xs : List Nat} (hq : 0 < q) (h : xs.length = n) : Fit n q (twl z q xs) := fit_of (by rw [twl_len, h]) fun p hp => by rw [twl_get (by omega)]; exact mulm_lt hq
theorem twl_cg {z q : Nat} {xs : List Nat} {j : Nat} (hq : 0 < q) (h : j < xs.length) : Cg q (gt (twl z q xs) j) (gt xs j * (z : Int) ^ j) := by
  unfold gt; rw [twl_get h]
  exact (cg_mulm hq _ _).trans ((Cg.refl _ _).mul (cg_of_mod (a := z ^ j) (Cg.of_eq (Int.natCast_pow _ _)) _ (Nat.mod_mod _ _)))

theorem TblOk.cw {t : Tbl} (K : TblOk t) : Cg t.q ((t.w : Int) ^ (2 ^ t.L)) (-1) := cg_root K.q1 K.wn
theorem TblOk.cuw {t : Tbl} (K : TblOk t) : Cg t.q ((t.u : Int) * t.w) 1 := by rw [Int.mul_comm]; exact cg_one K.uw
theorem TblOk.cu {t : Tbl} (K : TblOk t) : Cg t.q ((t.u : Int) ^ (2 ^ t.L)) (-1) := u_root K.cuw K.cw
theorem TblOk.cp {t : Tbl} (K : TblOk t) : Cg t.q (((2 ^ t.L : Nat) : Int) * t.p) 1 := cg_one K.np

/-- The values of a row; the row of values. -/
def Val (t : Tbl) (xs ys : List Nat) : Prop := Fit (2 ^ t.L) t.q ys ∧ ∀ k, k < 2 ^ t.L → Cg t.q (gt ys k) (dft (2 ^ t.L) t.w (gt xs) k)
def Bck (t : Tbl) (xs ys : List Nat) : Prop := Fit (2 ^ t.L) t.q ys ∧ ∀ k, k < 2 ^ t.L → Cg t.q (gt ys k) (idft (2 ^ t.L) t.u t.p (gt xs) k)

theorem val_of {t : Tbl} (K : TblOk t) {xs ys : List Nat} (hl : xs.length = 2 ^ t.L) (h : Trn t.L t.q t.w (twl t.w t.q xs) ys) : Val t xs ys := by
  refine ⟨h.1, fun k hk => (h.2 k hk).trans ?_⟩
  refine sm_cg _ fun j hj => ((twl_cg (by have := K.q1; omega) (by omega)).mul (Cg.refl _ _)).trans (Cg.of_eq ?_)
  rw [Int.mul_assoc, ← Int.pow_add]
  congr 2
  grind
theorem bck_of {t : Tbl} (K : TblOk t) {xs ys zs : List Nat} (h : Trn t.L t.q t.u xs ys) (hz : zs = (twl t.u t.q ys).map fun y => mulm y t.p t.q) : Bck t xs zs := by
  have hq : 0 < t.q := by have := K.q1; omega
  have hg : ∀ k, k < 2 ^ t.L → zs.getD k 0 = mulm ((twl t.u t.q ys).getD k 0) t.p t.q := fun k hk => by
    refine getD_of ?_
    rw [hz, List.getElem?_map, getD_lt (by rw [twl_len, h.1.1]; exact hk)]; rfl
  refine ⟨fit_of (by rw [hz, List.length_map, twl_len, h.1.1]) fun p hp => by rw [hg p hp]; exact mulm_lt hq, fun k hk => ?_⟩
  unfold gt; rw [hg k hk]
  refine (cg_mulm hq _ _).trans ?_
  refine ((twl_cg hq (by rw [h.1.1]; exact hk)).mul (Cg.refl _ _)).trans ?_
  refine (((h.2 k hk).mul (Cg.refl _ _)).mul (Cg.refl _ _)).trans (Cg.of_eq ?_)
  unfold idft
  rw [Int.mul_comm _ (t.p : Int), Int.mul_comm _ ((t.u : Int) ^ k)]

theorem set_get {ys : List Nat} {j k x y : Nat} (hj : j < ys.length) (h : (ys.set j x)[k]? = some y) : (k = j ∧ y = x) ∨ (k ≠ j ∧ ys[k]? = some y) := by
  rw [List.getElem?_set] at h
  by_cases e : j = k
  · subst e
    rw [if_pos rfl, if_pos hj] at h
    cases h
    exact .inl ⟨rfl, rfl⟩
  · rw [if_neg e] at h
    exact .inr ⟨fun e' => e e'.symm, h⟩

end Go.Proofs.YtbhhagdnbkkjpaaDoor

/- Package ntt: products, and how a table is made. Condition of the last: the table of math/bits reads aa it is laid. -/
namespace Go.Proofs.YtbhhagdnbkkjpaaDoor
set_option linter.unusedVariables false
set_option maxRecDepth 8000
open Go Go.Den Go.RowKit Go.Mth

theorem sep_flip {a b : Option Nat} (h : a = none ∨ a ≠ b) : b = none ∨ b ≠ a := by
  rcases h with h | h
  · subst h; cases b <;> simp
  · exact .inr fun e => h e.symm

/-- The product of two rows, told by its values. -/
def Prd (t : Tbl) (aa bb rs : List Nat) : Prop := Fit (2 ^ t.L) t.q rs ∧ ∀ k, k < 2 ^ t.L → Cg t.q (dft (2 ^ t.L) t.w (gt rs) k) (dft (2 ^ t.L) t.w (gt aa) k * dft (2 ^ t.L) t.w (gt bb) k)
theorem prd_of {t : Tbl} (K : TblOk t) {aa bb xs ys zs rs : List Nat} (hx : Val t aa xs) (hy : Val t bb ys) (hz : ∀ k, k < 2 ^ t.L → zs.getD k 0 = mulm (xs.getD k 0) (ys.getD k 0) t.q) (hr : Bck t zs rs) : Prd t aa bb rs := by
  have hq : 0 < t.q := by have := K.q1; omega
  refine ⟨hr.1, fun k hk => ?_⟩
  refine (dft_cg (b := fun i => idft (2 ^ t.L) t.u t.p (gt zs) i) (fun j hj => hr.2 j hj) k).trans ?_
  refine (dft_idft K.cw K.cuw K.cp (gt zs) hk).trans ?_
  have e : gt zs k = ((mulm (xs.getD k 0) (ys.getD k 0) t.q : Nat) : Int) := by unfold gt; rw [hz k hk]
  rw [e]
  exact (cg_mulm hq _ _).trans ((hx.2 k hk).mul (hy.2 k hk))

def rootOf (t : Tbl) : Prop := RootR t.q (2 * 2 ^ t.L) t.w

theorem root_pow {q n r : Nat} (hq : 1 < q) (hn : 2 ≤ n) (h : RootR q n r) (hq2 : q % 2 = 1) : r ^ (n / 2) % q = q - 1 := by
  obtain ⟨-, w, hw, hp, ⟨j, hj, rfl⟩, -⟩ := h
  have hp : w ^ (n / 2) % q = q - 1 := by unfold powm at hp; rw [if_neg (by omega)] at hp; exact hp
  have h1 : Cg q ((w : Int) ^ (n / 2)) (-1) := cg_root hq hp
  rw [← Nat.pow_mod, ← Nat.pow_mul]
  have h2 := pow_odd h1 j
  rw [Nat.mul_comm (n / 2)] at h2
  have h3 : Cg q (((w ^ ((2 * j + 1) * (n / 2)) % q : Nat) : Int)) (((q - 1 : Nat) : Int)) := by
    rw [Int.natCast_emod, Int.natCast_pow]
    refine (Cg.mod _ _).trans (h2.trans (Cg.symm ?_))
    rw [Int.ofNat_sub (by omega)]
    exact ((Cg.q0 _).sub (Cg.refl _ _)).trans (Cg.of_eq (by omega))
  exact h3.eqN (Nat.mod_lt _ (by omega)) (by omega)

/-- A table that lies in new blocks. -/
structure NewT (B : Nat) (g : Value) (t : Tbl) : Prop where mk ::
  p : ∃ k, pblk g = some k ∧ B ≤ k
  vr : ∀ k, t.vr.ownBlock = some k → B ≤ k
  vu : ∀ k, t.vu.ownBlock = some k → B ≤ k

end Go.Proofs.YtbhhagdnbkkjpaaDoor
