/- Texts PriB to NttC of this work, joined, without what the law does not lean on. -/
import Derived.Test.YtfcmdefigldpnaaGreatDoorMCb13
namespace Go.Proofs.YtfcmdefigldpnaaGreatDoor
set_option linter.unusedVariables false
set_option maxRecDepth 8000
open Go Go.Den Go.RowKit Go.Mth

theorem Tryz_ent197 : Ent Tryz.prog 197 := ent_of Tryz.func197 (by kernel_rfl) rfl
theorem smin_spec (v : Value) (xs : List Nat) (h : Hp) (s : SlF h U v xs) (h0 : 0 < xs.length) (hl : xs.length < 4611686018427387904) :
    CallsH Tryz.prog 197 [v] h fun v' h' => (∃ m, v' = U m ∧ m ∈ xs ∧ ∀ x ∈ xs, m ≤ x) ∧ h = h' := by
  obtain ⟨x0, hx0⟩ := get_lt h0
  (apply enter Tryz.func197 rfl Tryz.ntmps197 rfl)
  refine runJ ?_
  (apply w_condF; exact rfl; exact rfl; exact (show ¬ xs.length < 1 by omega))
  refine runJ ?_
  (first | (apply w_seqB; exact rfl; apply w_block; exact rfl) | skip)
  apply (w_loop (σ := Nat × Nat) rfl (fun j => [(0, v), (3, U j.2), (4, N j.1)])
    (fun j h' => h = h' ∧ 1 ≤ j.1 ∧ j.1 ≤ xs.length ∧ j.2 ∈ xs ∧ ∀ x ∈ xs.take j.1, j.2 ≤ x) (fun j => xs.length - j.1) (1, x0))
  · exact subs
  · refine ⟨rfl, Nat.le_refl _, h0, List.mem_of_getElem? hx0, ?_⟩
    intro x hx
    rw [show (1, x0).1 = 0 + 1 from rfl, take_snoc hx0] at hx
    simp at hx
    dsimp only; omega
  rintro ⟨j, m⟩ h' ⟨rfl, j1, j2, j3, j4⟩
  dsimp only at j1 j2 j3 j4 ⊢
  refine runJ ?_
  (apply w_condD; exact rfl; exact rfl) <;> intro hj
  · obtain ⟨y, hy⟩ := get_lt hj
    refine runJ ?_
    apply s_minU (isK_t rfl) (isK_t rfl) rfl
    refine runJ ?_
    apply again_normal (j + 1, min m y)
    · exact subs
    · refine ⟨rfl, by dsimp only; omega, hj, ?_, ?_⟩
      · dsimp only
        rcases Nat.le_total m y with hh | hh
        · rw [Nat.min_eq_left hh]; exact j3
        · rw [Nat.min_eq_right hh]; exact List.mem_of_getElem? hy
      · dsimp only
        intro x hx
        rw [take_snoc hy] at hx
        rcases List.mem_append.1 hx with hx | hx
        · have := j4 x hx; omega
        · simp only [List.mem_singleton] at hx; omega
    · dsimp only; omega
  · rw [List.take_of_length_le (by omega)] at j4
    refine runJ ?_
    exact fin1 rfl rfl ⟨⟨m, rfl, j3, j4⟩, rfl⟩

theorem Tryz_ent195 : Ent Tryz.prog 195 := ent_of Tryz.func195 (by kernel_rfl) rfl
theorem pstep_spec (L : Nat) (h : Hp) (h1 : 1 ≤ L) (h2 : L ≤ 13) : CallsH Tryz.prog 195 [U (2 ^ L)] h fun v' h' => v' = .bool true ∧ h = h' := by
  have hoc := oc_pow L (by omega)
  have hlo : 2 ^ 1 ≤ 2 ^ L := Nat.pow_le_pow_right (by omega) h1
  have hhi : 2 ^ L ≤ 2 ^ 13 := Nat.pow_le_pow_right (by omega) h2
  generalize 2 ^ L = n at *
  (apply enter Tryz.func195 rfl Tryz.ntmps195 rfl)
  refine runJ ?_
  (apply s_splitG; exact rfl; exact rfl; exact rfl; exact rfl) <;> intro g1
  · refine runJ ?_
    (apply s_splitG; exact rfl; exact rfl; exact rfl; exact rfl) <;> intro g2
    · refine runJ ?_
      apply (s_call Tryz_ent153 rfl rfl rfl)
      refine (ones_spec n h (by omega) hoc.1).mono ?_
      rintro _ _ ⟨rfl, rfl⟩
      refine clsI ?_
      refine runJ ?_
      exact fin1 rfl rfl ⟨by rw [hoc.2]; rfl, rfl⟩
    · exact absurd (by omega) g2
  · exact absurd (by omega) g1

def RootR (q n r : Nat) : Prop := r < q ∧ ∃ w, w < q ∧ powm w (n / 2) q = q - 1 ∧ (∃ j, j < n / 2 ∧ r = w ^ (2 * j + 1) % q) ∧ ∀ j, j < n / 2 → r ≤ w ^ (2 * j + 1) % q

theorem odd_next {w q m : Nat} (hq : q ≠ 0) (hm : 1 ≤ m) : mulm (w ^ (2 * (m - 1) + 1) % q) (mulm w w q) q = w ^ (2 * m + 1) % q := by
  unfold mulm
  rw [if_neg hq, if_neg hq, ← Nat.mul_mod, ← Nat.mul_assoc, ← Nat.pow_succ, ← Nat.pow_succ]
  congr 2; omega

theorem Tryz_ent170 : Ent Tryz.prog 170 := ent_of Tryz.func170 (by kernel_rfl) rfl
set_option maxHeartbeats 1000000 in
theorem root_spec (q L X : Nat) (h : Hp) (T : TB h) (h1 : 1 ≤ L) (h2 : L ≤ 13) (hq3 : 3 ≤ q) (hq : q < 18446744073709551616) (hB : isB q = true) (hd : (q - 1) % 2 ^ L = 0) (hX : 2 ≤ X) (hX2 : X < 18446744073709551615)
    (hx : powm (powm X ((q - 1) / 2 ^ L) q) (2 ^ L / 2) q = q - 1) :
    CallsH Tryz.prog 170 [U q, U (2 ^ L)] h fun v' h' => (∃ r, v' = .tuple #[U r, N 0] ∧ RootR q (2 ^ L) r) ∧ Ext h h' := by
  have ST := fun h => pstep_spec L h h1 h2
  have hlo : 2 ^ 1 ≤ 2 ^ L := Nat.pow_le_pow_right (by omega) h1
  have hhi : 2 ^ L ≤ 2 ^ 13 := Nat.pow_le_pow_right (by omega) h2
  have hq0 : ¬ q = 0 := by omega
  generalize 2 ^ L = n at *
  have hdn : ¬ (q - 1) % n ≠ 0 := by omega
  (apply enter Tryz.func170 rfl Tryz.ntmps170 rfl)
  refine runJ ?_
  apply (s_call Tryz_ent195 rfl rfl rfl)
  refine (ST h).mono ?_
  rintro _ _ ⟨rfl, rfl⟩
  refine clsI ?_
  refine runJ ?_
  apply (s_call Tryz_ent161 rfl rfl rfl)
  refine (is_spec q h T hq).mono ?_
  rintro _ h2 ⟨rfl, e2⟩
  refine ⟨trivial, ?_⟩
  rw [hB]
  refine runJ ?_
  (apply w_condF; exact rfl; exact rfl; exact hdn)
  refine runJ ?_
  (first | (apply w_seqB; exact rfl; apply w_block; exact rfl) | skip)
  apply (w_loop (σ := Nat × Nat) rfl (fun j => [(0, U q), (1, U n), (6, U j.2), (7, U j.1)])
    (fun j h' => h2 = h' ∧ 2 ≤ j.1 ∧ j.1 ≤ X + 1 ∧ j.2 < q ∧ (j.1 = X + 1 → powm j.2 (n / 2) q = q - 1)) (fun j => X + 1 - j.1) (2, 1))
  · exact subs
  · exact ⟨rfl, Nat.le_refl _, by dsimp only; omega, by dsimp only; omega, by dsimp only; omega⟩
  rintro ⟨x, w⟩ h3 ⟨rfl, j1, j2, j3, j4⟩
  dsimp only at j1 j2 j3 j4 ⊢
  refine runJ ?_
  apply (s_call Tryz_ent196 rfl rfl rfl)
  refine (pow_spec w (n / 2) q h2 (by omega) (by omega) hq).mono ?_
  rintro _ _ ⟨rfl, rfl⟩
  refine clsI ?_
  refine runJ ?_
  (apply w_condD; exact rfl; exact rfl) <;> intro hw
  · have hxX : ¬ x = X + 1 := fun e => hw (j4 e)
    have hpl : powm x ((q - 1) / n) q < q := by unfold powm; rw [if_neg hq0]; exact Nat.mod_lt _ (by omega)
    have hdl : (q - 1) / n < 18446744073709551616 := Nat.lt_of_le_of_lt (Nat.div_le_self _ _) (by omega)
    refine runJ ?_
    apply (s_call Tryz_ent196 rfl rfl rfl)
    refine (pow_spec x ((q - 1) / n) q h2 (by omega) hdl hq).mono ?_
    rintro _ _ ⟨rfl, rfl⟩
    refine clsI ?_
    refine runJ ?_
    apply again_normal (x + 1, powm x ((q - 1) / n) q)
    · exact subs
    · refine ⟨rfl, by dsimp only; omega, by dsimp only; omega, hpl, ?_⟩
      dsimp only
      intro e
      obtain rfl : x = X := by omega
      exact hx
    · dsimp only; omega
  have hw : powm w (n / 2) q = q - 1 := Decidable.of_not_not hw
  refine runJ ?_
  (apply (s_litF (f := U) [w] (fun _ => rfl)); exact rfl; exact rfl; exact rfl; exact rfl; exact rfl; exact rfl; exact rfl; exact rfl; omega)
  intro v4 h4 o4 e4 b4
  refine clsI ?_
  have e24 := e2.trans e4
  refine runJ ?_
  apply (s_call Tryz_ent155 rfl rfl rfl)
  refine (mul_spec w w q h4 (by omega) (by omega) hq).mono ?_
  rintro _ _ ⟨rfl, rfl⟩
  refine clsI ?_
  have hml : mulm w w q < q := mulm_lt (by omega)
  refine runJ ?_
  (first | (apply w_seqB; exact rfl; apply w_block; exact rfl) | skip)
  apply (w_loop (σ := List Nat × Value) rfl (fun j => [(0, U q), (1, U n), (8, j.2), (9, U (mulm w w q))])
    (fun j h' => Ext h2 h' ∧ OwnF h' h2.size 26 U j.2 j.1 ∧ 1 ≤ j.1.length ∧ j.1.length ≤ n / 2 ∧ ∀ (k : Nat) (y : Nat), j.1[k]? = some y → y = w ^ (2 * k + 1) % q) (fun j => n / 2 - j.1.length) ([w], v4))
  · exact subs
  · refine ⟨e4, o4, Nat.le_refl _, by simp only [List.length_singleton]; omega, fun k y hk => ?_⟩
    rw [List.getElem?_singleton] at hk
    by_cases hk0 : k = 0
    · subst hk0
      simp at hk
      rw [← hk, Nat.mul_zero, Nat.zero_add, Nat.pow_one, Nat.mod_eq_of_lt j3]
    · rw [if_neg hk0] at hk; cases hk
  rintro ⟨xs, v⟩ h5 ⟨e5, o5, k1, k2, k3⟩
  dsimp only at e5 o5 k1 k2 k3 ⊢
  have e25 := e2.trans e5
  refine runJ ?_
  (apply w_condD; exact rfl; exact rfl) <;> intro hl
  · obtain ⟨y, hy⟩ := get_lt (l := xs) (j := xs.length - 1) (by omega)
    have hyv := k3 _ _ hy
    have hyl : y < q := by rw [hyv]; exact Nat.mod_lt _ (by omega)
    have hnx := odd_next (w := w) hq0 k1
    rw [← hyv] at hnx
    refine runJ ?_
    apply (s_call Tryz_ent155 rfl rfl rfl)
    refine (mul_spec y (mulm w w q) q h5 (by omega) (by omega) hq).mono ?_
    rintro _ _ ⟨rfl, rfl⟩
    refine clsI ?_
    refine runJ ?_
    (refine s_app1 (bytes := 8) (mulm y (mulm w w q) q) o5 e5 rfl rfl rfl rfl rfl rfl rfl rfl rfl (by first | exact rfl | exact congrArg some (congrArg I (by omega))) (fun _ => rfl) rfl rfl (fun _ _ => trivial) (by omega) (by simp only [maxLen]; omega) ?_)
    intro v6 h6 o6 e6 k6 b6
    refine runJ ?_
    apply again_normal (xs ++ [mulm y (mulm w w q) q], v6)
    · exact subs
    · refine ⟨e6, o6, by simp, by simp only [List.length_append, List.length_singleton]; omega, fun k z hk => ?_⟩
      by_cases hkl : k < xs.length
      · rw [List.getElem?_append_left hkl] at hk; exact k3 k z hk
      · have hkl2 : k < xs.length + 1 := by have := (List.getElem?_eq_some_iff.1 hk).1; simpa using this
        obtain rfl : k = xs.length := by omega
        rw [List.getElem?_append_right (Nat.le_refl _), Nat.sub_self] at hk
        simp at hk
        rw [← hk, hnx]
    · simp only [List.length_append, List.length_singleton]; omega
  · have hlen : xs.length = n / 2 := by omega
    have s5 := o5.sl
    refine runJ ?_
    apply (s_call Tryz_ent197 rfl rfl rfl)
    refine (smin_spec v xs h5 s5 (by omega) (by omega)).mono ?_
    rintro _ _ ⟨⟨m, rfl, m1, m2⟩, rfl⟩
    refine ⟨trivial, ?_⟩
    refine runJ ?_
    refine fin2 rfl rfl rfl ⟨⟨m, rfl, ?_⟩, e25⟩
    obtain ⟨k, hk, hkm⟩ := List.getElem_of_mem m1
    have hkv := k3 k m (by rw [List.getElem?_eq_getElem hk, hkm])
    refine ⟨by rw [hkv]; exact Nat.mod_lt _ (by omega), w, j3, hw, ⟨k, by omega, hkv⟩, fun j hj => ?_⟩
    obtain ⟨y, hy⟩ := get_lt (l := xs) (j := j) (by omega)
    rw [← k3 j y hy]
    exact m2 y (List.mem_of_getElem? hy)

structure Tbl where mk ::
  L : Nat
  q : Nat
  w : Nat
  u : Nat
  p : Nat
  vr : Value
  vu : Value
abbrev Tbl.n (t : Tbl) : Nat := 2 ^ t.L
def pows (w q n : Nat) : List Nat := (List.range n).map fun j => w ^ j % q
theorem pows_len (w q n : Nat) : (pows w q n).length = n := by unfold pows; simp
theorem pows_get {w q n j : Nat} (h : j < n) : (pows w q n)[j]? = some (w ^ j % q) := by unfold pows; simp [h]
structure TblOk (t : Tbl) : Prop where mk ::
  l1 : 1 ≤ t.L
  l9 : t.L ≤ 9
  q1 : 1 < t.q
  q61 : t.q < 2305843009213693952
  wl : t.w < t.q
  ul : t.u < t.q
  pl : t.p < t.q
  wn : t.w ^ (2 ^ t.L) % t.q = t.q - 1
  uw : t.w * t.u % t.q = 1
  np : 2 ^ t.L * t.p % t.q = 1
structure TblAt (h : Hp) (g : Value) (t : Tbl) : Prop where mk ::
  var : Var h g 208 [N (2 ^ t.L), U t.q, U t.p, t.vr, t.vu]
  rr : SlF h U t.vr (pows t.w t.q (2 ^ t.L))
  ru : SlF h U t.vu (pows t.u t.q (2 ^ t.L))
theorem TblAt.ext {h h' : Hp} {g : Value} {t : Tbl} (s : TblAt h g t) (e : Ext h h') : TblAt h' g t := ⟨s.var.ext e, s.rr.ext e, s.ru.ext e⟩
theorem TblOk.size {t : Tbl} (k : TblOk t) : 2 ≤ 2 ^ t.L ∧ 2 ^ t.L ≤ 512 :=
  ⟨Nat.pow_le_pow_right (n := 2) (by omega) k.l1, Nat.pow_le_pow_right (n := 2) (by omega) k.l9⟩

def Fit (n q : Nat) (xs : List Nat) : Prop := xs.length = n ∧ ∀ x ∈ xs, x < q
instance (n q : Nat) (xs : List Nat) : Decidable (Fit n q xs) := by unfold Fit; exact inferInstance

theorem Tryz_ent187 : Ent Tryz.prog 187 := ent_of Tryz.func187 (by kernel_rfl) rfl
theorem fits_spec (g va : Value) (t : Tbl) (xs : List Nat) (h : Hp) (K : TblOk t) (A : TblAt h g t) (s : SlF h U va xs) (hl : xs.length < 4611686018427387904) (hal : ∀ x ∈ xs, x < 18446744073709551616) :
    CallsH Tryz.prog 187 [g, va] h fun v' h' => v' = .bool (decide (Fit (2 ^ t.L) t.q xs)) ∧ h = h' := by
  have G := A.var
  have hn := K.size
  obtain ⟨L, q, w, u, p, vr, vu⟩ := t
  dsimp only at G hn ⊢
  generalize 2 ^ L = n at *
  (apply enter Tryz.func187 rfl Tryz.ntmps187 rfl)
  refine runJ ?_
  (apply w_condD; exact rfl; exact rfl) <;> intro hne
  · refine runJ ?_
    exact fin1 rfl rfl ⟨dec_f fun k => hne (by have := k.1; omega), rfl⟩
  have hln : xs.length = n := by omega
  refine runJ ?_
  (first | (apply w_seqB; exact rfl; apply w_block; exact rfl) | skip)
  apply (w_loop (σ := Nat) rfl (fun j => [(0, g), (1, va), (14, va), (15, N xs.length), (16, N j)])
    (fun j h' => h = h' ∧ j ≤ xs.length ∧ ∀ x ∈ xs.take j, x < q) (fun j => xs.length - j) 0)
  · exact subs
  · exact ⟨rfl, Nat.zero_le _, by simp⟩
  rintro j h' ⟨rfl, j1, j2⟩
  refine runJ ?_
  (apply w_condD; exact rfl; exact rfl) <;> intro hj
  · obtain ⟨x, hx⟩ := get_lt hj
    refine runJ ?_
    (apply w_condD; exact rfl; exact rfl) <;> intro hd
    · refine runJ ?_
      exact fin1 rfl rfl ⟨dec_f (fun k => by have := k.2 x (List.mem_of_getElem? hx); omega), rfl⟩
    · refine runJ ?_
      apply again_normal (j + 1)
      · exact subs
      · refine ⟨rfl, hj, fun y hy => ?_⟩
        rw [take_snoc hx] at hy
        rcases List.mem_append.1 hy with hy | hy
        · exact j2 y hy
        · simp only [List.mem_singleton] at hy; omega
      · omega
  · rw [List.take_of_length_le (by omega)] at j2
    refine runJ ?_
    exact fin1 rfl rfl ⟨dec_t ⟨hln, j2⟩, rfl⟩

def twl (w q : Nat) (xs : List Nat) : List Nat := (List.range xs.length).map fun j => mulm (xs.getD j 0) (w ^ j % q) q

theorem Tryz_ent189 : Ent Tryz.prog 189 := ent_of Tryz.func189 (by kernel_rfl) rfl
theorem twist_spec (g va vp : Value) (t : Tbl) (z : Nat) (xs : List Nat) (h : Hp) (K : TblOk t) (A : TblAt h g t) (s : SlF h U va xs) (sp : SlF h U vp (pows z t.q (2 ^ t.L))) (hl : xs.length = 2 ^ t.L) (hx : ∀ x ∈ xs, x < t.q) :
    CallsH Tryz.prog 189 [g, va, vp] h fun v' h' => Ext h h' ∧ OwnF h' h.size 26 U v' (twl z t.q xs) := by
  have G := A.var
  have hn := K.size
  have hq := K.q61
  have hq1 := K.q1
  obtain ⟨L, q, w, u, p, vr, vu⟩ := t
  dsimp only at G hn hq hq1 sp hl hx ⊢
  generalize 2 ^ L = n at *
  have hpl := pows_len z q n
  have hxl : 0 < xs.length := by omega
  (apply enter Tryz.func189 rfl Tryz.ntmps189 rfl)
  refine runJ ?_
  (apply (s_make (f := U) (bytes := 8) (0)); (first | exact isK_c | exact isK_t rfl); (first | exact isK_c | exact isK_t rfl); exact rfl; exact rfl; exact rfl; exact rfl; exact rfl; exact rfl; omega; omega; omega)
  intro w1 h1 o1 e1 b1
  refine clsI ?_
  refine runJ ?_
  (first | (apply w_seqB; exact rfl; apply w_block; exact rfl) | skip)
  apply (w_loop (σ := Nat × List Nat) rfl (fun j => [(0, g), (2, vp), (7, w1), (15, va), (16, N xs.length), (17, N j.1)])
    (fun j h' => Ext h h' ∧ j.1 ≤ n ∧ OwnF h' h.size 26 U w1 j.2 ∧ j.2.length = n ∧ ∀ (k : Nat) (y : Nat), k < j.1 → j.2[k]? = some y → y = mulm (xs.getD k 0) (z ^ k % q) q) (fun j => n - j.1) (0, List.replicate n 0))
  · exact subs
  · exact ⟨e1, Nat.zero_le _, o1, by simp, fun k y hk => by omega⟩
  rintro ⟨j, ys⟩ h2 ⟨e2, j1, o2, j2, j3⟩
  dsimp only at e2 j1 o2 j2 j3 ⊢
  have G2 := G.ext e2
  have s2 := s.ext e2
  have p2 := sp.ext e2
  have nG := G.neq b1 (Nat.le_refl _)
  have ns := s.neq hxl b1 (Nat.le_refl _)
  have np := sp.neq (by omega) b1 (Nat.le_refl _)
  refine runJ ?_
  (apply w_condD; exact rfl; exact rfl) <;> intro hj
  · obtain ⟨x, hxj⟩ := get_lt hj
    have hxq := hx x (List.mem_of_getElem? hxj)
    have hp := pows_get (w := z) (q := q) (n := n) (j := j) (by omega)
    have hpq : z ^ j % q < q := Nat.mod_lt _ (by omega)
    generalize hz : z ^ j % q = y at *
    refine runJN ?_
    (apply (r_drawnO (w1.ownBlock)); exact rfl; exact mixed; kernel_rfl)
    refine runJ ?_
    apply (s_call Tryz_ent155 rfl rfl rfl)
    refine (mul_spec x y q h2 (by omega) (by omega) (by omega)).mono ?_
    rintro _ _ ⟨rfl, rfl⟩
    refine ⟨Only.refl _ _, ?_⟩
    refine runJ ?_
    (apply (s_storeF (mulm x y q)); exact rfl; exact rfl; exact rfl; exact rfl; exact rfl; exact o2; exact rfl; (first | assumption | omega))
    intro h3 o3 k3
    refine ⟨(by first | exact k3 | exact trivial | exact Ext.refl _ | assumption | exact Ext.trans (by assumption) (by assumption)), ?_⟩
    have e3 := o2.old k3 e2 (Nat.le_refl _)
    refine runJ ?_
    apply again_normal (j + 1, ys.set j (mulm x y q))
    · exact subs
    · refine ⟨e3, by dsimp only; omega, o3, by simp [j2], fun k y' hk hy' => ?_⟩
      dsimp only at hk hy'
      rw [List.getElem?_set] at hy'
      by_cases hkj : j = k
      · subst hkj
        rw [if_pos rfl, if_pos (by omega)] at hy'
        cases hy'
        rw [getD_of hxj, hz]
      · rw [if_neg hkj] at hy'
        exact j3 k y' (by omega) hy'
    · dsimp only; omega
  · have hjn : j = n := by omega
    subst hjn
    have hys : ys = twl z q xs := by
      refine list_eq (by unfold twl; simp; omega) fun k a b ha hb => ?_
      have hk := (List.getElem?_eq_some_iff.1 ha).1
      rw [j3 k a (by omega) ha]
      unfold twl at hb
      rw [List.getElem?_map, List.getElem?_range (by omega)] at hb
      exact Option.some.inj hb
    subst hys
    refine runJ ?_
    exact fin1 rfl rfl ⟨e2, o2⟩
end Go.Proofs.YtfcmdefigldpnaaGreatDoor


namespace Go.Den
set_option linter.unusedVariables false
set_option maxRecDepth 8000
open Go Go.RowKit

def roOp (P : Program) (o : Oper) : Bool := match o.op with
  | .load t _ => plainTy P t
  | _ => false

section order
variable {P : Program} {ops : Array Oper} {C : World → Prop} {E R : Nat → Bool}
theorem ro_run {o : Oper} {a : Act} {w : World} {K : Value → World → Prop} (ho : roOp P o = true) (h : Eff P o a w K) : ∃ v, (execOp a.eval o).run P w = .ok (.value v) w ∧ K v w := by
  obtain ⟨d, op, ty, ps, af, g⟩ := o
  unfold roOp at ho
  cases op <;> first | cases ho | skip
  rename_i t x
  unfold Eff at h
  simp only [execOp, Sem.run_bind] at h ⊢
  cases hx : a.eval x with
  | pointer p =>
    cases p with
    | none => rw [hx] at h; exact h.elim
    | some p =>
      rw [hx] at h
      cases hc : w.cell? p with
      | some u =>
        rw [run_load1 ho hc] at h ⊢
        exact ⟨u, rfl, h⟩
      | none =>
        have e : (Instr.loadAt t (.pointer (some p))).run P w = (load p).run P w := by
          show ((do let x ← isAgg t; if x then (do pure (.agg (← loadCells p (← sizeOf t)))) else load p : Sem Value)).run P w = _
          rw [Sem.run_bind, run_isAgg_plain ho w]
          simp
        have e2 : (load p).run P w = match World.farLoad P w p (Mode.plain == Mode.atomic) with
            | .ok (v, _) => .ok v w
            | .error x => .halt x w := by
          unfold load Sem.run
          rw [hc]
          rfl
        rw [e, e2] at h ⊢
        cases hf : World.farLoad P w p (Mode.plain == Mode.atomic) with
        | ok y => rw [hf] at h; exact ⟨y.1, rfl, h⟩
        | error x => rw [hf] at h; exact h.elim
  | _ => rw [hx] at h; exact h.elim

theorem pullR (hs : NoSel ops) {Q : Act → World → Prop} {j : Nat} {oj : Oper} (hj : ops[j]? = some oj) (post : List Nat) : ∀ (pre : List Nat) (a : Act) (w : World), C w →
    (∀ i ∈ pre, (∀ oi, ops[i]? = some oi → oi.apart ops oj = true) ∧ (¬ (E i = true ∧ E j = true) ∨ (roOp P oj = true ∧ ∀ oi, ops[i]? = some oi → roOp P oi = true))) →
    Mix P ops C E Q (pre ++ j :: post) a w →
    (∃ v, Stab P ops C oj v a ∧ Mix P ops C E Q (pre ++ post) (a.put oj.dst v) w) ∨
    (E j = true ∧ Wanted ops oj a = true ∧ Eff P oj a w fun v w' => C w' ∧ Mix P ops C E Q (pre ++ post) (a.put oj.dst v) w')
  | [], a, w, _, _, h => by
    obtain ⟨o, ho, h⟩ := h
    rw [hj] at ho; cases ho
    exact h
  | i :: pre, a, w, hC, hp, h => by
    obtain ⟨oi, hi, h⟩ := h
    obtain ⟨hap, hch⟩ := hp i (by simp)
    have hp' : ∀ i ∈ pre, (∀ oi, ops[i]? = some oi → oi.apart ops oj = true) ∧ (¬ (E i = true ∧ E j = true) ∨ (roOp P oj = true ∧ ∀ oi, ops[i]? = some oi → roOp P oi = true)) := fun k hk => hp k (by simp [hk])
    obtain ⟨h1, h2, h3⟩ := Oper.apart_spec (hap oi hi)
    have hsi : ∀ cs b, oi.op ≠ .select cs b := fun cs b => hs i oi cs b hi
    have hsj : ∀ cs b, oj.op ≠ .select cs b := fun cs b => hs j oj cs b hj
    -- j does not see what i writes; i does not see what j writes
    have ej : ∀ (a : Act) (u : Value), execOp (a.put oi.dst u).eval oj = execOp a.eval oj := fun a u => execOp_put oj hsj a oi.dst u h1
    have wj : ∀ (a : Act) (u : Value), Wanted ops oj (a.put oi.dst u) = Wanted ops oj a := fun a u => wanted_put oj a oi.dst u h1
    have ei : ∀ (a : Act) (u : Value), execOp (a.put oj.dst u).eval oi = execOp a.eval oi := fun a u => execOp_put oi hsi a oj.dst u h3
    have wi : ∀ (a : Act) (u : Value), Wanted ops oi (a.put oj.dst u) = Wanted ops oi a := fun a u => wanted_put oi a oj.dst u h3
    have pc : ∀ (a : Act) (u v : Value), (a.put oi.dst u).put oj.dst v = (a.put oj.dst v).put oi.dst u := fun a u v => Act.put_comm a u v h2
    rcases h with ⟨u, hu, h⟩ | ⟨hE, hW, h⟩
    · rcases pullR hs hj post pre (a.put oi.dst u) w hC hp' h with ⟨v, hv, k⟩ | ⟨hEj, hWj, k⟩
      · refine .inl ⟨v, hv.of_same (ej a u).symm (wj a u).symm, oi, hi, .inl ⟨u, hu.of_same (ei a v) (wi a v), ?_⟩⟩
        rw [← pc a u v]; exact k
      · refine .inr ⟨hEj, by rw [← wj a u]; exact hWj, ?_⟩
        unfold Eff at k ⊢
        rw [ej a u] at k
        exact EffUpon_mono (fun v w' hk => ⟨hk.1, oi, hi, .inl ⟨u, hu.of_same (ei a v) (wi a v), by rw [← pc a u v]; exact hk.2⟩⟩) k
    · rcases hch with hch | ⟨rj, ri⟩
      rotate_left
      · have ri := ri oi hi
        obtain ⟨u, hu, hC', h⟩ := ro_run ri h
        rcases pullR hs hj post pre (a.put oi.dst u) w hC' hp' h with ⟨v, hv, k⟩ | ⟨hEj, hWj, k⟩
        · refine .inl ⟨v, hv.of_same (ej a u).symm (wj a u).symm, oi, hi, .inr ⟨hE, by rw [wi a v]; exact hW, ?_⟩⟩
          unfold Eff
          rw [ei a v, hu]
          exact ⟨hC', by rw [← pc a u v]; exact k⟩
        · unfold Eff at k
          rw [ej a u] at k
          obtain ⟨v, hv, -, k⟩ := ro_run rj k
          refine .inr ⟨hEj, by rw [← wj a u]; exact hWj, ?_⟩
          unfold Eff
          rw [hv]
          refine ⟨hC', oi, hi, .inr ⟨hE, by rw [wi a v]; exact hW, ?_⟩⟩
          unfold Eff
          rw [ei a v, hu]
          exact ⟨hC', by rw [← pc a u v]; exact k⟩
      have hEj : ¬ E j = true := fun e => hch ⟨hE, e⟩
      have step : Eff P oi a w fun u w' => C w' ∧ ∃ v, Stab P ops C oj v a ∧ Mix P ops C E Q (pre ++ post) ((a.put oj.dst v).put oi.dst u) w' := by
        refine Eff_mono (fun u w' hk => ⟨hk.1, ?_⟩) h
        rcases pullR hs hj post pre (a.put oi.dst u) w' hk.1 hp' hk.2 with ⟨v, hv, k⟩ | ⟨hEj', -, -⟩
        · exact ⟨v, hv.of_same (ej a u).symm (wj a u).symm, by rw [← pc a u v]; exact k⟩
        · exact absurd hEj' hEj
      obtain ⟨u0, w0, hc0, v0, hv0, -⟩ := EffUpon_some step
      refine .inl ⟨v0, hv0, oi, hi, .inr ⟨hE, by rw [wi a v0]; exact hW, ?_⟩⟩
      unfold Eff at step ⊢
      rw [ei a v0]
      refine EffUpon_mono (fun u w' hk => ?_) step
      obtain ⟨hc, v, hv, k⟩ := hk
      rw [Stab.unique hC hv hv0] at k
      exact ⟨hc, k⟩

def regionOkR (P : Program) (ops : List Oper) (E R : Nat → Bool) : Bool :=
  let A := ops.toArray
  let an := ancGo ops #[]
  Region.noSelect A &&
  ops.zipIdx.all fun (oj, j) =>
    oj.after.toList.all (fun e => !Region.binds .any e || Nat.blt e.on j) &&
    (ops.take j).zipIdx.all fun (oi, i) =>
      ((oj.after.toList.any fun e => Region.binds .any e && Nat.beq e.on i) || oi.apart A oj) &&
      (!(E i && E j) || (R i && R j && roOp P oi && roOp P oj) || (an.getD j 0).testBit i)

theorem regionOkR_spec {l : List Oper} (h : regionOkR P l E R = true) : NoSel l.toArray ∧
    (∀ j oj, l[j]? = some oj → ∀ e ∈ oj.after.toList, Region.binds .any e = true → e.on < j) ∧
    (∀ i j oi oj, i < j → l[i]? = some oi → l[j]? = some oj → ((∃ e ∈ oj.after.toList, Region.binds .any e = true ∧ e.on = i) ∨ oi.apart l.toArray oj = true) ∧
      (E i = true → E j = true → (roOp P oi = true ∧ roOp P oj = true) ∨ ((ancGo l #[]).getD j 0).testBit i = true)) := by
  unfold regionOkR at h
  simp only [Bool.and_eq_true] at h
  obtain ⟨h0, h⟩ := h
  refine ⟨Region.noSelect_spec h0, fun j oj hj e he hb => ?_, fun i j oi oj hij hi hj => ?_⟩
  · have h1 := zipIdx_all h hj
    simp only [Bool.and_eq_true, List.all_eq_true] at h1
    have := h1.1 e he
    simp only [hb, Bool.not_true, Bool.false_or] at this
    exact Nat.le_of_ble_eq_true this
  · have h1 := zipIdx_all h hj
    simp only [Bool.and_eq_true] at h1
    have h2 := zipIdx_all h1.2 (show (l.take j)[i]? = some oi by rw [List.getElem?_take, if_pos hij]; exact hi)
    simp only [Bool.and_eq_true, Bool.or_eq_true] at h2
    obtain ⟨h3, h4⟩ := h2
    refine ⟨?_, fun ei ej => ?_⟩
    · rcases h3 with h3 | h3
      · rw [List.any_eq_true] at h3
        obtain ⟨e, he, hb⟩ := h3
        simp only [Bool.and_eq_true] at hb
        exact .inl ⟨e, he, hb.1, Nat.eq_of_beq_eq_true hb.2⟩
      · exact .inr h3
    · rcases h4 with (h4 | h4) | h4
      · simp [ei, ej] at h4
      · exact .inl ⟨h4.1.2, h4.2⟩
      · exact .inr h4

theorem any_of_mixR {l : List Oper} {Q : Exit → Act → World → Prop} (h : regionOkR P l E R = true) : ∀ (m : Nat) (L : List Nat) (listed : Array Bool) (a : Act) (w : World),
    L.length = m → L.Pairwise (· < ·) → (∀ i, i ∈ L ↔ i < l.length ∧ listed.getD i true = false) → listed.size = l.length →
    Closed l.toArray (fun i => listed.getD i false) → C w → Mix P l.toArray C E (fun a w => Q .normal a w) L a w → wpAny P .any l.toArray Q m listed a w := by
  obtain ⟨hs, hback, hpair⟩ := regionOkR_spec h
  intro m
  induction m with
  | zero =>
    intro L listed a w hlen hsort hmem hsz hcl hC hm
    have hL : L = [] := List.length_eq_zero_iff.1 hlen
    subst hL
    refine ⟨?_, hm⟩
    rw [List.eq_nil_iff_forall_not_mem]
    intro j hj
    obtain ⟨h1, o, ho, -⟩ := mem_ready.1 hj
    have hjl : j < l.length := by simpa using (Array.getElem?_eq_some_iff.1 ho).1
    have := (hmem j).2 ⟨hjl, h1⟩
    simp at this
  | succ m ih =>
    intro L listed a w hlen hsort hmem hsz hcl hC hm
    refine ⟨fun hnil => ?_, fun j hj => ?_⟩
    · -- the first that is left may come up
      cases L with
      | nil => simp at hlen
      | cons k L' =>
        exfalso
        have hk := (hmem k).1 (by simp)
        have hkr : k ∈ Region.ready .any l.toArray listed := by
          refine mem_ready.2 ⟨hk.2, l[k]'hk.1, by simp [hk.1], fun e he hb => ?_⟩
          have hlt := hback k (l[k]'hk.1) (by simp [hk.1]) e (by simpa using he) hb
          have hlt' : e.on < l.length := Nat.lt_trans hlt hk.1
          cases hg : listed.getD e.on true with
          | true =>
            rw [Array.getD_eq_getD_getElem?] at hg ⊢
            rw [Array.getElem?_eq_getElem (by omega)] at hg ⊢
            simpa using hg
          | false =>
            have hin := (hmem e.on).2 ⟨hlt', hg⟩
            rcases List.mem_cons.1 hin with heq | hin'
            · omega
            · have := (List.pairwise_cons.1 hsort).1 _ hin'
              omega
        rw [hnil] at hkr
        cases hkr
    · obtain ⟨hj1, oj, hoj, hjall⟩ := mem_ready.1 hj
      have hjl : j < l.length := by simpa using (Array.getElem?_eq_some_iff.1 hoj).1
      have hoj' : l[j]? = some oj := by simpa using hoj
      have hjL : j ∈ L := (hmem j).2 ⟨hjl, hj1⟩
      obtain ⟨pre, post, rfl⟩ := List.append_of_mem hjL
      have hpre : ∀ i ∈ pre, i < j := fun i hi => by
        have := List.pairwise_append.1 hsort
        exact this.2.2 i hi j (by simp)
      have hdep : ∀ e ∈ oj.after.toList, Region.binds .any e = true → listed.getD e.on false = true := fun e he hb => hjall e (by simpa using he) hb
      have hap : ∀ i ∈ pre, (∀ oi, l.toArray[i]? = some oi → oi.apart l.toArray oj = true) ∧ (¬ (E i = true ∧ E j = true) ∨ (roOp P oj = true ∧ ∀ oi, l.toArray[i]? = some oi → roOp P oi = true)) := fun i hi => by
        have hi1 := (hmem i).1 (by simp [hi])
        have hif : listed.getD i false = false := by
          have h1 := hi1.2
          rw [Array.getD_eq_getD_getElem?] at h1 ⊢
          rw [Array.getElem?_eq_getElem (by omega)] at h1 ⊢
          simpa using h1
        refine ⟨fun oi hoi => ?_, ?_⟩
        · obtain ⟨hor, -⟩ := hpair i j oi oj (hpre i hi) (by simpa using hoi) hoj'
          rcases hor with ⟨e, he, hb, heq⟩ | hap
          · have := hdep e he hb
            rw [heq, hif] at this
            cases this
          · exact hap
        · obtain ⟨-, hch⟩ := hpair i j (l[i]'hi1.1) oj (hpre i hi) (by simp [hi1.1]) hoj'
          by_cases e12 : E i = true ∧ E j = true
          rotate_left
          · exact .inl e12
          obtain ⟨e1, e2⟩ := e12
          rcases hch e1 e2 with ⟨q1, q2⟩ | hb
          · refine .inr ⟨q2, fun oi hoi => ?_⟩
            obtain rfl : l[i]'hi1.1 = oi := by
              have : l[i]? = some oi := by simpa using hoi
              rw [List.getElem?_eq_getElem hi1.1] at this
              exact Option.some.inj this
            exact q1
          exfalso
          have := anc_sound (ops := l.toArray) hcl l #[] (by simp) (by simp) (fun k _ hk => ⟨l[k]'(by simpa using hk), by simp at hk; simp [hk]⟩) (by simp) j oj hoj (by simpa using hjl) hdep i hb
          rw [hif] at this
          cases this
      have hmem' : ∀ i, i ∈ pre ++ post ↔ i < l.length ∧ (listed.setIfInBounds j true).getD i true = false := fun i => by
        have hnd : i ∈ pre ++ post ↔ i ∈ pre ++ j :: post ∧ i ≠ j := by
          have hq := List.pairwise_append.1 hsort
          have hq2 := List.pairwise_cons.1 hq.2.1
          constructor
          · intro hi
            refine ⟨by rcases List.mem_append.1 hi with hi | hi <;> simp [hi], fun heq => ?_⟩
            subst heq
            rcases List.mem_append.1 hi with hi | hi
            · exact Nat.lt_irrefl _ (hpre _ hi)
            · exact Nat.lt_irrefl _ (hq2.1 _ hi)
          · rintro ⟨hi, hne⟩
            rcases List.mem_append.1 hi with hi | hi
            · simp [hi]
            · rcases List.mem_cons.1 hi with hi | hi
              · exact absurd hi hne
              · simp [hi]
        rw [hnd, hmem i]
        by_cases hij : j = i
        · subst hij
          have hset : (listed.setIfInBounds j true).getD j true = true := by
            rw [Array.getD_eq_getD_getElem?, Array.getElem?_setIfInBounds_self_of_lt (by omega)]; rfl
          rw [hset]
          simp
        · rw [getD_set_ne true hij]
          constructor
          · rintro ⟨⟨h1, h2⟩, -⟩; exact ⟨h1, h2⟩
          · rintro ⟨h1, h2⟩; exact ⟨⟨h1, h2⟩, fun e => hij e.symm⟩
      have hcl' : Closed l.toArray (fun i => (listed.setIfInBounds j true).getD i false) := fun k o hk hl e he hb => by
        by_cases hkj : j = k
        · subst hkj
          rw [hoj] at hk; cases hk
          exact getD_set_true (hdep e he hb)
        · have hl' : listed.getD k false = true := by
            have := getD_set_ne (listed := listed) false hkj
            simp only [this] at hl
            exact hl
          exact getD_set_true (hcl k o hk hl' e he hb)
      have hlen' : (pre ++ post).length = m := by simp at hlen ⊢; omega
      have hsort' : (pre ++ post).Pairwise (· < ·) := by
        refine hsort.sublist ?_
        exact List.Sublist.append_left (List.sublist_cons_self _ _) _
      have next : ∀ a' w', C w' → Mix P l.toArray C E (fun a w => Q .normal a w) (pre ++ post) a' w' → wpAny P .any l.toArray Q m (listed.setIfInBounds j true) a' w' := fun a' w' hC' hm' =>
        ih (pre ++ post) (listed.setIfInBounds j true) a' w' hlen' hsort' hmem' (by simpa using hsz) hcl' hC' hm'
      unfold wpOp
      simp only [hoj]
      rcases pullR hs hoj post pre a w hC hap hm with ⟨v, hv, k⟩ | ⟨-, hW, k⟩
      · rcases hv with ⟨hW, hr⟩ | ⟨hW, rfl⟩
        · rw [if_pos (show Region.wanted _ _ = true from hW)]
          refine .inl ?_
          unfold Oper.wp
          rw [hr w hC]
          exact next _ _ hC k
        · rw [if_neg (by unfold Wanted at hW; rw [hW]; exact Bool.false_ne_true)]
          exact next _ _ hC k
      · rw [if_pos (show Region.wanted _ _ = true from hW)]
        exact .inl (wp_of_Eff (fun v w' hk => next _ _ hk.1 hk.2) k)


theorem region_drawnR {id : Nat} {l : List Oper} {Q : Exit → Act → World → Prop} {a : Act} {w : World} (hm : P.follows .mixedOrders = true) (hok : regionOkR P l E R = true)
    (hC : C { w with drawn := w.drawn + 1 }) (h : Mix P l.toArray C E (fun a w => Q .normal a w) (List.range l.length) a { w with drawn := w.drawn + 1 }) :
    (Code.region id l.toArray true).wp P Q a w := by
  refine wp_region_any hm ?_
  have := any_of_mixR (P := P) (C := C) (Q := Q) hok l.length (List.range l.length) (Array.replicate l.length false) a { w with drawn := w.drawn + 1 } (by simp) List.pairwise_lt_range
    (fun i => by
      rw [List.mem_range]
      constructor
      · intro hi
        refine ⟨hi, ?_⟩
        rw [Array.getD_eq_getD_getElem?, Array.getElem?_eq_getElem (by simpa using hi)]
        simp
      · exact fun hi => hi.1)
    (by simp) (fun k o _ hk e _ _ => by
      exfalso
      by_cases hlt : k < l.length
      · simp [Array.getD_eq_getD_getElem?, hlt] at hk
      · simp [Array.getD_eq_getD_getElem?, hlt] at hk) hC h
  simpa using this


end order

section rules
variable {P : Program} {n : Nat} {Q : Post} {l : Fr} {h : Hp}
theorem r_drawnR {c : Code} (Ch : Hp → Prop) (R : Nat → Bool) (hc : tagOf c = .region true) (hm : P.follows .mixedOrders = true) (hok : regionOkR P (opsOf c) (fun i => effB (opsOf c) i || R i) R = true) (hC : Ch h)
    (k : S P n (opsOf c) Ch (fun i => effB (opsOf c) i || R i) Q 0 l h) : W P n c Q l h := W.mk fun a w hf hw => by
  cases c <;> cases hc
  rename_i id ops
  have := region_drawnR (id := id) (l := ops.toList) (Q := lift n Q w) (C := fun w' => Oth w w' ∧ Ch w'.heap) hm hok ⟨⟨rfl, rfl, rfl⟩, by rw [← hw] at hC; exact hC⟩ (a := a) (by
    have := k.run a { w with drawn := w.drawn + 1 } w hf hw ⟨rfl, rfl, rfl⟩
    rw [Nat.sub_zero, ← List.range_eq_range'] at this
    exact this)
  simpa using this
theorem rd_now {Ch : Hp → Prop} {E : Nat → Bool} {i : Nat} {h : Hp} {p : Hp → Prop} (hE : E i = true) (hC : Ch h) (hp : p h) : Rd Ch E i h p := ⟨.inl ⟨hE, hC, hp⟩⟩
end rules
end Go.Den


namespace Go.Proofs.YtfcmdefigldpnaaGreatDoor
set_option linter.unusedVariables false
set_option maxRecDepth 8000
open Go Go.Den Go.RowKit Go.Mth

theorem pow_split {L s : Nat} (h : s < L) : 2 ^ L = 2 ^ (L - s - 1) * (2 * 2 ^ s) := by
  rw [Nat.mul_left_comm, ← Nat.pow_add, show L - s - 1 + s = L - 1 by omega, ← Nat.pow_succ', show (L - 1).succ = L by omega]
theorem pow_by {L s : Nat} (h : s ≤ L) : 2 ^ L / 2 ^ s = 2 ^ (L - s) := Nat.pow_div h (by decide)
theorem pow_kb {L s k : Nat} (h : s ≤ L) (hk : k < 2 ^ s) : k * 2 ^ (L - s) < 2 ^ L := by
  have := Nat.mul_lt_mul_of_pos_right hk (Nat.two_pow_pos (L - s))
  rwa [← Nat.pow_add, show s + (L - s) = L by omega] at this
theorem blk_room {M D c n : Nat} (hn : n = M * D) (h : c * D < n) : c * D + D ≤ n := by
  subst hn
  have : c < M := Nat.lt_of_mul_lt_mul_right h
  rw [← Nat.succ_mul]; exact Nat.mul_le_mul_right _ this

abbrev gt (xs : List Nat) (p : Nat) : Int := ((xs.getD p 0 : Nat) : Int)
def Trn (L q z : Nat) (xs ys : List Nat) : Prop := Fit (2 ^ L) q ys ∧ ∀ k, k < 2 ^ L → Cg q (gt ys k) (sm (2 ^ L) fun j => gt xs j * (z : Int) ^ (2 * (k * j)))

theorem fit_of {n q : Nat} {ys : List Nat} (hl : ys.length = n) (h : ∀ p, p < n → ys.getD p 0 < q) : Fit n q ys := ⟨hl, fun x hx => by
  obtain ⟨k, hk, rfl⟩ := List.getElem_of_mem hx
  have := h k (by omega)
  rw [getD_of (List.getElem?_eq_getElem hk)] at this
  exact this⟩
theorem fit_get {n q : Nat} {ys : List Nat} (h : Fit n q ys) {p : Nat} (hp : p < n) : ys.getD p 0 < q := h.2 _ (List.mem_of_getElem? (getD_lt (by rw [h.1]; exact hp)))

theorem Tryz_ent188 : Ent Tryz.prog 188 := ent_of Tryz.func188 (by kernel_rfl) rfl
set_option maxHeartbeats 4000000 in
theorem cyclic_spec (g va vp : Value) (t : Tbl) (z B : Nat) (xs : List Nat) (h : Hp) (K : TblOk t) (A : TblAt h g t) (o : OwnF h B 26 U va xs) (sp : SlF h U vp (pows z t.q (2 ^ t.L))) (hne1 : pblk g ≠ va.ownBlock) (hne2 : vp.ownBlock = none ∨ vp.ownBlock ≠ va.ownBlock) (hl : xs.length = 2 ^ t.L) (hx : ∀ x ∈ xs, x < t.q) (hz : Cg t.q ((z : Int) ^ (2 ^ t.L)) (-1)) :
    CallsH Tryz.prog 188 [g, va, vp] h fun v' h' => v' = va ∧ Only va.ownBlock h h' ∧ ∃ ys, OwnF h' B 26 U va ys ∧ Trn t.L t.q z xs ys := by
  have G := A.var
  have hn := K.size
  have hq := K.q61
  have hq1 := K.q1
  have hL1 := K.l1
  have hL9 := K.l9
  have hbl := blen_pow t.L (by omega)
  have hrv := fun i => rv64_rev (L := t.L) (i := i) hL1 hL9
  have hrl := fun i => rev_lt t.L i
  obtain ⟨L, q, w, u, p, vr, vu⟩ := t
  dsimp only at G hn hq hq1 sp hl hx hz hL1 hL9 hbl hrv hrl ⊢
  generalize hN : 2 ^ L = n at G hn sp hl hz hbl
  have hpl := pows_len z q n
  have s0 := o.sl
  (apply enter Tryz.func188 rfl Tryz.ntmps188 rfl)
  refine runJ ?_
  apply (s_call Tryz_ent202 rfl rfl rfl)
  refine (blen_spec n h (by omega)).mono ?_
  rintro _ _ ⟨rfl, rfl⟩
  refine clsI ?_
  rw [hbl]
  refine runJ ?_
  (first | (apply w_seqB; exact rfl; apply w_block; exact rfl) | skip)
  apply (w_loop (σ := Nat × List Nat) rfl (fun j => [(0, g), (1, va), (2, vp), (7, N L), (24, N n), (25, N j.1)])
    (fun j h' => Only va.ownBlock h h' ∧ j.1 ≤ n ∧ OwnF h' B 26 U va j.2 ∧ Swp L j.1 (fun p => xs.getD p 0) j.2) (fun j => n - j.1) (0, xs))
  · exact subsX
  · exact ⟨Only.refl _ _, Nat.zero_le _, o, swp_start (by rw [hN]; exact hl) fun p _ => rfl⟩
  · rintro ⟨j, ys⟩ h2 ⟨k2, j1, o2, j2⟩
    dsimp only at k2 j1 o2 j2 ⊢
    have G2 := G.only k2 hne1
    have hyl : ys.length = n := by rw [j2.1, hN]
    refine runJ ?_
    (apply w_condD; exact rfl; exact rfl) <;> intro hj
    · have hr := hrl j
      have hrj := hrv j (by omega)
      rw [hN] at hr
      refine runJ ?_
      apply (s_call Tryz_ent203 rfl rfl rfl)
      refine (reverse_spec j h2 (by omega)).mono ?_
      rintro _ _ ⟨rfl, rfl⟩
      refine clsI ?_
      have hrb := rv64_lt j
      refine runJ ?_
      rw [hrj]
      (apply w_condD; exact rfl; exact rfl) <;> intro hjr
      · have x1 := swp_lo j2 (by omega) hjr
        have x2 := swp_hi j2 (by omega) hjr
        have st := swp_step j2 (by omega) hjr
        have hx1 : j < ys.length := by omega
        have hx2 : rev L j < ys.length := by omega
        generalize xs.getD j 0 = a at *
        generalize xs.getD (rev L j) 0 = b at *
        have hx3 : rev L j < (ys.set j b).length := by rw [List.length_set]; exact hx2
        have s2 := o2.sl
        refine runJN ?_
        (apply (r_drawnR (fun _ => True) (fun i => Nat.beq i 7 || Nat.beq i 11)); exact rfl; exact mixed; kernel_rfl; exact trivial)
        refine runJ ?_
        refine s_loadG rfl rfl (rd_now rfl trivial s2) rfl x2 ?_
        refine runJ ?_
        refine s_loadG rfl rfl (rd_now rfl trivial s2) rfl x1 ?_
        refine runJ ?_
        (apply (s_storeF (b)); exact rfl; exact rfl; exact rfl; exact rfl; exact rfl; exact o2; exact rfl; (first | assumption | omega))
        intro h3 o3 k3
        refine clsI ?_
        have s3 := o3.sl
        refine runJ ?_
        (apply (s_storeF (a)); exact rfl; exact rfl; exact rfl; exact rfl; exact rfl; exact o3; exact rfl; (first | assumption | omega))
        intro h4 o4 k4
        refine clsI ?_
        refine runJ ?_
        apply again_normal (j + 1, (ys.set j b).set (rev L j) a)
        · exact subs
        · exact ⟨(k2.trans k3).trans k4, by dsimp only; omega, o4, st⟩
        · dsimp only; omega
      · refine runJ ?_
        apply again_normal (j + 1, ys)
        · exact subs
        · exact ⟨k2, by dsimp only; omega, o2, swp_keep j2 (by omega) hjr⟩
        · dsimp only; omega
    · have hjn : j = n := by omega
      subst hjn
      have hst : Std q z L (gt xs) 0 (gt ys) := std_zero fun c hc => congrArg Int.ofNat (swp_end (by rw [hN]; exact j2) c hc)
      have hfit : Fit j q ys := fit_of hyl fun p hp => by
        have h1 := j2.2 p (by rw [hN]; exact hp)
        have h2 := hrl p
        rw [hN] at h2
        rw [h1]
        have hxf : Fit j q xs := ⟨hl, hx⟩
        split
        · exact fit_get hxf h2
        · exact fit_get hxf hp
      have hL := hN
      clear j2 hrv hrl hbl j1 hj hN
      refine runJ ?_
      (first | (apply w_seqB; exact rfl; apply w_block; exact rfl) | skip)
      apply (w_loop (σ := Nat × List Nat) rfl (fun i => [(0, g), (1, va), (2, vp), (10, N (2 ^ i.1))])
        (fun i h' => Only va.ownBlock h h' ∧ i.1 ≤ L ∧ OwnF h' B 26 U va i.2 ∧ Fit j q i.2 ∧ Std q z L (gt xs) i.1 (gt i.2)) (fun i => L - i.1) (0, ys))
      · exact subs
      · exact ⟨k2, Nat.zero_le _, o2, hfit, hst⟩
      clear o2 k2 G2 hst hfit hyl ys h2
      rintro ⟨s, ys⟩ h2 ⟨k2, i1, o2, hfit, hst⟩
      dsimp only at k2 i1 o2 hfit hst ⊢
      have G2 := G.only k2 hne1
      have hs2 : 2 ^ s ≤ 2 ^ L := Nat.pow_le_pow_right (by decide) i1
      have hs0 : 0 < 2 ^ s := Nat.two_pow_pos s
      rw [hL] at hs2
      refine runJ ?_
      (apply w_condD; exact rfl; exact rfl) <;> intro hsn
      · have hsL : s < L := by
          rcases Nat.lt_or_ge s L with h1 | h1
          · exact h1
          · obtain rfl : s = L := by omega
            omega
        have hby := pow_by (L := L) (s := s) i1
        have hsplit := pow_split hsL
        have hkb := fun k (hk : k < 2 ^ s) => pow_kb (L := L) i1 hk
        have hps : (2 : Nat) ^ (s + 1) = 2 * 2 ^ s := by rw [Nat.pow_succ, Nat.mul_comm]
        have hbt := std_btf (W := fun m => z ^ m % q) (f := fun p => ys.getD p 0) (by omega) (by rw [hL]; exact hz) hsL (fun m _ => cg_of_mod (a := z ^ m) (Cg.of_eq (Int.natCast_pow _ _)) _ (Nat.mod_mod _ _)) hst
        have hbl := fun f p => btf_lt (q := q) (by omega) (fun m => z ^ m % q) (2 ^ s) (2 ^ (L - s)) f p
        rw [hL] at hby hkb hsplit
        have hlo := fun f c k (hk : k < 2 ^ s) => btf_lo (q := q) (W := fun m => z ^ m % q) (s := 2 ^ (L - s)) (f := f) (c := c) hk
        have hhi := fun f c k (hk : k < 2 ^ s) => btf_hi (q := q) (W := fun m => z ^ m % q) (s := 2 ^ (L - s)) (f := f) (c := c) hk
        generalize hgg : btf q (fun m => z ^ m % q) (2 ^ s) (2 ^ (L - s)) (fun p => ys.getD p 0) = gg at *
        have hlo := hlo (fun p => ys.getD p 0)
        have hhi := hhi (fun p => ys.getD p 0)
        rw [hgg] at hlo hhi
        generalize 2 ^ (L - s - 1) = M at *
        generalize 2 ^ (L - s) = by_ at *
        generalize 2 ^ s = d at *
        have hgq : ∀ p, gg p < q := fun p => by rw [← hgg]; exact hbl _ p
        clear hbl hst
        refine runJ ?_
        rw [hby]
        (first | (apply w_seqB; exact rfl; apply w_block; exact rfl) | skip)
        apply (w_loop (σ := Nat × List Nat) rfl (fun i => [(0, g), (1, va), (2, vp), (10, N d), (11, N by_), (12, N (i.1 * (2 * d)))])
          (fun i h' => Only va.ownBlock h h' ∧ i.1 ≤ M ∧ OwnF h' B 26 U va i.2 ∧ Mid j d (i.1 * (2 * d)) 0 (fun p => ys.getD p 0) gg i.2) (fun i => M - i.1) (0, ys))
        · exact subsX
        · exact ⟨k2, Nat.zero_le _, o2, by rw [Nat.zero_mul]; exact mid_start hfit.1 fun p _ => rfl⟩
        clear o2 k2 G2 h2
        rintro ⟨c, zs⟩ h2 ⟨k2, c1, o2, m2⟩
        dsimp only at k2 c1 o2 m2 ⊢
        have G2 := G.only k2 hne1
        refine runJ ?_
        (apply w_condD; exact rfl; exact rfl) <;> intro hc
        · have room := blk_room hsplit hc
          have hcM : c < M := by rw [hsplit] at hc; exact Nat.lt_of_mul_lt_mul_right hc
          have hlo := hlo c
          have hhi := hhi c
          have hnx : (c + 1) * (2 * d) = c * (2 * d) + 2 * d := Nat.succ_mul _ _
          generalize c * (2 * d) = i at *
          refine runJ ?_
          (first | (apply w_seqB; exact rfl; apply w_block; exact rfl) | skip)
          apply (w_loop (σ := Nat × List Nat) rfl (fun k => [(0, g), (1, va), (2, vp), (10, N d), (11, N by_), (12, N i), (78, N d), (79, N k.1)])
            (fun k h' => Only va.ownBlock h h' ∧ k.1 ≤ d ∧ OwnF h' B 26 U va k.2 ∧ Mid j d i k.1 (fun p => ys.getD p 0) gg k.2) (fun k => d - k.1) (0, zs))
          · exact subs
          · exact ⟨k2, Nat.zero_le _, o2, m2⟩
          clear o2 k2 G2 h2 m2
          rintro ⟨k, zs⟩ h2 ⟨k2, d1, o2, m2⟩
          dsimp only at k2 d1 o2 m2 ⊢
          have G2 := G.only k2 hne1
          have sp2 := sp.only k2 hne2
          refine runJ ?_
          (apply w_condD; exact rfl; exact rfl) <;> intro hk
          · have hlo := hlo k hk
            have hhi := hhi k hk
            have x1 := mid_lo m2 hk room
            have x2 := mid_hi m2 hk room
            have st := mid_step m2 hk room
            have hkb := hkb k hk
            have hp := pows_get (w := z) (q := q) hkb
            have hx1 : i + k < zs.length := by rw [m2.1]; omega
            have hx2 : i + k + d < zs.length := by rw [m2.1]; omega
            have q1 : ys.getD (i + k) 0 < q := fit_get hfit (by omega)
            have q2 : ys.getD (i + k + d) 0 < q := fit_get hfit (by omega)
            have q3 : z ^ (k * by_) % q < q := Nat.mod_lt _ (by omega)
            generalize ys.getD (i + k) 0 = x at *
            generalize ys.getD (i + k + d) 0 = y at *
            generalize z ^ (k * by_) % q = v at *
            have q4 : mulm y v q < q := mulm_lt (by omega)
            have s2 := o2.sl
            refine runJ ?_
            apply (s_call Tryz_ent155 rfl rfl rfl)
            refine (mul_spec y v q h2 (by omega) (by omega) (by omega)).mono ?_
            rintro _ _ ⟨rfl, rfl⟩
            refine clsI ?_
            rw [hlo, hhi] at st
            generalize mulm y v q = r at *
            have hx3 : i + k + d < (zs.set (i + k) (addm x r q)).length := by rw [List.length_set]; exact hx2
            refine runJN ?_
            (apply (r_drawnO (va.ownBlock)); exact rfl; exact mixed; kernel_rfl)
            refine runJ ?_
            apply (s_call Tryz_ent114 rfl rfl rfl)
            refine (add_spec x r q h2 (by omega) (by omega) (by omega)).mono ?_
            rintro _ _ ⟨rfl, rfl⟩
            refine ⟨Only.refl _ _, ?_⟩
            refine runJ ?_
            apply (s_call Tryz_ent66 rfl rfl rfl)
            refine (sub_spec x r q h2 (by omega) (by omega) (by omega)).mono ?_
            rintro _ _ ⟨rfl, rfl⟩
            refine ⟨Only.refl _ _, ?_⟩
            refine runJ ?_
            (apply (s_storeF (addm x r q)); exact rfl; exact rfl; exact rfl; exact rfl; exact rfl; exact o2; exact rfl; (first | assumption | omega))
            intro h3 o3 k3
            refine ⟨(by first | exact k3 | exact trivial | exact Ext.refl _ | assumption | exact Ext.trans (by assumption) (by assumption)), ?_⟩
            have s3 := o3.sl
            refine runJ ?_
            (apply (s_storeF (subm x r q)); exact rfl; exact rfl; exact rfl; exact rfl; exact rfl; exact o3; exact rfl; (first | assumption | omega))
            intro h4 o4 k4
            refine ⟨(by first | exact (k3.trans k4) | exact trivial | exact Ext.refl _ | assumption | exact Ext.trans (by assumption) (by assumption)), ?_⟩
            refine runJ ?_
            apply again_normal (k + 1, (zs.set (i + k) (addm x r q)).set (i + k + d) (subm x r q))
            · exact subs
            · exact ⟨(k2.trans k3).trans k4, by dsimp only; omega, o4, st⟩
            · dsimp only; omega
          · obtain rfl : k = d := by omega
            refine runJ ?_
            apply again_normal (c + 1, zs)
            · exact subsX
            · exact ⟨k2, hcM, o2, by dsimp only; rw [hnx]; exact mid_next m2 hs0⟩
            · dsimp only; omega
        · have hend := mid_end m2 (by omega)
          refine runJ ?_
          apply again_normal (s + 1, zs)
          · exact subsX
          · refine ⟨k2, hsL, o2, fit_of m2.1 fun p hp => by rw [hend p hp]; exact hgq p, ?_⟩
            exact std_congr hsL hbt fun p hp => congrArg Int.ofNat (hend p (by omega))
          · dsimp only; omega
      · have hsL : s = L := by
          rcases Nat.lt_or_ge s L with h1 | h1
          · have := Nat.pow_lt_pow_right (a := 2) (by decide) h1
            omega
          · omega
        subst hsL
        refine runJ ?_
        exact fin1 rfl rfl ⟨rfl, k2, ys, o2, by rw [hL]; exact hfit, fun k hk => std_last hst hk⟩
end Go.Proofs.YtfcmdefigldpnaaGreatDoor

