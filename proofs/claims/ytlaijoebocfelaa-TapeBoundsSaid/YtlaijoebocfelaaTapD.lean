/- The tape: rows of threes. No condition. -/
import Derived.Test.YtlaijoebocfelaaTapC
namespace Go.Proofs.Ytlaijoebocfelaa
set_option linter.unusedVariables false
open Go Go.Den Go.RowKit Go.Dig

theorem TapeAt.only {h h' : Hp} {t : Value} {B r : Option Nat} {ds : List Nat} {o : Bool} (s : TapeAt h t B ds o) (k : Only r h h') (h1 : pblk t ≠ r) (h2 : B ≠ r) : TapeAt h' t B ds o := by
  obtain ⟨v, s1, s2, s3, s4, s5⟩ := s
  refine ⟨v, s1.only k h1, s2.only k ?_, s3.mono k.1, s4, s5⟩
  rcases s3.own with e | e
  · exact .inl e
  · exact .inr (by rw [e]; exact h2)

theorem Try_ent20 : Ent Try.prog 20 := ent_of Try.func20 (by kernel_rfl) rfl
theorem sized_spec (n : Int) (h : Hp) (hn : -9223372036854775808 ≤ n ∧ n < 9223372036854775808) : CallsH Try.prog 20 [I n] h fun v' h' => v' = .bool (decide (1 ≤ n ∧ n ≤ 4096)) ∧ h = h' := by
  (apply enter Try.func20 rfl Try.ntmps20 rfl)
  refine runH ?_
  (apply s_splitG; exact rfl; exact rfl; exact rfl; exact rfl) <;> intro h1
  · refine runH ?_
    refine fin1 rfl rfl ⟨?_, rfl⟩
    congr 1; simp [h1]
  · refine runH ?_
    refine fin1 rfl rfl ⟨?_, rfl⟩
    congr 1; simp [h1]

/-- So many of three, and what is left. -/
def rowT : Nat → List Nat → Option (List Int × List Nat)
  | 0, ds => some ([], ds)
  | k + 1, ds => match firstT ds with
    | none => none
    | some (r, ds1) => match rowT k ds1 with
      | none => none
      | some (rs, ds2) => some (r :: rs, ds2)

theorem Try_ent21 : Ent Try.prog 21 := ent_of Try.func21 (by kernel_rfl) rfl
theorem row_spec (t : Value) (B : Option Nat) (n : Nat) (ds : List Nat) (h : Hp) (s : TapeAt h t B ds false) (hn : 1 ≤ n) (hn2 : n ≤ 4096) :
    CallsH Try.prog 21 [N n, .func (.func 9) #[t] #[]] h fun v' h' => Only (pblk t) h h' ∧ match rowT n ds with
      | none => v' = .tuple #[.slice none 0 0, N 11] ∧ TapeAt h' t B [] true
      | some (rs, ds') => ∃ u, v' = .tuple #[u, N 0] ∧ OwnF h' h.size 2 I u rs ∧ TapeAt h' t B ds' false ∧ ds'.length + n ≤ ds.length := by
  (apply enter Try.func21 rfl Try.ntmps21 rfl)
  refine runH ?_
  (apply (s_make (f := I) (bytes := 8) (0)); (first | exact isK_c | exact isK_t rfl); (first | exact isK_c | exact isK_t rfl); exact rfl; exact rfl; exact rfl; exact rfl; exact rfl; exact rfl; omega; omega; omega)
  intro u h1 o1 e1 b1
  refine ⟨(by first | exact trivial | exact Ext.refl _ | assumption | exact Ext.trans (by assumption) (by assumption)), ?_⟩
  refine runH ?_
  rw [List.length_replicate]
  have s1 : TapeAt h1 t B ds false := by
    obtain ⟨v, s1, s2, s3, s4, s5⟩ := s
    exact ⟨v, s1.ext e1, s2.ext e1, s3.mono e1.1, s4, s5⟩
  obtain ⟨pk, hpk, hpl⟩ : ∃ k, pblk t = some k ∧ k < h.size := by
    obtain ⟨v, s1, -⟩ := s
    exact s1.blk
  have hBlt : ∀ b, B = some b → b < h.size := by
    obtain ⟨v, -, -, s3, -⟩ := s
    exact s3.lt
  apply (w_loop (σ := Nat × List Int × List Nat) rfl (fun p => [(14, N p.1), (13, N n), (6, u), (1, .func (.func 9) #[t] #[])])
    (fun p h' => Only (pblk t) h h' ∧ OwnF h' h.size 2 I u (p.2.1 ++ List.replicate (n - p.1) 0) ∧ TapeAt h' t B p.2.2 false ∧ p.2.1.length = p.1 ∧ p.1 ≤ n ∧ p.2.2.length + p.1 ≤ ds.length ∧
      rowT n ds = (match rowT (n - p.1) p.2.2 with | none => none | some (x, y) => some (p.2.1 ++ x, y))) (fun p => n - p.1) (0, [], ds))
  · exact (Sub.cons rfl (Sub.cons rfl (Sub.cons rfl (Sub.cons rfl (Sub.nil _)))))
  · refine ⟨e1.only _, by simpa using o1, s1, rfl, Nat.zero_le _, Nat.le_refl _, ?_⟩
    simp only [Nat.sub_zero, List.nil_append]
    cases rowT n ds <;> rfl
  · rintro ⟨i, rs, ds'⟩ h2 ⟨d1, d2, d3, d4, d5, d6, d7⟩
    dsimp only at d2 d3 d4 d5 d6 d7 ⊢
    refine runH ?_
    (apply w_condD; exact rfl; exact rfl) <;> intro hi
    · refine runH ?_
      refine (s_callV (fs := [t]) (cs := []) (vs := []) (args := []) rfl Try_ent9 rfl rfl rfl ?_)
      refine (ternary_spec t B ds' false h2 d3).mono ?_
      rintro r h3 ⟨k3, T⟩
      refine ⟨trivial, ?_⟩
      have d1' := d1.trans k3
      have hne : u.ownBlock = none ∨ u.ownBlock ≠ pblk t := d2.neV hpk hpl
      have o3 := d2.only k3 hne
      obtain ⟨m, hm⟩ : ∃ m, n - i = m + 1 := ⟨n - i - 1, by omega⟩
      simp only [Bool.false_eq_true, if_false] at T
      cases hf : firstT ds' with
      | none =>
        rw [hf] at T
        obtain ⟨rfl, -, T⟩ := T
        have T := T trivial
        have d8 : rowT n ds = none := by rw [d7, hm]; simp [rowT, hf]
        rw [d8]
        refine runH ?_
        exact fin2 rfl rfl rfl ⟨d1', rfl, T⟩
      | some q =>
        obtain ⟨r1, ds1⟩ := q
        rw [hf] at T
        obtain ⟨rfl, -, -, T, T2⟩ := T
        have hil : i < (rs ++ List.replicate (n - i) 0).length := by simp only [List.length_append, List.length_replicate]; omega
        refine runH ?_
        (apply (s_storeF (r1)); exact rfl; exact rfl; exact rfl; exact rfl; exact rfl; exact o3; exact rfl; (first | assumption | omega))
        intro h4 o4 k4
        refine ⟨(by first | exact trivial | exact Ext.refl _ | assumption | exact Ext.trans (by assumption) (by assumption)), ?_⟩
        rw [b1] at k4
        have hsz : h.size ≤ h3.size := d1'.1
        have hT : TapeAt h4 t B ds1 false := T.only k4 (by rw [hpk]; intro e; cases e; omega) (fun e => by have := hBlt _ e; omega)
        have d1'' : Only (pblk t) h h4 := ⟨Nat.le_trans d1'.1 k4.1, fun k hk hne => by
          rw [k4.2 k (Nat.lt_of_lt_of_le hk hsz) (fun e => by cases e; omega), d1'.2 k hk hne]⟩
        have hset : (rs ++ List.replicate (n - i) 0).set i r1 = (rs ++ [r1]) ++ List.replicate (n - (i + 1)) 0 := by
          rw [hm, show n - (i + 1) = m by omega, List.replicate_succ, List.set_append_right _ _ (by omega), show i - rs.length = 0 by omega]
          simp
        rw [hset] at o4
        refine runH ?_
        apply again_normal (i + 1, rs ++ [r1], ds1)
        · exact (Sub.cons rfl (Sub.cons rfl (Sub.cons rfl (Sub.cons rfl (Sub.nil _)))))
        · refine ⟨d1'', o4, hT, by simp [d4], hi, by simp only []; omega, ?_⟩
          rw [d7, hm, show n - (i + 1) = m by omega]
          simp only [rowT, hf]
          cases rowT m ds1 with
          | none => rfl
          | some q => simp
        · simp only []; omega
    · have hi' : i = n := by omega
      subst hi'
      have d8 : rowT i ds = some (rs, ds') := by rw [d7, Nat.sub_self]; simp [rowT]
      rw [d8]
      refine runH ?_
      refine fin2 rfl rfl rfl ⟨d1, u, rfl, by simpa using d2, d3, by omega⟩

theorem Try_ent12 : Ent Try.prog 12 := ent_of Try.func12 (by kernel_rfl) rfl
theorem ternaries_spec (t : Value) (B : Option Nat) (n : Nat) (ds : List Nat) (h : Hp) (s : TapeAt h t B ds false) (hn : 1 ≤ n) (hn2 : n ≤ 4096) :
    CallsH Try.prog 12 [t, N n] h fun v' h' => Only (pblk t) h h' ∧ match rowT n ds with
      | none => v' = .tuple #[.slice none 0 0, N 11] ∧ TapeAt h' t B [] true
      | some (rs, ds') => ∃ u, v' = .tuple #[u, N 0] ∧ OwnF h' h.size 2 I u rs ∧ TapeAt h' t B ds' false ∧ ds'.length + n ≤ ds.length := by
  have s0 := s
  obtain ⟨v, s1, s2, s3, s4, s5⟩ := s
  (apply enter Try.func12 rfl Try.ntmps12 rfl)
  refine runH ?_
  apply (s_call Try_ent20 rfl rfl rfl)
  refine (sized_spec n h (by omega)).mono ?_
  rintro _ _ ⟨rfl, rfl⟩
  refine ⟨(by first | exact trivial | exact Ext.refl _ | assumption | exact Ext.trans (by assumption) (by assumption)), ?_⟩
  have hd : decide (1 ≤ (n : Int) ∧ (n : Int) ≤ 4096) = true := by simp; omega
  rw [hd]
  refine runH ?_
  apply (s_call Try_ent21 rfl rfl rfl)
  refine (row_spec t B n ds h s0 hn hn2).mono ?_
  rintro r h2 ⟨k2, T⟩
  refine ⟨(by first | exact trivial | exact trivial), ?_⟩
  cases hr : rowT n ds with
  | none =>
    rw [hr] at T
    obtain ⟨rfl, T⟩ := T
    refine runH ?_
    exact fin2 rfl rfl rfl ⟨k2, rfl, T⟩
  | some q =>
    obtain ⟨rs, ds'⟩ := q
    rw [hr] at T
    obtain ⟨u, rfl, T1, T2, T3⟩ := T
    refine runH ?_
    exact fin2 rfl rfl rfl ⟨k2, u, rfl, T1, T2, T3⟩

end Go.Proofs.Ytlaijoebocfelaa
