/- Texts RtpA to SrcA of this work, joined: each says in its own head what it proves, and of which condition. -/
import Derived.Test.YtfcmdefigldpnaaDoorMPk20
/- The reference's tape. No condition. -/
namespace Go.Proofs.YtfcmdefigldpnaaDoor
set_option linter.unusedVariables false
set_option maxRecDepth 8000
open Go Go.Den Go.RowKit Go.Dig

/-- t points to a tape of the reference. -/
def TapR (h : Hp) (t : Value) (B : Option Nat) (ds : List Nat) (o : Bool) : Prop := ∃ v, Var h t 54 [v, .bool o] ∧ SlF h U v ds ∧ Blk h t v B ∧ Al 18446744073709551616 ds ∧ ds.length < 4611686018427387904
theorem TapR.only {h h' : Hp} {t : Value} {B r : Option Nat} {ds : List Nat} {o : Bool} (s : TapR h t B ds o) (k : Only r h h') (h1 : pblk t ≠ r) (h2 : B ≠ r) : TapR h' t B ds o := by
  obtain ⟨v, s1, s2, s3, s4, s5⟩ := s
  refine ⟨v, s1.only k h1, s2.only k ?_, s3.mono k.1, s4, s5⟩
  rcases s3.own with e | e
  · exact .inl e
  · exact .inr (by rw [e]; exact h2)
theorem TapR.ext {h h' : Hp} {t : Value} {B : Option Nat} {ds : List Nat} {o : Bool} (s : TapR h t B ds o) (k : Ext h h') : TapR h' t B ds o := by
  obtain ⟨v, s1, s2, s3, s4, s5⟩ := s
  exact ⟨v, s1.ext k, s2.ext k, s3.mono k.1, s4, s5⟩
theorem TapR.own {h h' : Hp} {t : Value} {B r : Option Nat} {ds : List Nat} {o : Bool} (s : TapR h t B ds o) (k : Only r h h') {M : Nat} (hp : ∀ j, pblk t = some j → j < M) (hB : ∀ b, B = some b → b < M) (hr : ∀ j, r = some j → M ≤ j) : TapR h' t B ds o := by
  cases r with
  | none => exact s.ext k.ext
  | some j => exact s.only k (fun e => by have := hp j e; have := hr j rfl; omega) (fun e => by have := hB j e; have := hr j rfl; omega)
theorem TapR.pb {h : Hp} {t : Value} {B : Option Nat} {ds : List Nat} {o : Bool} (s : TapR h t B ds o) : ∃ k, pblk t = some k ∧ k < h.size := by
  obtain ⟨v, s1, -⟩ := s
  exact s1.blk
theorem TapR.bl {h : Hp} {t : Value} {B : Option Nat} {ds : List Nat} {o : Bool} (s : TapR h t B ds o) : ∀ b, B = some b → b < h.size := by
  obtain ⟨v, -, -, s3, -⟩ := s
  exact s3.lt
def TakeR (h : Hp) (t : Value) (B : Option Nat) (v' : Value) (ds : List Nat) : List Nat → Prop
  | [] => v' = .tuple #[U 0, .bool false] ∧ TapR h t B ds true
  | d :: ds' => v' = .tuple #[U d, .bool true] ∧ TapR h t B ds' false

theorem Tryd_ent64 : Ent Tryd.prog 64 := ent_of Tryd.func64 (by kernel_rfl) rfl
theorem takeR_spec (t : Value) (B : Option Nat) (ds : List Nat) (o : Bool) (h : Hp) (s : TapR h t B ds o) :
    CallsH Tryd.prog 64 [t] h fun v' h' => Only (pblk t) h h' ∧ TakeR h' t B v' ds (if o then [] else ds) := by
  obtain ⟨v, s1, s2, s3, s4, s5⟩ := s
  cases o with
  | true =>
    (apply enter Tryd.func64 rfl Tryd.ntmps64 rfl)
    refine runH ?_
    (apply s_storeC; exact rfl; exact rfl; (first | exact rfl | exact SlF.one (by assumption) | exact SlF.one (OwnF.sl (by assumption)) | exact Var.one (by assumption)); exact rfl; exact rfl; exact s1; exact rfl)
    intro h2 t2 k2
    refine ⟨(by first | exact trivial | exact Ext.refl _ | assumption | exact Ext.only (by assumption) _ | exact Only.trans (Ext.only (by assumption) _) (by assumption)), ?_⟩
    refine runH ?_
    exact fin2 rfl rfl rfl ⟨k2, rfl, v, t2, s2.only k2 s3.ne, s3.mono k2.1, s4, s5⟩
  | false =>
    (apply enter Tryd.func64 rfl Tryd.ntmps64 rfl)
    refine runH ?_
    (apply w_condD; exact rfl; exact rfl) <;> intro hn
    · have hd : ds = [] := List.eq_nil_of_length_eq_zero hn
      subst hd
      refine runH ?_
      (apply s_storeC; exact rfl; exact rfl; (first | exact rfl | exact SlF.one (by assumption) | exact SlF.one (OwnF.sl (by assumption)) | exact Var.one (by assumption)); exact rfl; exact rfl; exact s1; exact rfl)
      intro h2 t2 k2
      refine ⟨(by first | exact trivial | exact Ext.refl _ | assumption | exact Ext.only (by assumption) _ | exact Only.trans (Ext.only (by assumption) _) (by assumption)), ?_⟩
      refine runH ?_
      exact fin2 rfl rfl rfl ⟨k2, rfl, v, t2, s2.only k2 s3.ne, s3.mono k2.1, s4, s5⟩
    · obtain ⟨d, ds', rfl⟩ : ∃ d ds', ds = d :: ds' := by
        cases ds with
        | nil => exact absurd rfl hn
        | cons d ds' => exact ⟨d, ds', rfl⟩
      have hl : 0 < (d :: ds').length := by simp
      have hl1 : 1 ≤ (d :: ds').length := hl
      have hd0 : (d :: ds')[0]? = some d := rfl
      have c1 : SlF h U (cutV 1 v 1 (d :: ds').length) ds' := by simpa using s2.cut (lo := 1) (hi := (d :: ds').length) hl1 (Nat.le_refl _)
      refine runH ?_
      (apply s_storeC; exact rfl; exact rfl; (first | exact rfl | exact SlF.one (by assumption) | exact SlF.one (OwnF.sl (by assumption)) | exact Var.one (by assumption)); exact rfl; exact rfl; exact s1; exact rfl)
      intro h2 t2 k2
      refine ⟨(by first | exact trivial | exact Ext.refl _ | assumption | exact Ext.only (by assumption) _ | exact Only.trans (Ext.only (by assumption) _) (by assumption)), ?_⟩
      refine runH ?_
      exact fin2 rfl rfl rfl ⟨k2, rfl, _, t2, c1.only k2 s3.cut.ne, s3.cut.mono k2.1, fun x hx => s4 x (by simp [hx]), by simp only [List.length_cons] at s5; omega⟩

/-- What a draw gave. -/
def GotR {α : Type} (f : α → Value) (z : Value) (h : Hp) (t : Value) (B : Option Nat) (v' : Value) : Option (α × List Nat) → Prop
  | none => v' = .tuple #[z, N 11] ∧ ∃ ds, TapR h t B ds true
  | some (r, ds) => v' = .tuple #[f r, N 0] ∧ TapR h t B ds false
theorem tern_mod (d : Nat) : (d % 4 = 0 → tern d = 0) ∧ (d % 4 = 1 → tern d = 1) ∧ (d % 4 = 2 → tern d = -1) ∧ (d &&& 3 = 3 ↔ d % 4 = 3) := by
  have h3 : d &&& 3 = d % 4 := Nat.and_two_pow_sub_one_eq_mod d 2
  have h1 : d &&& 1 = d % 2 := Nat.and_one_is_mod d
  have h2 : d / 2 ^ 1 &&& 1 = d / 2 % 2 := Nat.and_one_is_mod _
  unfold tern
  rw [h3, h1, h2]
  omega

theorem Tryd_ent39 : Ent Tryd.prog 39 := ent_of Tryd.func39 (by kernel_rfl) rfl
theorem ternaryR_spec (t : Value) (B : Option Nat) (ds : List Nat) (o : Bool) (h : Hp) (s : TapR h t B ds o) :
    CallsH Tryd.prog 39 [t] h fun v' h' => Only (pblk t) h h' ∧ GotR I (N 0) h' t B v' (if o then none else firstT ds) := by
  (apply enter Tryd.func39 rfl Tryd.ntmps39 rfl)
  refine runH ?_
  (first | (apply w_seqB; exact rfl; apply w_block; exact rfl) | skip)
  apply (w_loop (σ := List Nat × Bool) rfl (fun p => [(0, t)])
    (fun p h' => Only (pblk t) h h' ∧ TapR h' t B p.1 p.2 ∧ (if o then none else firstT ds) = (if p.2 then none else firstT p.1)) (fun p => p.1.length) (ds, o))
  · exact (Sub.cons rfl (Sub.nil _))
  · exact ⟨Only.refl _ _, s, rfl⟩
  rintro ⟨ds', o'⟩ h1 ⟨i1, i2, i3⟩
  dsimp only at i2 i3 ⊢
  refine runH ?_
  apply (s_call Tryd_ent64 rfl rfl rfl)
  refine (takeR_spec t B ds' o' h1 i2).mono ?_
  rintro r h2 ⟨k2, D⟩
  refine ⟨(by first | exact trivial | exact trivial), ?_⟩
  have i5 := i1.trans k2
  rw [i3]
  cases o' with
  | true =>
    obtain ⟨rfl, D⟩ := D
    refine runH ?_
    exact fin2 rfl rfl rfl ⟨i5, rfl, ds', D⟩
  | false =>
    cases ds' with
    | nil =>
      obtain ⟨rfl, D⟩ := D
      refine runH ?_
      exact fin2 rfl rfl rfl ⟨i5, rfl, [], D⟩
    | cons d ds' =>
      obtain ⟨rfl, D⟩ := D
      obtain ⟨m0, m1, m2, m3⟩ := tern_mod d
      have hf : firstT (d :: ds') = if d &&& 3 = 3 then firstT ds' else some (tern d, ds') := rfl
      refine runH ?_
      (apply w_condD; exact rfl; exact rfl) <;> intro c0
      · refine runH ?_
        refine fin2 rfl rfl rfl ⟨i5, ?_⟩
        rw [if_neg (show ¬ (false = true) by simp), hf, if_neg (by rw [m3]; omega), m0 c0]
        exact ⟨rfl, D⟩
      refine runH ?_
      (apply w_condD; exact rfl; exact rfl) <;> intro c1
      · refine runH ?_
        refine fin2 rfl rfl rfl ⟨i5, ?_⟩
        rw [if_neg (show ¬ (false = true) by simp), hf, if_neg (by rw [m3]; omega), m1 c1]
        exact ⟨rfl, D⟩
      refine runH ?_
      (apply w_condD; exact rfl; exact rfl) <;> intro c2
      · refine runH ?_
        refine fin2 rfl rfl rfl ⟨i5, ?_⟩
        rw [if_neg (show ¬ (false = true) by simp), hf, if_neg (by rw [m3]; omega), m2 c2]
        exact ⟨rfl, D⟩
      · refine runH ?_
        apply again_normal (ds', false)
        · exact (Sub.cons rfl (Sub.nil _))
        · exact ⟨i5, D, (show firstT (d :: ds') = firstT ds' by rw [hf, if_pos (by rw [m3]; omega)])⟩
        · simp

/-- The first draw that tells a word below q, and what is left. -/
def firstB (q : Nat) : List Nat → Option (Nat × List Nat)
  | [] => none
  | d :: ds => if d ≤ 18446744073709551615 - 18446744073709551616 % q then some (d % q, ds) else firstB q ds

theorem Tryd_ent40 : Ent Tryd.prog 40 := ent_of Tryd.func40 (by kernel_rfl) rfl
theorem belowR_spec (t : Value) (B : Option Nat) (q : Nat) (ds : List Nat) (o : Bool) (h : Hp) (s : TapR h t B ds o) (hq : 0 < q) (hq2 : q < 18446744073709551616) :
    CallsH Tryd.prog 40 [t, U q] h fun v' h' => Only (pblk t) h h' ∧ GotR U (U 0) h' t B v' (if o then none else firstB q ds) := by
  have hsp : (18446744073709551615 % q + 1) % q = 18446744073709551616 % q := Nat.mod_add_mod _ _ _
  have hm : 18446744073709551615 % q < q := Nat.mod_lt _ hq
  have hsl : 18446744073709551616 % q < q := Nat.mod_lt _ hq
  have hF : ∀ d ds, firstB q (d :: ds) = if d ≤ 18446744073709551615 - 18446744073709551616 % q then some (d % q, ds) else firstB q ds := fun d ds => rfl
  (apply enter Tryd.func40 rfl Tryd.ntmps40 rfl)
  refine runH ?_
  (apply w_condF; exact rfl; exact rfl; exact (by omega))
  refine runH ?_
  rw [hsp]
  generalize 18446744073709551616 % q = sp at *
  refine runH ?_
  (first | (apply w_seqB; exact rfl; apply w_block; exact rfl) | skip)
  apply (w_loop (σ := List Nat × Bool) rfl (fun p => [(0, t), (1, U q), (6, U sp)])
    (fun p h' => Only (pblk t) h h' ∧ TapR h' t B p.1 p.2 ∧ (if o then none else firstB q ds) = (if p.2 then none else firstB q p.1)) (fun p => p.1.length) (ds, o))
  · exact (Sub.cons rfl (Sub.cons rfl (Sub.cons rfl (Sub.nil _))))
  · exact ⟨Only.refl _ _, s, rfl⟩
  rintro ⟨ds', o'⟩ h1 ⟨i1, i2, i3⟩
  dsimp only at i2 i3 ⊢
  refine runH ?_
  apply (s_call Tryd_ent64 rfl rfl rfl)
  refine (takeR_spec t B ds' o' h1 i2).mono ?_
  rintro r h2 ⟨k2, D⟩
  refine ⟨(by first | exact trivial | exact trivial), ?_⟩
  have i5 := i1.trans k2
  rw [i3]
  cases o' with
  | true =>
    obtain ⟨rfl, D⟩ := D
    refine runH ?_
    exact fin2 rfl rfl rfl ⟨i5, rfl, ds', D⟩
  | false =>
    cases ds' with
    | nil =>
      obtain ⟨rfl, D⟩ := D
      refine runH ?_
      exact fin2 rfl rfl rfl ⟨i5, rfl, [], D⟩
    | cons d ds' =>
      obtain ⟨rfl, D⟩ := D
      have hf := hF d ds'
      refine runH ?_
      (apply w_condD; exact rfl; exact rfl) <;> intro c0
      · refine runH ?_
        refine fin2 rfl rfl rfl ⟨i5, ?_⟩
        rw [if_neg (by simp), hf, if_pos c0]
        exact ⟨rfl, D⟩
      · refine runH ?_
        apply again_normal (ds', false)
        · exact (Sub.cons rfl (Sub.cons rfl (Sub.cons rfl (Sub.nil _))))
        · exact ⟨i5, D, (show firstB q (d :: ds') = firstB q ds' by rw [hf, if_neg c0])⟩
        · simp

/-- So many draws, and what is left. -/
def rowG {α : Type} (f : List Nat → Option (α × List Nat)) : Nat → List Nat → Option (List α × List Nat)
  | 0, ds => some ([], ds)
  | k + 1, ds => match f ds with
    | none => none
    | some (r, ds1) => match rowG f k ds1 with
      | none => none
      | some (rs, ds2) => some (r :: rs, ds2)
/-- A heap's first blocks. -/
def cutH (h : Hp) (n : Nat) : Hp := h.extract 0 n
theorem cutH_ext {h : Hp} {n : Nat} (hn : n ≤ h.size) : (cutH h n).size = n ∧ Ext (cutH h n) h := by
  have hs : (cutH h n).size = n := by unfold cutH; rw [Array.size_extract]; omega
  refine ⟨hs, by omega, fun k hk => ?_⟩
  unfold cutH
  rw [Array.getElem?_extract]
  rw [hs] at hk
  simp only [Nat.zero_add]
  rw [if_pos (by omega)]
theorem only_own {h h2 h3 : Hp} {r r' : Option Nat} (d : Only r h h2) (k : Only r' h2 h3) (hb : ∀ j, r' = some j → h.size ≤ j) : Only r h h3 :=
  ⟨Nat.le_trans d.1 k.1, fun i hi hn => (k.2 i (Nat.lt_of_lt_of_le hi d.1) (fun e => by have := hb i e.symm; omega)).trans (d.2 i hi hn)⟩
def RowR {α : Type} (f : α → Value) (e : TypeId) (h h' : Hp) (t : Value) (B : Option Nat) (v' : Value) : Option (List α × List Nat) → Prop
  | none => v' = .tuple #[.slice none 0 0, N 11] ∧ ∃ ds, TapR h' t B ds true
  | some (rs, ds) => ∃ u, v' = .tuple #[u, N 0] ∧ OwnF h' h.size e f u rs ∧ TapR h' t B ds false
def preG {α : Type} (rs : List α) : Option (List α × List Nat) → Option (List α × List Nat)
  | none => none
  | some (x, y) => some (rs ++ x, y)
theorem preG_nil {α : Type} (Z : Option (List α × List Nat)) : preG [] Z = Z := by cases Z <;> rfl
theorem rowG_step {α : Type} {f : List Nat → Option (α × List Nat)} {Z : Option (List α × List Nat)} {ds' ds1 : List Nat} {rs : List α} {r : α} {m : Nat} (h : Z = preG rs (rowG f (m + 1) ds')) (hf : f ds' = some (r, ds1)) :
    Z = preG (rs ++ [r]) (rowG f m ds1) := by
  rw [h]
  simp only [rowG, hf]
  cases rowG f m ds1 with
  | none => rfl
  | some q => simp [preG]
theorem rowG_fail {α : Type} {f : List Nat → Option (α × List Nat)} {Z : Option (List α × List Nat)} {ds' : List Nat} {rs : List α} {m : Nat} (h : Z = preG rs (rowG f (m + 1) ds')) (hf : f ds' = none) : Z = none := by
  rw [h]
  simp only [rowG, hf, preG]
theorem rowG_zero {α : Type} {f : List Nat → Option (α × List Nat)} {Z : Option (List α × List Nat)} {ds' : List Nat} {rs : List α} (h : Z = preG rs (rowG f 0 ds')) : Z = some (rs, ds') := by
  rw [h]
  simp [rowG, preG]

theorem Tryd_ent22 : Ent Tryd.prog 22 := ent_of Tryd.func22 (by kernel_rfl) rfl
set_option maxHeartbeats 1000000 in
theorem ternariesR_spec (t : Value) (B : Option Nat) (n : Nat) (ds : List Nat) (o : Bool) (h : Hp) (s : TapR h t B ds o) (hn : 1 ≤ n) (hn2 : n ≤ 4096) :
    CallsH Tryd.prog 22 [t, N n] h fun v' h' => Only (pblk t) h h' ∧ RowR I 2 h h' t B v' (if o then none else rowG firstT n ds) := by
  obtain ⟨pk, hpk, hpl⟩ := s.pb
  have hBl := s.bl
  generalize hZ : (if o then none else rowG firstT n ds) = Z
  (apply enter Tryd.func22 rfl Tryd.ntmps22 rfl)
  refine runH ?_
  (apply s_splitG; exact rfl; exact rfl; exact rfl; exact rfl) <;> intro g1
  · exact absurd g1 (by omega)
  refine runH ?_
  (apply w_condF; exact rfl; exact rfl; exact (show ¬ 4096 < n by omega))
  refine runH ?_
  (first | (apply w_seqB; exact rfl; apply w_block; exact rfl) | skip)
  apply (w_loop (σ := (Nat × Value) × List Int × List Nat × Bool) rfl (fun p => [(0, t), (1, N n), (6, p.1.2), (7, N p.1.1)])
    (fun p h' => Only (pblk t) h h' ∧ OwnF h' h.size 2 I p.1.2 p.2.1 ∧ TapR h' t B p.2.2.1 p.2.2.2 ∧ p.2.1.length = p.1.1 ∧ p.1.1 ≤ n ∧ (p.2.2.2 = true → p.1.1 < n) ∧
      Z = (if p.2.2.2 then none else preG p.2.1 (rowG firstT (n - p.1.1) p.2.2.1))) (fun p => n - p.1.1) ((0, .slice none 0 0), [], ds, o))
  · exact (Sub.cons rfl (Sub.cons rfl (Sub.cons rfl (Sub.cons rfl (Sub.nil _)))))
  · refine ⟨Only.refl _ _, OwnF.nil _ _ _ _, s, rfl, Nat.zero_le _, fun _ => hn, ?_⟩
    dsimp only
    rw [← hZ, Nat.sub_zero, preG_nil]
  rintro ⟨⟨i, v⟩, rs, ds', o'⟩ h2 ⟨d1, d2, d3, d4, d5, d6, d7⟩
  dsimp only at d2 d3 d4 d5 d6 d7 ⊢
  refine runH ?_
  (apply w_condD; exact rfl; exact rfl) <;> intro hi
  · refine runH ?_
    apply (s_call Tryd_ent39 rfl rfl rfl)
    refine (ternaryR_spec t B ds' o' h2 d3).mono ?_
    rintro r h3 ⟨k3, G⟩
    refine ⟨(by first | exact trivial | exact trivial), ?_⟩
    have d1' := d1.trans k3
    obtain ⟨m, hm⟩ : ∃ m, n - i = m + 1 := ⟨n - i - 1, by omega⟩
    rw [hm] at d7
    have hfail : ∀ {r : Value}, o' = true ∨ firstT ds' = none → GotR I (N 0) h3 t B r (if o' then none else firstT ds') → r = .tuple #[N 0, N 11] ∧ (∃ ds, TapR h3 t B ds true) ∧ Z = none := by
      intro r hc G
      rcases hc with rfl | hf
      · exact ⟨G.1, G.2, d7⟩
      · cases o' with
        | true => exact ⟨G.1, G.2, d7⟩
        | false =>
          rw [if_neg (by simp), hf] at G
          rw [if_neg (by simp)] at d7
          exact ⟨G.1, G.2, rowG_fail d7 hf⟩
    by_cases hc : o' = true ∨ firstT ds' = none
    · obtain ⟨rfl, hT, rfl⟩ := hfail hc G
      refine runH ?_
      exact fin2 rfl rfl rfl ⟨d1', rfl, hT⟩
    · obtain ⟨ho, hf⟩ : o' = false ∧ ∃ r1 ds1, firstT ds' = some (r1, ds1) := by
        refine ⟨by cases o' <;> simp_all, ?_⟩
        cases hf : firstT ds' with
        | none => exact absurd (.inr hf) hc
        | some q => exact ⟨q.1, q.2, rfl⟩
      subst ho
      obtain ⟨r1, ds1, hf⟩ := hf
      rw [if_neg (by simp)] at d7 G
      rw [hf] at G
      obtain ⟨rfl, T⟩ := G
      have hne : v.ownBlock = none ∨ v.ownBlock ≠ pblk t := d2.neV hpk hpl
      have o3 := d2.only k3 hne
      obtain ⟨hsz, ex3⟩ := cutH_ext d1'.1
      rw [← hsz] at o3
      refine runH ?_
      (refine s_app1 (bytes := 8) (r1) o3 ex3 rfl rfl rfl rfl rfl rfl rfl rfl rfl (by first | exact rfl | exact congrArg some (congrArg I (by omega))) (fun _ => rfl) rfl rfl (fun _ _ => trivial) (by omega) (by simp only [maxLen]; omega) ?_)
      intro v4 h4 o4 e4 k4 b4
      rw [hsz] at o3 o4
      have hT : TapR h4 t B ds1 false := T.own k4 (M := h.size) (fun j hj => by rw [hpk] at hj; cases hj; exact hpl) hBl (fun j hj => (o3.blk j hj).1)
      have d1'' := only_own d1' k4 fun j hj => (o3.blk j hj).1
      refine runH ?_
      apply again_normal ((i + 1, v4), rs ++ [r1], ds1, false)
      · exact (Sub.cons rfl (Sub.cons rfl (Sub.cons rfl (Sub.cons rfl (Sub.nil _)))))
      · refine ⟨d1'', o4, hT, by simp [d4], hi, (fun h => by cases h), ?_⟩
        dsimp only
        rw [if_neg (by simp), show n - (i + 1) = m by omega]
        exact rowG_step d7 hf
      · dsimp only; omega
  · obtain rfl : i = n := by omega
    obtain rfl : o' = false := by
      cases o' with
      | false => rfl
      | true => exact absurd (d6 rfl) (by omega)
    rw [if_neg (by simp), Nat.sub_self] at d7
    rw [rowG_zero d7]
    refine runH ?_
    exact fin2 rfl rfl rfl ⟨d1, v, rfl, d2, d3⟩
end Go.Proofs.YtfcmdefigldpnaaDoor

/- The reference's tape: elements. No condition. -/
namespace Go.Proofs.YtfcmdefigldpnaaDoor
set_option linter.unusedVariables false
set_option maxRecDepth 8000
open Go Go.Den Go.RowKit Go.Dig

/-- Rows of words, one for each prime, and what is left. -/
def uniG (n : Nat) : List Nat → List Nat → Option (List (List Nat) × List Nat)
  | [], ds => some ([], ds)
  | q :: qs, ds => match rowG (firstB q) n ds with
    | none => none
    | some (l, ds1) => match uniG n qs ds1 with
      | none => none
      | some (ls, ds2) => some (l :: ls, ds2)
theorem uniG_step {n q : Nat} {qs ds' ds1 : List Nat} {Z : Option (List (List Nat) × List Nat)} {ls : List (List Nat)} {l : List Nat} (h : Z = preG ls (uniG n (q :: qs) ds')) (hf : rowG (firstB q) n ds' = some (l, ds1)) :
    Z = preG (ls ++ [l]) (uniG n qs ds1) := by
  rw [h]
  simp only [uniG, hf]
  cases uniG n qs ds1 with
  | none => rfl
  | some q => simp [preG]
theorem uniG_fail {n q : Nat} {qs ds' : List Nat} {Z : Option (List (List Nat) × List Nat)} {ls : List (List Nat)} (h : Z = preG ls (uniG n (q :: qs) ds')) (hf : rowG (firstB q) n ds' = none) : Z = none := by
  rw [h]
  simp only [uniG, hf, preG]
theorem uniG_zero {n : Nat} {ds' : List Nat} {Z : Option (List (List Nat) × List Nat)} {ls : List (List Nat)} (h : Z = preG ls (uniG n [] ds')) : Z = some (ls, ds') := by
  rw [h]
  simp [uniG, preG]
theorem firstB_lt {q : Nat} (hq : 0 < q) : ∀ (ds : List Nat) (r : Nat) (ds' : List Nat), firstB q ds = some (r, ds') → r < q
  | [], r, ds', h => by cases h
  | d :: ds, r, ds', h => by
    unfold firstB at h
    split at h
    · cases h; exact Nat.mod_lt _ hq
    · exact firstB_lt hq ds r ds' h
theorem rowG_all {α : Type} {f : List Nat → Option (α × List Nat)} {p : α → Prop} (hf : ∀ ds r ds', f ds = some (r, ds') → p r) : ∀ (n : Nat) (ds : List Nat) (rs : List α) (ds' : List Nat), rowG f n ds = some (rs, ds') → rs.length = n ∧ ∀ r ∈ rs, p r
  | 0, ds, rs, ds', h => by simp only [rowG, Option.some.injEq, Prod.mk.injEq] at h; obtain ⟨rfl, -⟩ := h; exact ⟨rfl, fun r hr => by cases hr⟩
  | n + 1, ds, rs, ds', h => by
    simp only [rowG] at h
    cases h1 : f ds with
    | none => rw [h1] at h; cases h
    | some q =>
      obtain ⟨r, ds1⟩ := q
      rw [h1] at h
      dsimp only at h
      cases h2 : rowG f n ds1 with
      | none => rw [h2] at h; cases h
      | some q2 =>
        obtain ⟨rs2, ds2⟩ := q2
        rw [h2] at h
        simp only [Option.some.injEq, Prod.mk.injEq] at h
        obtain ⟨rfl, rfl⟩ := h
        obtain ⟨a1, a2⟩ := rowG_all hf n ds1 rs2 ds2 h2
        refine ⟨by simp [a1], fun x hx => ?_⟩
        rcases List.mem_cons.1 hx with rfl | hx
        · exact hf _ _ _ h1
        · exact a2 x hx

def UniR (h h' : Hp) (t : Value) (B : Option Nat) (v' : Value) : Option (List (List Nat) × List Nat) → Prop
  | none => v' = .tuple #[.agg #[.slice none 0 0], N 11] ∧ ∃ ds, TapR h' t B ds true
  | some (ls, ds) => ∃ vr rows p, v' = .tuple #[.agg #[vr], N 0] ∧ RowsAt h' h.size p vr rows ∧ rows.map (·.2) = ls ∧ TapR h' t B ds false

theorem Tryd_ent23 : Ent Tryd.prog 23 := ent_of Tryd.func23 (by kernel_rfl) rfl
set_option maxHeartbeats 4000000 in
theorem uniformR_spec (t : Value) (B : Option Nat) (n : Nat) (vq : Value) (qs ds : List Nat) (o : Bool) (h : Hp) (s : TapR h t B ds o) (sq : SlF h U vq qs) (nq : vq.ownBlock = none ∨ vq.ownBlock ≠ pblk t) (hq : ∀ q ∈ qs, 0 < q ∧ q < 18446744073709551616) (hn : 1 ≤ n) (hn2 : n ≤ 4096) (hl : 1 ≤ qs.length) (hl2 : qs.length ≤ 24) :
    CallsH Tryd.prog 23 [t, N n, vq] h fun v' h' => Only (pblk t) h h' ∧ UniR h h' t B v' (if o then none else uniG n qs ds) := by
  obtain ⟨pk, hpk, hpl⟩ := s.pb
  have hBl := s.bl
  have hpk' : ∀ j, pblk t = some j → j < h.size := fun j hj => by rw [hpk] at hj; cases hj; exact hpl
  generalize hZ : (if o then none else uniG n qs ds) = Z
  (apply enter Tryd.func23 rfl Tryd.ntmps23 rfl)
  refine runJ ?_
  (apply s_alloc; exact rfl; exact rfl; exact rfl)
  intro p6 h3 x3 e3 b3
  (try dsimp only [Value.cells, List.toList_toArray] at x3)
  refine ⟨(by first | exact trivial | exact Ext.refl _ | assumption | exact Ext.trans (by assumption) (by assumption)), ?_⟩
  have w6 := x3
  have sq3 := sq.ext e3
  have s3 := s.ext e3
  have hb03 : h.size < h3.size := by obtain ⟨j, hj, hlj⟩ := w6.blk; rw [b3] at hj; cases hj; exact hlj
  refine runJ ?_
  (apply s_splitG; exact rfl; exact rfl; exact rfl; exact rfl) <;> intro g1
  · exact absurd g1 (by omega)
  refine runJ ?_
  (apply s_splitG; exact rfl; exact rfl; exact rfl; exact rfl) <;> intro g2
  · exact absurd g2 (by omega)
  refine runJ ?_
  (apply s_splitG; exact rfl; exact rfl; exact rfl; exact rfl) <;> intro g3
  · exact absurd g3 (by omega)
  refine runJ ?_
  (apply w_condF; exact rfl; exact rfl; exact (show ¬ 24 < qs.length by omega))
  refine runJ ?_
  (first | (apply w_seqB; exact rfl; apply w_block; exact rfl) | skip)
  apply (w_loop (σ := Nat) rfl (fun j => [(0, t), (1, N n), (2, vq), (6, p6), (34, vq), (35, N qs.length), (36, N j)])
    (fun j h' => h3 = h' ∧ j ≤ qs.length) (fun j => qs.length - j) 0)
  · exact (Sub.cons rfl (Sub.cons rfl (Sub.cons rfl (Sub.cons rfl (Sub.cons rfl (Sub.cons rfl (Sub.cons rfl (Sub.nil _))))))))
  · exact ⟨rfl, Nat.zero_le _⟩
  rintro j h' ⟨rfl, j1⟩
  refine runJ ?_
  (apply w_condD; exact rfl; exact rfl) <;> intro hj
  · obtain ⟨q, hqj⟩ := get_lt hj
    have hq0 := (hq q (List.mem_of_getElem? hqj)).1
    refine runJ ?_
    (apply w_condF; exact rfl; exact rfl; exact (show ¬ q = 0 by omega))
    refine runJ ?_
    apply again_normal (j + 1)
    · exact (Sub.cons rfl (Sub.cons rfl (Sub.cons rfl (Sub.cons rfl (Sub.cons rfl (Sub.cons rfl (Sub.cons rfl (Sub.nil _))))))))
    · exact ⟨rfl, hj⟩
    · omega
  clear j1 hj
  refine runJ ?_
  (apply s_alloc; exact rfl; exact rfl; exact rfl)
  intro p10 h4 x4 e4 b4
  (try dsimp only [Value.cells, List.toList_toArray] at x4)
  refine ⟨(by first | exact trivial | exact Ext.refl _ | assumption | exact Ext.trans (by assumption) (by assumption)), ?_⟩
  have hb34 : h3.size < h4.size := by obtain ⟨j, hj, hlj⟩ := x4.blk; rw [b4] at hj; cases hj; exact hlj
  have s4 := s3.ext e4
  refine runJ ?_
  (first | (apply w_seqB; exact rfl; apply w_block; exact rfl) | skip)
  apply (w_loop (σ := (Nat × Value) × List (Value × List Nat) × List Nat × Bool) rfl (fun j => [(0, t), (1, N n), (2, vq), (6, p6), (10, p10), (44, vq), (45, N qs.length), (46, N j.1.1)])
    (fun j h' => Only (pblk t) h3 h' ∧ h4.size ≤ h'.size ∧ j.1.1 ≤ qs.length ∧ Var h' p10 37 [j.1.2] ∧ RowsAt h' h3.size (some h3.size) j.1.2 j.2.1 ∧ j.2.1.length = j.1.1 ∧ TapR h' t B j.2.2.1 j.2.2.2 ∧ (j.2.2.2 = true → j.1.1 < qs.length) ∧
      Z = (if j.2.2.2 then none else preG (j.2.1.map (·.2)) (uniG n (qs.drop j.1.1) j.2.2.1))) (fun j => qs.length - j.1.1) ((0, .slice none 0 0), [], ds, o))
  · exact (Sub.cons rfl (Sub.cons rfl (Sub.cons rfl (Sub.cons rfl (Sub.cons rfl (Sub.cons rfl (Sub.cons rfl (Sub.cons rfl (Sub.nil _)))))))))
  · refine ⟨e4.only _, Nat.le_refl _, Nat.zero_le _, x4, RowsAt.nil _ _ _, rfl, s4, fun _ => hl, ?_⟩
    dsimp only
    rw [← hZ, List.drop_zero, List.map_nil, preG_nil]
  clear x4 s4 s3
  rintro ⟨⟨j, vR⟩, rows, ds', o'⟩ h7 ⟨d7, z7, j1, x7, R7, l7, t7, q7, Z7⟩
  dsimp only at d7 z7 j1 x7 R7 l7 t7 q7 Z7 ⊢
  have sq7 := sq3.only d7 nq
  have hpv : pblk p10 ≠ vR.ownBlock := by
    rw [b4]; intro e
    rcases R7.vp with h0 | h0
    · rw [h0] at e; cases e
    · exact h0 e.symm
  have hpt : pblk p10 ≠ pblk t := by rw [b4, hpk]; intro e; cases e; omega
  have hpt6 : pblk p6 ≠ pblk t := by rw [b3, hpk]; intro e; cases e; omega
  have w67 := w6.only d7 hpt6
  refine runJ ?_
  (apply w_condD; exact rfl; exact rfl) <;> intro hj
  · obtain ⟨q, hqj⟩ := get_lt hj
    obtain ⟨hq0, hq64⟩ := hq q (List.mem_of_getElem? hqj)
    have hdr : qs.drop j = q :: qs.drop (j + 1) := by
      rw [List.drop_eq_getElem_cons hj]
      rw [List.getElem?_eq_getElem hj] at hqj
      cases hqj; rfl
    rw [hdr] at Z7
    generalize hY : (if o' then none else rowG (firstB q) n ds') = Y
    refine runJ ?_
    (first | (apply w_seqB; exact rfl; apply w_block; exact rfl) | skip)
    apply (w_loop (σ := (Nat × Value) × List Nat × List Nat × Bool) rfl (fun m => [(0, t), (1, N n), (2, vq), (6, p6), (10, p10), (12, U q), (13, m.1.2), (14, N m.1.1), (44, vq), (45, N qs.length), (46, N j)])
      (fun m h' => Only (pblk t) h7 h' ∧ OwnF h' h7.size 22 U m.1.2 m.2.1 ∧ TapR h' t B m.2.2.1 m.2.2.2 ∧ m.2.1.length = m.1.1 ∧ m.1.1 ≤ n ∧ (m.2.2.2 = true → m.1.1 < n) ∧
        Y = (if m.2.2.2 then none else preG m.2.1 (rowG (firstB q) (n - m.1.1) m.2.2.1))) (fun m => n - m.1.1) ((0, .slice none 0 0), [], ds', o'))
    · exact (Sub.cons rfl (Sub.cons rfl (Sub.cons rfl (Sub.cons rfl (Sub.cons rfl (Sub.cons rfl (Sub.cons rfl (Sub.cons rfl (Sub.cons rfl (Sub.cons rfl (Sub.cons rfl (Sub.nil _))))))))))))
    · refine ⟨Only.refl _ _, OwnF.nil _ _ _ _, t7, rfl, Nat.zero_le _, fun _ => hn, ?_⟩
      dsimp only
      rw [← hY, Nat.sub_zero, preG_nil]
    rintro ⟨⟨m, vl⟩, ws, ds2, o2⟩ h9 ⟨d9, o9, t9, l9, m1, q9, Y9⟩
    dsimp only at d9 o9 t9 l9 m1 q9 Y9 ⊢
    have d39 := d7.trans d9
    have x9 := x7.only d9 hpt
    have w69 := w67.only d9 hpt6
    refine runJ ?_
    (apply w_condD; exact rfl; exact rfl) <;> intro hm
    · refine runJ ?_
      apply (s_call Tryd_ent40 rfl rfl rfl)
      refine (belowR_spec t B q ds2 o2 h9 t9 hq0 hq64).mono ?_
      rintro r h10 ⟨k10, G⟩
      refine ⟨(by first | exact trivial | exact trivial), ?_⟩
      have d10 := d9.trans k10
      have w610 := w69.only k10 hpt6
      obtain ⟨m', hm'⟩ : ∃ m', n - m = m' + 1 := ⟨n - m - 1, by omega⟩
      rw [hm'] at Y9
      by_cases hc : o2 = true ∨ firstB q ds2 = none
      · have hfail : r = .tuple #[U 0, N 11] ∧ (∃ ds, TapR h10 t B ds true) ∧ Y = none := by
          rcases hc with rfl | hf
          · exact ⟨G.1, G.2, Y9⟩
          · cases o2 with
            | true => exact ⟨G.1, G.2, Y9⟩
            | false =>
              rw [if_neg (by simp), hf] at G
              rw [if_neg (by simp)] at Y9
              exact ⟨G.1, G.2, rowG_fail Y9 hf⟩
        obtain ⟨rfl, ⟨dsX, hT⟩, hYn⟩ := hfail
        have hZn : Z = none := by
          cases o' with
          | true => exact Z7
          | false =>
            rw [if_neg (by simp)] at Z7
            rw [if_neg (by simp)] at hY
            exact uniG_fail Z7 (hY.trans hYn)
        subst hZn
        refine runJ ?_
        (apply (s_build ([.slice none 0 0])); exact rfl; exact rfl; exact rfl; (repeat (first | exact CellsAll.nil | (apply CellsAll.cons; (first | exact oneL (by assumption) | exact oneL (SlF.one (by assumption)) | exact oneL (SlF.one (OwnF.sl (by assumption))) | exact oneL (Var.one (by assumption)) | exact rfl)))); exact rfl; exact rfl)
        refine runJ ?_
        (apply s_storeV; exact rfl; exact rfl; exact rfl; (repeat (first | exact OneAll.nil | (apply OneAll.cons; (first | exact rfl | exact SlF.one (by assumption) | exact SlF.one (OwnF.sl (by assumption)) | exact Var.one (by assumption))))); exact rfl; exact rfl; exact w610; exact rfl)
        intro h11 x11 k11
        (try dsimp only [Value.cells, List.toList_toArray] at x11)
        refine ⟨(by first | exact trivial | exact Ext.refl _ | assumption | exact Ext.only (by assumption) _ | exact Only.trans (Ext.only (by assumption) _) (by assumption)), ?_⟩
        have x11 : Var h11 p6 37 [.slice none 0 0] := x11
        have dd := only_own ((e3.only _).trans (d7.trans d10)) k11 fun j hj => by rw [b3] at hj; cases hj; exact Nat.le_refl _
        have hT2 := hT.own k11 (M := h.size) hpk' hBl (fun j hj => by rw [b3] at hj; cases hj; exact Nat.le_refl _)
        refine runJ ?_
        exact finCT rfl rfl rfl x11 rfl rfl ⟨dd, rfl, dsX, hT2⟩
      · obtain ⟨ho, hf⟩ : o2 = false ∧ ∃ r1 ds1, firstB q ds2 = some (r1, ds1) := by
          refine ⟨by cases o2 <;> simp_all, ?_⟩
          cases hf : firstB q ds2 with
          | none => exact absurd (.inr hf) hc
          | some q => exact ⟨q.1, q.2, rfl⟩
        subst ho
        obtain ⟨r1, ds1, hf⟩ := hf
        rw [if_neg (by simp)] at Y9 G
        rw [hf] at G
        obtain ⟨rfl, T⟩ := G
        have hne : vl.ownBlock = none ∨ vl.ownBlock ≠ pblk t := o9.neV hpk (Nat.lt_of_lt_of_le (Nat.lt_trans hpl hb03) d7.1)
        have o10 := o9.only k10 hne
        obtain ⟨hsz, ex10⟩ := cutH_ext d10.1
        rw [← hsz] at o10
        refine runJ ?_
        (refine s_app1 (bytes := 8) (r1) o10 ex10 rfl rfl rfl rfl rfl rfl rfl rfl rfl (by first | exact rfl | exact congrArg some (congrArg I (by omega))) (fun _ => rfl) rfl rfl (fun _ _ => trivial) (by omega) (by simp only [maxLen]; omega) ?_)
        intro v11 h11 o11 e11 k11 b11
        rw [hsz] at o10 o11
        have hge : ∀ j, vl.ownBlock = some j → h7.size ≤ j := fun j hj => (o10.blk j hj).1
        have hT := T.own k11 (M := h.size) hpk' hBl (fun j hj => by have h1 := hge j hj; have h2 := d7.1; omega)
        have d11 := only_own d10 k11 hge
        refine runJ ?_
        apply again_normal ((m + 1, v11), ws ++ [r1], ds1, false)
        · exact (Sub.cons rfl (Sub.cons rfl (Sub.cons rfl (Sub.cons rfl (Sub.cons rfl (Sub.cons rfl (Sub.cons rfl (Sub.cons rfl (Sub.cons rfl (Sub.cons rfl (Sub.cons rfl (Sub.nil _))))))))))))
        · refine ⟨d11, o11, hT, by simp [l9], hm, (fun h => by cases h), ?_⟩
          dsimp only
          rw [if_neg (by simp), show n - (m + 1) = m' by omega]
          exact rowG_step Y9 hf
        · dsimp only; omega
    · obtain rfl : m = n := by omega
      obtain rfl : o2 = false := by
        cases o2 with
        | false => rfl
        | true => exact absurd (q9 rfl) (by omega)
      rw [if_neg (by simp), Nat.sub_self] at Y9
      have hYs := rowG_zero Y9
      obtain rfl : o' = false := by
        cases o' with
        | false => rfl
        | true => rw [← hY, if_pos rfl] at hYs; cases hYs
      rw [if_neg (by simp)] at hY Z7
      have Z8 := uniG_step Z7 (hY.trans hYs)
      have R9 := R7.low (by rw [← hpk]; exact d9) (Nat.lt_trans hpl hb03)
      have o9one := o9.sl.one
      have hlen : rows.length + 1 < 1000000 := by omega
      obtain ⟨hsz, ex9⟩ := cutH_ext d39.1
      have Rown := R9.own
      rw [← hsz] at Rown
      refine runJ ?_
      (refine s_app1V (bytes := 24) ((vl, ws)) Rown ex9 rfl rfl rfl rfl rfl rfl rfl rfl rfl (by first | exact rfl | exact congrArg some (congrArg I (by omega))) o9one rfl rfl (fun _ _ => trivial) (by omega) (by simp only [maxLen]; omega) ?_)
      intro v10 h10 o10 e10 k10 b10
      rw [hsz] at o10
      have x10 := x9.only k10 hpv
      refine runJ ?_
      (apply s_storeC; exact rfl; exact rfl; (first | exact rfl | exact SlF.one (by assumption) | exact SlF.one (OwnF.sl (by assumption)) | exact Var.one (by assumption)); exact rfl; exact rfl; exact x10; exact rfl)
      intro h11 x11 k11
      refine ⟨(by first | exact trivial | exact Ext.refl _ | assumption | exact Ext.only (by assumption) _ | exact Only.trans (Ext.only (by assumption) _) (by assumption)), ?_⟩
      rw [b4] at k11
      have hz34 := e4.1
      have R11 := R9.push (z := h7.size) (o9.base (Nat.le_trans hz34 z7)) (fun k hk => (o9.blk k hk).1) (fun k hk => (R7.own.blk k hk).2) (Nat.lt_of_lt_of_le hb34 z7) d9.1 o10 k10 b10 k11
      have hge : ∀ j, vR.ownBlock = some j → h3.size ≤ j := fun j hj => (R9.own.blk j hj).1
      have d10 := only_own d39 k10 hge
      have d11 := only_own d10 k11 fun j hj => by cases hj; exact Nat.le_refl _
      have T10 := t9.own k10 (M := h.size) hpk' hBl (fun j hj => by have := hge j hj; omega)
      have T11 := T10.own k11 (M := h.size) hpk' hBl (fun j hj => by cases hj; omega)
      refine runJ ?_
      apply again_normal ((j + 1, v10), rows ++ [(vl, ws)], ds2, false)
      · exact (Sub.cons rfl (Sub.cons rfl (Sub.cons rfl (Sub.cons rfl (Sub.cons rfl (Sub.cons rfl (Sub.cons rfl (Sub.cons rfl (Sub.nil _)))))))))
      · refine ⟨d11, Nat.le_trans z7 (Nat.le_trans d9.1 (Nat.le_trans k10.1 k11.1)), hj, x11, R11, by dsimp only; rw [List.length_append]; simp [l7], T11, (fun h => by cases h), ?_⟩
        dsimp only
        rw [if_neg (by simp), List.map_append]
        exact Z8
      · dsimp only; omega
  · obtain rfl : j = qs.length := by omega
    obtain rfl : o' = false := by
      cases o' with
      | false => rfl
      | true => exact absurd (q7 rfl) (by omega)
    rw [if_neg (by simp), List.drop_length] at Z7
    rw [uniG_zero Z7]
    refine runJ ?_
    (apply s_storeV; exact rfl; exact rfl; exact rfl; exact (OneAll.cons R7.own.sl.one OneAll.nil : OneAll [vR]); exact rfl; exact rfl; exact w67; exact rfl)
    intro h8 x8 k8
    refine ⟨trivial, ?_⟩
    have x8 : Var h8 p6 37 [vR] := x8
    rw [b3] at k8
    have dd := only_own ((e3.only _).trans d7) k8 fun j hj => by cases hj; exact Nat.le_refl _
    have T8 := t7.own k8 (M := h.size) hpk' hBl (fun j hj => by cases hj; exact Nat.le_refl _)
    refine runJ ?_
    exact finCT rfl rfl rfl x8 rfl rfl ⟨dd, vR, rows, _, rfl, (R7.low k8 hb03).base (Nat.le_of_lt hb03), rfl, T8⟩
end Go.Proofs.YtfcmdefigldpnaaDoor

/- Walking rules: remainders of any kind of number. No condition. -/
namespace Go.Den
set_option linter.unusedVariables false
set_option maxRecDepth 8000
open Go Go.RowKit

section rules
variable {P : Program} {n : Nat} {Q : Post} {l : Fr} {h : Hp} {ops : List Oper} {Ch : Hp → Prop} {E : Nat → Bool} {i d : Nat} {x y : Operand}
theorem s_remU8 {a b : Nat} {t yt : TypeId} (hx : IsK (ev l x) .u8 a) (hy : IsK (ev l y) .u8 b) (hb : Nat.blt d n = true) (hn : 0 < b)
    (q : S P n ops Ch E Q (i + 1) ((d, .int .u8 ((a % b : Nat) : Int)) :: l) h) : O P n ops Ch E Q i d (.binOp .rem t x y yt) l h :=
  s_bin hx.h hy.h hb (fun w' => by
    show (Op.intDiv .rem .u8 (a : Int) (b : Int)).run P w' = _
    unfold Op.intDiv
    rw [if_neg (by omega)]
    show Result.ok (Value.int .u8 ((a : Int).tmod b)) w' = _
    rw [← Int.ofNat_tmod]) q
end rules
end Go.Den

/- The reference's test of primes, told by a function. No condition. -/
namespace Go.Proofs.YtfcmdefigldpnaaDoor
set_option linter.unusedVariables false
set_option maxRecDepth 8000
open Go Go.Den Go.RowKit Go.Mth

/-- The odd part, and how often 2 goes into a number. -/
def spl : Nat → Nat → Nat → Nat × Nat
  | 0, d, s => (d, s)
  | k + 1, d, s => if d % 2 = 0 then spl k (d / 2) (s + 1) else (d, s)
theorem spl_odd {d : Nat} (h : ¬ d % 2 = 0) : ∀ (k s : Nat), spl k d s = (d, s)
  | 0, _ => rfl
  | k + 1, s => by unfold spl; rw [if_neg h]
def strongR (n a : Nat) : Bool := powm a (spl 64 (n - 1) 0).1 n == 1 || (powm a (spl 64 (n - 1) 0).1 n == n - 1 || holdsLoop n ((spl 64 (n - 1) 0).2 - 1) (powm a (spl 64 (n - 1) 0).1 n))
def trialR : Nat → Nat → Nat → Bool
  | 0, _, _ => true
  | k + 1, d, n => if d * d ≤ n then (if n % d = 0 then false else trialR k (d + 1) n) else true
def basesR : List Nat := [2, 3, 5, 7, 11, 13, 17, 19, 23, 29, 31, 37]
def isR (n : Nat) : Bool := if n < 2 then false else if n < 65536 then trialR 300 2 n else basesR.all fun a => !(n % a == 0) && strongR n a
theorem pow_lt61 {d s n : Nat} (h : d * 2 ^ s = n - 1) (hn : n < 2305843009213693952) (hn2 : 2 ≤ n) : s < 61 := by
  refine Classical.byContradiction fun hc => ?_
  have h1 : 2 ^ 61 ≤ 2 ^ s := Nat.pow_le_pow_right (by decide) (by omega)
  have h2 : 0 < d := Nat.pos_of_ne_zero fun e => by subst e; omega
  have h3 : 2 ^ s ≤ d * 2 ^ s := Nat.le_mul_of_pos_left _ h2
  have h4 : (2 : Nat) ^ 61 = 2305843009213693952 := by decide
  omega

theorem Tryd_ent86 : Ent Tryd.prog 86 := ent_of Tryd.func86 (by kernel_rfl) rfl
theorem strongR_spec (n a : Nat) (h : Hp) (hn : 2 ≤ n) (hn2 : n < 2305843009213693952) (ha : a < 18446744073709551616) :
    CallsH Tryd.prog 86 [U n, U a] h fun v' h' => v' = .bool (strongR n a) ∧ h = h' := by
  (apply enter Tryd.func86 rfl Tryd.ntmps86 rfl)
  refine runJ ?_
  (first | (apply w_seqB; exact rfl; apply w_block; exact rfl) | skip)
  apply (w_loop (σ := Nat × Nat) rfl (fun j => [(0, U n), (1, U a), (5, U j.1), (6, N j.2)])
    (fun j h' => h = h' ∧ 1 ≤ j.1 ∧ j.1 + j.2 < n ∧ j.1 * 2 ^ j.2 = n - 1 ∧ spl 64 (n - 1) 0 = spl (64 - j.2) j.1 j.2) (fun j => j.1) (n - 1, 0))
  · exact (Sub.cons rfl (Sub.cons rfl (Sub.cons rfl (Sub.cons rfl (Sub.nil _)))))
  · exact ⟨rfl, by dsimp only; omega, by dsimp only; omega, by dsimp only; rw [Nat.pow_zero, Nat.mul_one], rfl⟩
  rintro ⟨d, s⟩ h' ⟨rfl, j1, j2, j3, j4⟩
  dsimp only at j1 j2 j3 j4 ⊢
  refine runJ ?_
  (apply w_condD; exact rfl; exact rfl) <;> intro hd
  · refine runJ ?_
    apply again_normal (d / 2, s + 1)
    · exact (Sub.cons rfl (Sub.cons rfl (Sub.cons rfl (Sub.cons rfl (Sub.nil _)))))
    · have hs := pow_lt61 j3 hn2 hn
      refine ⟨rfl, by dsimp only; omega, by dsimp only; omega, ?_, ?_⟩
      · dsimp only
        rw [← j3, Nat.pow_succ, Nat.mul_comm (2 ^ s) 2, ← Nat.mul_assoc, Nat.div_mul_cancel (Nat.dvd_of_mod_eq_zero hd)]
      · dsimp only
        rw [j4, show 64 - s = (64 - (s + 1)) + 1 by omega]
        conv => lhs; unfold spl
        rw [if_pos hd]
    · dsimp only; omega
  have hsp : spl 64 (n - 1) 0 = (d, s) := j4.trans (spl_odd hd _ _)
  have hR : strongR n a = (powm a d n == 1 || (powm a d n == n - 1 || holdsLoop n (s - 1) (powm a d n))) := by unfold strongR; rw [hsp]
  rw [hR]
  refine runJ ?_
  apply (s_call Tryd_ent100 rfl rfl rfl)
  refine (refPow_spec a d n h ha (by omega) (by omega)).mono ?_
  rintro _ _ ⟨rfl, rfl⟩
  refine ⟨(by first | exact trivial | exact Ext.refl _ | assumption | exact Ext.trans (by assumption) (by assumption)), ?_⟩
  have hx : powm a d n < n := by unfold powm; rw [if_neg (by omega)]; exact Nat.mod_lt _ (by omega)
  generalize powm a d n = x at *
  refine runJ ?_
  (apply s_splitG; exact rfl; exact rfl; exact rfl; exact rfl) <;> intro g1
  · refine runJ ?_
    exact fin1 rfl rfl ⟨by simp [g1], rfl⟩
  refine runJ ?_
  (apply w_condD; exact rfl; exact rfl) <;> intro g2
  · refine runJ ?_
    exact fin1 rfl rfl ⟨by simp [g2], rfl⟩
  refine runJ ?_
  (first | (apply w_seqB; exact rfl; apply w_block; exact rfl) | skip)
  apply (w_loop (σ := Nat × Nat) rfl (fun j => [(0, U n), (6, N s), (7, U j.1), (8, N j.2)])
    (fun j h' => h = h' ∧ j.1 < n ∧ 1 ≤ j.2 ∧ holdsLoop n (s - 1) x = holdsLoop n (s - j.2) j.1) (fun j => s - j.2) (x, 1))
  · exact (Sub.cons rfl (Sub.cons rfl (Sub.cons rfl (Sub.cons rfl (Sub.nil _)))))
  · exact ⟨rfl, hx, Nat.le_refl _, rfl⟩
  rintro ⟨y, i⟩ h' ⟨rfl, k1, k2, k3⟩
  dsimp only at k1 k2 k3 ⊢
  have hx1 : (x == 1) = false := by simp [g1]
  have hx2 : (x == n - 1) = false := by simp [g2]
  refine runJ ?_
  (apply w_condD; exact rfl; exact rfl) <;> intro hi
  · have hstep : holdsLoop n (s - i) y = (mulm y y n == n - 1 || holdsLoop n (s - (i + 1)) (mulm y y n)) := by
      rw [show s - i = (s - (i + 1)) + 1 by omega]; rfl
    refine runJ ?_
    apply (s_call Tryd_ent18 rfl rfl rfl)
    refine (refMul_spec y y n h (by omega) (by omega) (by omega)).mono ?_
    rintro _ _ ⟨rfl, rfl⟩
    refine ⟨(by first | exact trivial | exact Ext.refl _ | assumption | exact Ext.trans (by assumption) (by assumption)), ?_⟩
    have hm : mulm y y n < n := mulm_lt (by omega)
    generalize mulm y y n = z at *
    refine runJ ?_
    (apply w_condD; exact rfl; exact rfl) <;> intro hy
    · refine runJ ?_
      exact fin1 rfl rfl ⟨by rw [hx1, hx2, k3, hstep]; simp [hy], rfl⟩
    · refine runJ ?_
      apply again_normal (z, i + 1)
      · exact (Sub.cons rfl (Sub.cons rfl (Sub.cons rfl (Sub.cons rfl (Sub.nil _)))))
      · refine ⟨rfl, hm, by dsimp only; omega, ?_⟩
        dsimp only
        rw [k3, hstep]
        simp [hy]
      · dsimp only; omega
  · refine runJ ?_
    have h0 : holdsLoop n (s - i) y = false := by rw [show s - i = 0 by omega]; rfl
    exact fin1 rfl rfl ⟨by rw [hx1, hx2, k3, h0]; rfl, rfl⟩

theorem Tryd_ent63 : Ent Tryd.prog 63 := ent_of Tryd.func63 (by kernel_rfl) rfl
theorem refIs_spec (n : Nat) (h : Hp) (hn2 : n < 2305843009213693952) :
    CallsH Tryd.prog 63 [U n] h fun v' h' => v' = .bool (isR n) ∧ Ext h h' := by
  (apply enter Tryd.func63 rfl Tryd.ntmps63 rfl)
  refine runJ ?_
  (apply w_condD; exact rfl; exact rfl) <;> intro g1
  · refine runJ ?_
    exact fin1 rfl rfl ⟨by unfold isR; rw [if_pos g1], Ext.refl _⟩
  refine runJ ?_
  (apply w_condD; exact rfl; exact rfl) <;> intro g2
  · have hR : isR n = trialR 300 2 n := by unfold isR; rw [if_neg g1, if_pos g2]
    rw [hR]
    refine runJ ?_
    (first | (apply w_seqB; exact rfl; apply w_block; exact rfl) | skip)
    apply (w_loop (σ := Nat) rfl (fun d => [(0, U n), (3, U d)])
      (fun d h' => h = h' ∧ 2 ≤ d ∧ d ≤ 300 ∧ trialR 300 2 n = trialR (302 - d) d n) (fun d => 302 - d) 2)
    · exact (Sub.cons rfl (Sub.cons rfl (Sub.nil _)))
    · exact ⟨rfl, by omega, by omega, rfl⟩
    rintro d h' ⟨rfl, d1, d2, d3⟩
    have hdd : d * d ≤ 300 * 300 := Nat.mul_le_mul d2 d2
    have hdl : d ≤ d * d := Nat.le_mul_self d
    have hst : trialR (302 - d) d n = if d * d ≤ n then (if n % d = 0 then false else trialR (302 - (d + 1)) (d + 1) n) else true := by
      rw [show 302 - d = (302 - (d + 1)) + 1 by omega]; rfl
    rw [d3, hst]
    refine runJ ?_
    (apply w_condD; exact rfl; exact rfl) <;> intro hd
    · rw [if_pos hd]
      have hd256 : d < 256 := by
        refine Classical.byContradiction fun hc => ?_
        have : 256 * 256 ≤ d * d := Nat.mul_le_mul (by omega) (by omega)
        omega
      refine runJ ?_
      (apply w_condD; exact rfl; exact rfl) <;> intro hm
      · rw [if_pos hm]
        refine runJ ?_
        exact fin1 rfl rfl ⟨rfl, Ext.refl _⟩
      · rw [if_neg hm]
        refine runJ ?_
        apply again_normal (d + 1)
        · exact (Sub.cons rfl (Sub.cons rfl (Sub.nil _)))
        · exact ⟨rfl, by omega, by omega, rfl⟩
        · omega
    · rw [if_neg hd]
      refine runJ ?_
      exact fin1 rfl rfl ⟨rfl, Ext.refl _⟩
  have hR : isR n = basesR.all fun a => !(n % a == 0) && strongR n a := by unfold isR; rw [if_neg g1, if_neg g2]
  rw [hR]
  refine runJ ?_
  (apply (s_litF (f := U) [2, 3, 5, 7, 11, 13, 17, 19, 23, 29, 31, 37] (fun _ => rfl)); exact rfl; exact rfl; exact rfl; exact rfl; exact rfl; exact rfl; exact rfl; exact rfl; omega)
  intro w h1 o1 e1 b1
  refine ⟨(by first | exact trivial | exact Ext.refl _ | assumption | exact Ext.trans (by assumption) (by assumption)), ?_⟩
  have s1 := o1.sl
  refine runJ ?_
  (first | (apply w_seqB; exact rfl; apply w_block; exact rfl) | skip)
  apply (w_loop (σ := Nat) rfl (fun j => [(0, U n), (21, w), (22, N 12), (23, N j)])
    (fun j h' => h1 = h' ∧ j ≤ 12 ∧ ∀ i a, i < j → basesR[i]? = some a → ((!(n % a == 0)) && strongR n a) = true) (fun j => 12 - j) 0)
  · exact (Sub.cons rfl (Sub.cons rfl (Sub.cons rfl (Sub.cons rfl (Sub.nil _)))))
  · exact ⟨rfl, by omega, by intro i a hi; omega⟩
  rintro j h' ⟨rfl, j1, j2⟩
  refine runJ ?_
  (apply w_condD; exact rfl; exact rfl) <;> intro hj
  · obtain ⟨a, ha⟩ := get_lt (l := [2, 3, 5, 7, 11, 13, 17, 19, 23, 29, 31, 37]) (j := j) hj
    have ham : a ∈ basesR := List.mem_of_getElem? ha
    have hal : 0 < a ∧ a < 100 := by
      have hall : ∀ x ∈ basesR, 0 < x ∧ x < 100 := by decide
      exact hall a ham
    refine runJ ?_
    (apply s_splitG; exact rfl; exact rfl; exact rfl; exact rfl) <;> intro g3
    · refine runJ ?_
      refine fin1 rfl rfl ⟨?_, e1⟩
      congr 1
      symm
      rw [List.all_eq_false]
      exact ⟨a, ham, by simp [g3]⟩
    refine runJ ?_
    apply (s_call Tryd_ent86 rfl rfl rfl)
    refine (strongR_spec n a h1 (by omega) hn2 (by omega)).mono ?_
    rintro _ _ ⟨rfl, rfl⟩
    refine ⟨(by first | exact trivial | exact trivial), ?_⟩
    refine runJ ?_
    (apply w_cond; exact rfl; exact rfl) <;> intro hb
    · refine runJ ?_
      refine fin1 rfl rfl ⟨?_, e1⟩
      congr 1
      symm
      rw [List.all_eq_false]
      refine ⟨a, ham, ?_⟩
      have hb : strongR n a = false := by simpa using hb
      simp [hb]
    · refine runJ ?_
      apply again_normal (j + 1)
      · exact (Sub.cons rfl (Sub.cons rfl (Sub.cons rfl (Sub.cons rfl (Sub.nil _)))))
      · refine ⟨rfl, hj, fun i a' hi ha' => ?_⟩
        rcases Nat.lt_succ_iff_lt_or_eq.1 hi with hi | rfl
        · exact j2 i a' hi ha'
        · have : a' = a := by
            have := ha'.symm.trans ha
            exact Option.some.inj this
          subst this
          have hb : strongR n a' = true := by simpa using hb
          rw [hb]; simp [g3]
      · omega
  · refine runJ ?_
    refine fin1 rfl rfl ⟨?_, e1⟩
    congr 1
    symm
    rw [List.all_eq_true]
    intro a ha
    obtain ⟨i, hi⟩ := List.getElem?_of_mem ha
    have hil : i < 12 := (List.getElem?_eq_some_iff.1 hi).1
    exact j2 i a (by omega) hi
end Go.Proofs.YtfcmdefigldpnaaDoor
