/- The tape: what it holds, and how a draw is taken. No condition. -/
import Derived.Test.YtlaijoebocfelaaBitD
import Derived.Test.YtlaijoebocfelaaDig
import Derived.Test.YtlaijoebocfelaaDenH
namespace Go.Proofs.Ytlaijoebocfelaa
set_option linter.unusedVariables false
open Go Go.Den Go.RowKit Go.Dig

theorem U_one (a : Nat) : (U a).oneCell' = true := rfl
theorem N_one (a : Nat) : (N a).oneCell' = true := rfl

/-- Where a tape's row lies. -/
structure Blk (h : Hp) (t v : Value) (B : Option Nat) : Prop where mk ::
  own : v.ownBlock = none ∨ v.ownBlock = B
  neq : B ≠ pblk t
  lt : ∀ b, B = some b → b < h.size
theorem Blk.ne {h : Hp} {t v : Value} {B : Option Nat} (s : Blk h t v B) : v.ownBlock = none ∨ v.ownBlock ≠ pblk t := by
  rcases s.own with e | e
  · exact .inl e
  · exact .inr (by rw [e]; exact s.neq)
theorem Blk.mono {h h' : Hp} {t v : Value} {B : Option Nat} (s : Blk h t v B) (e : h.size ≤ h'.size) : Blk h' t v B := ⟨s.own, s.neq, fun b hb => Nat.lt_of_lt_of_le (s.lt b hb) e⟩
theorem Blk.cut {h : Hp} {t v : Value} {B : Option Nat} {s lo hi : Nat} (k : Blk h t v B) : Blk h t (cutV s v lo hi) B := ⟨by
  cases v with
  | slice a n c =>
    cases a with
    | none => left; simp only [cutV, Option.map_none]; split <;> rfl
    | some a =>
      have e : (cutV s (.slice (some a) n c) lo hi).ownBlock = (Value.slice (some a) n c).ownBlock := by
        simp only [cutV, Option.map_some]
        split
        · rfl
        · simp only [Value.ownBlock, Addr.add]
          try (split <;> rfl)
      rw [e]; exact k.own
  | _ => exact k.own, k.neq, k.lt⟩
/-- t points to a tape with these draws left; o: was one missing? Its row lies in the block B. -/
def TapeAt (h : Hp) (t : Value) (B : Option Nat) (ds : List Nat) (o : Bool) : Prop := ∃ v, Var h t 49 [v, .bool o] ∧ SlF h U v ds ∧ Blk h t v B ∧ Al 18446744073709551616 ds ∧ ds.length < 4611686018427387904

/-- Behind a draw. -/
def Drawn (h : Hp) (t v' : Value) (B : Option Nat) (o : Bool) : List Nat → Prop
  | [] => v' = .tuple #[U 0, .bool false] ∧ TapeAt h t B [] true
  | d :: ds => v' = .tuple #[U d, .bool true] ∧ TapeAt h t B ds o

theorem Try_ent18 : Ent Try.prog 18 := ent_of Try.func18 (by kernel_rfl) rfl
theorem draw_spec (t : Value) (B : Option Nat) (ds : List Nat) (o : Bool) (h : Hp) (s : TapeAt h t B ds o) :
    CallsH Try.prog 18 [t] h fun v' h' => Only (pblk t) h h' ∧ Drawn h' t v' B o ds := by
  obtain ⟨v, s1, s2, s3, s4, s5⟩ := s
  (apply enter Try.func18 rfl Try.ntmps18 rfl)
  refine runH ?_
  (apply w_condD; exact rfl; exact rfl) <;> intro hn
  · have hd : ds = [] := List.eq_nil_of_length_eq_zero hn
    subst hd
    refine runH ?_
    (apply s_storeC; exact rfl; exact rfl; (first | exact rfl | exact SlF.one (by assumption) | exact SlF.one (OwnF.sl (by assumption)) | exact Var.one (by assumption)); exact rfl; exact rfl; exact s1; exact rfl)
    intro h2 t2 k2
    refine ⟨(by first | exact trivial | exact Ext.refl _ | assumption | exact Ext.only (by assumption) _ | exact Only.trans (Ext.only (by assumption) _) (by assumption)), ?_⟩
    refine runH ?_
    refine fin2 rfl rfl rfl ⟨k2, rfl, v, t2, s2.only k2 s3.ne, s3.mono k2.1, s4, s5⟩
  · obtain ⟨d, ds', rfl⟩ : ∃ d ds', ds = d :: ds' := by
      cases ds with
      | nil => exact absurd rfl hn
      | cons d ds' => exact ⟨d, ds', rfl⟩
    have hl : 0 < (d :: ds').length := by simp
    have hl1 : 1 ≤ (d :: ds').length := hl
    have c1 : SlF h U (cutV 1 v 1 (d :: ds').length) ds' := by simpa using s2.cut (lo := 1) (hi := (d :: ds').length) hl1 (Nat.le_refl _)
    refine runH ?_
    (apply s_storeC; exact rfl; exact rfl; (first | exact rfl | exact SlF.one (by assumption) | exact SlF.one (OwnF.sl (by assumption)) | exact Var.one (by assumption)); exact rfl; exact rfl; exact s1; exact rfl)
    intro h2 t2 k2
    refine ⟨(by first | exact trivial | exact Ext.refl _ | assumption | exact Ext.only (by assumption) _ | exact Only.trans (Ext.only (by assumption) _) (by assumption)), ?_⟩
    refine runH ?_
    refine fin2 rfl rfl rfl ⟨k2, rfl, _, t2, c1.only k2 s3.cut.ne, s3.cut.mono k2.1, fun x hx => s4 x (by simp [hx]), by simp only [List.length_cons] at s5; omega⟩

theorem Try_ent16 : Ent Try.prog 16 := ent_of Try.func16 (by kernel_rfl) rfl
theorem clone_spec (v : Value) (xs : List Nat) (h : Hp) (s : SlF h U v xs) (hl : xs.length < 1000000) :
    CallsH Try.prog 16 [v] h fun v' h' => Ext h h' ∧ OwnF h' h.size 23 U v' xs := by
  (apply enter Try.func16 rfl Try.ntmps16 rfl)
  refine runH ?_
  (apply w_cond; exact rfl; exact rfl) <;> intro hn
  · obtain ⟨rfl, rfl⟩ := s.nilE hn
    refine runH ?_
    exact fin1 rfl rfl ⟨Ext.refl _, OwnF.nil _ _ _ _⟩
  · refine runH ?_
    (apply (s_litF (f := U) [] (fun _ => rfl)); exact rfl; exact rfl; exact rfl; exact rfl; exact rfl; exact rfl; exact rfl; exact rfl; omega)
    intro w h1 o1 e1 b1
    refine ⟨(by first | exact trivial | exact Ext.refl _ | assumption | exact Ext.trans (by assumption) (by assumption)), ?_⟩
    have s1 := s.ext e1
    refine runH ?_
    (apply (s_appendF (bytes := 8)); exact rfl; exact rfl; exact rfl; exact rfl; exact rfl; exact rfl; exact rfl; exact o1; exact s1; exact fun _ => rfl; (first | exact Nat.le_refl _ | exact ext_size (by assumption) | omega); (simp only [maxLen, List.length_nil, List.length_append]; omega); (simp only [List.length_nil, List.length_append]; omega))
    intro w2 h2 o2 k2 b2
    refine ⟨(by first | exact trivial | exact Ext.refl _ | assumption | exact Ext.trans (by assumption) (by assumption)), ?_⟩
    refine runH ?_
    exact fin1 rfl rfl ⟨k2.old e1 fun j hj => by rw [b1] at hj; cases hj; exact Nat.le_refl _, o2⟩

theorem Try_ent7 : Ent Try.prog 7 := ent_of Try.func7 (by kernel_rfl) rfl
theorem new_spec (v : Value) (ds : List Nat) (h : Hp) (s : SlF h U v ds) (hal : Al 18446744073709551616 ds) (hl : ds.length < 1000000) :
    CallsH Try.prog 7 [v] h fun v' h' => Ext h h' ∧ ∃ k B, pblk v' = some k ∧ h.size ≤ k ∧ TapeAt h' v' B ds false := by
  (apply enter Try.func7 rfl Try.ntmps7 rfl)
  refine runH ?_
  apply (s_call Try_ent16 rfl rfl rfl)
  refine (clone_spec v ds h s hl).mono ?_
  rintro w h1 ⟨e1, o1⟩
  refine ⟨(by first | exact trivial | exact e1), ?_⟩
  have s1 := o1.sl
  refine runH ?_
  (apply (s_build ([w, .bool false])); exact rfl; exact rfl; exact rfl; (repeat (first | exact CellsAll.nil | (apply CellsAll.cons; (first | exact oneL (SlF.one (by assumption)) | exact oneL (SlF.one (OwnF.sl (by assumption))) | exact oneL (Var.one (by assumption)) | exact rfl)))); exact rfl; exact rfl)
  refine runH ?_
  (apply s_box; exact rfl; exact rfl; exact rfl; exact rfl)
  intro p h2 p2 f2 c2
  (try dsimp only [Value.cells, List.toList_toArray] at p2)
  refine ⟨(by first | exact trivial | exact Ext.refl _ | assumption | exact Ext.trans (by assumption) (by assumption)), ?_⟩
  refine runH ?_
  refine fin1 rfl rfl ⟨e1.trans f2, _, w.ownBlock, c2, e1.1, w, p2, s1.ext f2, ⟨.inr rfl, ?_, ?_⟩, hal, by omega⟩
  · rw [c2]
    intro e
    have := (OwnF.blk o1 _ e).2; omega
  · intro b hb
    exact Nat.lt_of_lt_of_le (OwnF.blk o1 _ hb).2 f2.1

theorem Try_ent11 : Ent Try.prog 11 := ent_of Try.func11 (by kernel_rfl) rfl
theorem left_spec (t : Value) (B : Option Nat) (ds : List Nat) (o : Bool) (h : Hp) (s : TapeAt h t B ds o) :
    CallsH Try.prog 11 [t] h fun v' h' => v' = N ds.length ∧ h = h' := by
  obtain ⟨v, s1, s2, s3, s4, s5⟩ := s
  (apply enter Try.func11 rfl Try.ntmps11 rfl)
  refine runH ?_
  exact fin1 rfl rfl ⟨rfl, rfl⟩

theorem Try_ent8 : Ent Try.prog 8 := ent_of Try.func8 (by kernel_rfl) rfl
theorem below_spec (t : Value) (B : Option Nat) (q : Nat) (ds : List Nat) (o : Bool) (h : Hp) (s : TapeAt h t B ds o) (hq : 0 < q) (hq2 : q < 18446744073709551616) :
    CallsH Try.prog 8 [t, U q] h fun v' h' => Only (pblk t) h h' ∧
      ((v' = .tuple #[U 0, N 11] ∧ (∃ ds', TapeAt h' t B ds' true) ∧ (o = false → TapeAt h' t B [] true)) ∨ (∃ r ds', v' = .tuple #[U r, N 0] ∧ r < q ∧ TapeAt h' t B ds' false ∧ ds' <:+ ds)) := by
  have s0 := s
  obtain ⟨v, s1, s2, s3, s4, s5⟩ := s
  (apply enter Try.func8 rfl Try.ntmps8 rfl)
  refine runH ?_
  (apply w_condF; exact rfl; exact rfl; exact (by omega))
  refine runH ?_
  have h1q : Nat.mod 1 q < q := Nat.mod_lt _ hq
  apply (s_call Try_ent17 rfl rfl rfl)
  refine (div64_spec _ _ _ _ h1q (by decide) hq2).mono ?_
  rintro _ _ ⟨rfl, rfl⟩
  refine ⟨(by first | exact trivial | exact Ext.refl _ | assumption | exact Ext.trans (by assumption) (by assumption)), ?_⟩
  have hsp : Nat.mod (Nat.mod 1 q * 18446744073709551616 + 0) q < q := Nat.mod_lt _ hq
  generalize hspd : Nat.mod (Nat.mod 1 q * 18446744073709551616 + 0) q = sp at hsp
  have hspe : (Nat.mod 1 q * 18446744073709551616 + 0) - (Nat.mod 1 q * 18446744073709551616 + 0) / q * q = (Nat.mod 1 q * 18446744073709551616 + 0) - (Nat.mod 1 q * 18446744073709551616 + 0) / q * q := rfl
  refine runH ?_
  (first | (apply w_seqB; exact rfl; apply w_block; exact rfl) | skip)
  apply (w_loop (σ := List Nat × Bool) rfl (fun p => [(0, t), (1, U q), (7, U sp)])
    (fun p h' => Only (pblk t) h h' ∧ TapeAt h' t B p.1 p.2 ∧ p.1 <:+ ds ∧ (o = false → p.2 = true → p.1 = [])) (fun p => if p.2 then 0 else p.1.length + 1) (ds, o))
  · have e7 := congrArg U hspd
    exact (Sub.cons rfl (Sub.cons rfl (Sub.cons (congrArg some e7) (Sub.nil _))))
  · exact ⟨Only.refl _ _, s0, List.suffix_refl _, fun h1 h2 => by rw [h1] at h2; cases h2⟩
  · rintro ⟨ds', o'⟩ h1 ⟨i1, i2, i3, i4⟩
    dsimp only at i2 i3 i4 ⊢
    have i2' := i2
    obtain ⟨v1, t1, t2, t3, t4, t5⟩ := i2
    refine runH ?_
    (apply w_cond; exact rfl; exact rfl) <;> intro ho
    · have ho' : o' = false := by simpa using ho
      subst ho'
      refine runH ?_
      apply (s_call Try_ent18 rfl rfl rfl)
      refine (draw_spec t B ds' false h1 i2').mono ?_
      rintro r h2 ⟨k2, D⟩
      refine ⟨(by first | exact trivial | exact trivial), ?_⟩
      have i5 := i1.trans k2
      cases ds' with
      | nil =>
        obtain ⟨rfl, D⟩ := D
        refine runH ?_
        apply again_normal ([], true)
        · exact (Sub.cons rfl (Sub.cons rfl (Sub.cons rfl (Sub.nil _))))
        · exact ⟨i5, D, List.nil_suffix, fun _ _ => rfl⟩
        · simp
      | cons d ds' =>
        obtain ⟨rfl, D⟩ := D
        refine runH ?_
        (apply w_condD; exact rfl; exact rfl) <;> intro hd
        · refine runH ?_
          exact fin2 rfl rfl rfl ⟨i5, .inr ⟨_, ds', rfl, Nat.mod_lt _ hq, D, (List.suffix_cons d ds').trans i3⟩⟩
        · refine runH ?_
          apply again_normal (ds', false)
          · exact (Sub.cons rfl (Sub.cons rfl (Sub.cons rfl (Sub.nil _))))
          · exact ⟨i5, D, (List.suffix_cons d ds').trans i3, fun _ h2 => by cases h2⟩
          · simp
    · have ho' : o' = true := by simpa using ho
      subst ho'
      refine runH ?_
      exact fin2 rfl rfl rfl ⟨i1, .inl ⟨rfl, ⟨ds', i2'⟩, fun h0 => by rw [← i4 h0 rfl]; exact i2'⟩⟩

/-- .. where the first draw does. -/
theorem below_first (t : Value) (B : Option Nat) (q d : Nat) (ds : List Nat) (h : Hp) (s : TapeAt h t B (d :: ds) false) (hq : 0 < q) (hq2 : q < 18446744073709551616) (hd : d ≤ 18446744073709551615 - Nat.mod (Nat.mod 1 q * 18446744073709551616 + 0) q) :
    CallsH Try.prog 8 [t, U q] h fun v' h' => Only (pblk t) h h' ∧ v' = .tuple #[U (d % q), N 0] ∧ TapeAt h' t B ds false := by
  have s0 := s
  obtain ⟨v, s1, s2, s3, s4, s5⟩ := s
  (apply enter Try.func8 rfl Try.ntmps8 rfl)
  refine runH ?_
  (apply w_condF; exact rfl; exact rfl; exact (by omega))
  refine runH ?_
  have h1q : Nat.mod 1 q < q := Nat.mod_lt _ hq
  apply (s_call Try_ent17 rfl rfl rfl)
  refine (div64_spec _ _ _ _ h1q (by decide) hq2).mono ?_
  rintro _ _ ⟨rfl, rfl⟩
  refine ⟨(by first | exact trivial | exact Ext.refl _ | assumption | exact Ext.trans (by assumption) (by assumption)), ?_⟩
  have hsp : Nat.mod (Nat.mod 1 q * 18446744073709551616 + 0) q < q := Nat.mod_lt _ hq
  generalize hspd : Nat.mod (Nat.mod 1 q * 18446744073709551616 + 0) q = sp at hsp hd
  refine runH ?_
  (first | (apply w_seqB; exact rfl; apply w_block; exact rfl) | skip)
  apply (w_loop (σ := Unit) rfl (fun p => [(0, t), (1, U q), (7, U sp)])
    (fun p h' => h' = h) (fun p => 0) ())
  · have e7 := congrArg U hspd
    exact (Sub.cons rfl (Sub.cons rfl (Sub.cons (congrArg some e7) (Sub.nil _))))
  · exact rfl
  · rintro u h1 rfl
    refine runH ?_
    apply (s_call Try_ent18 rfl rfl rfl)
    refine (draw_spec t B (d :: ds) false h1 s0).mono ?_
    rintro r h2 ⟨k2, D⟩
    refine ⟨(by first | exact trivial | exact trivial), ?_⟩
    obtain ⟨rfl, D⟩ := D
    refine runH ?_
    (apply w_condT; exact rfl; exact rfl; exact hd)
    refine runH ?_
    exact fin2 rfl rfl rfl ⟨k2, rfl, D⟩

def tern (d : Nat) : Int := ((d &&& 1 : Nat) : Int) - ((d / 2 ^ 1 &&& 1 : Nat) : Int)
/-- The first draw that tells one of three, and what is left. -/
def firstT : List Nat → Option (Int × List Nat)
  | [] => none
  | d :: ds => if d &&& 3 = 3 then firstT ds else some (tern d, ds)

theorem Try_ent9 : Ent Try.prog 9 := ent_of Try.func9 (by kernel_rfl) rfl
theorem ternary_spec (t : Value) (B : Option Nat) (ds : List Nat) (o : Bool) (h : Hp) (s : TapeAt h t B ds o) :
    CallsH Try.prog 9 [t] h fun v' h' => Only (pblk t) h h' ∧
      match (if o then none else firstT ds) with
      | none => v' = .tuple #[N 0, N 11] ∧ (∃ ds', TapeAt h' t B ds' true) ∧ (o = false → TapeAt h' t B [] true)
      | some (r, ds') => v' = .tuple #[I r, N 0] ∧ -1 ≤ r ∧ r ≤ 1 ∧ TapeAt h' t B ds' false ∧ ds'.length < ds.length := by
  have s0 := s
  obtain ⟨v, s1, s2, s3, s4, s5⟩ := s
  (apply enter Try.func9 rfl Try.ntmps9 rfl)
  refine runH ?_
  (first | (apply w_seqB; exact rfl; apply w_block; exact rfl) | skip)
  apply (w_loop (σ := List Nat × Bool) rfl (fun p => [(0, t)])
    (fun p h' => Only (pblk t) h h' ∧ TapeAt h' t B p.1 p.2 ∧ p.1.length ≤ ds.length ∧ (o = false → p.2 = true → p.1 = []) ∧ (if o then none else firstT ds) = (if p.2 then none else firstT p.1)) (fun p => if p.2 then 0 else p.1.length + 1) (ds, o))
  · exact (Sub.cons rfl (Sub.nil _))
  · refine ⟨Only.refl _ _, s0, Nat.le_refl _, fun h1 h2 => ?_, rfl⟩
    rw [h1] at h2; cases h2
  · rintro ⟨ds', o'⟩ h1 ⟨i1, i2, i3, i4, i6⟩
    dsimp only at i2 i3 i4 i6 ⊢
    have i2' := i2
    obtain ⟨v1, t1, t2, t3, t4, t5⟩ := i2
    refine runH ?_
    (apply w_cond; exact rfl; exact rfl) <;> intro ho
    · have ho' : o' = false := by simpa using ho
      subst ho'
      refine runH ?_
      apply (s_call Try_ent18 rfl rfl rfl)
      refine (draw_spec t B ds' false h1 i2').mono ?_
      rintro r h2 ⟨k2, D⟩
      refine ⟨(by first | exact trivial | exact trivial), ?_⟩
      have i5 := i1.trans k2
      cases ds' with
      | nil =>
        obtain ⟨rfl, D⟩ := D
        refine runH ?_
        apply again_normal ([], true)
        · exact (Sub.cons rfl (Sub.nil _))
        · refine ⟨i5, D, i3, fun _ _ => rfl, ?_⟩
          rw [i6]; rfl
        · simp
      | cons d ds' =>
        obtain ⟨rfl, D⟩ := D
        have hd64 : d < 18446744073709551616 := t4 d (by simp)
        refine runH ?_
        (apply w_condD; exact rfl; exact rfl) <;> intro hd
        · have i7 : (if o then none else firstT ds) = some (tern d, ds') := by
            rw [i6]; simp [firstT, hd]
          rw [i7]
          have hb1 : d &&& 1 ≤ 1 := Nat.and_le_right
          have hb2 : d / 2 ^ 1 &&& 1 ≤ 1 := Nat.and_le_right
          refine runH ?_
          refine fin2 rfl rfl rfl ⟨i5, rfl, ?_, ?_, D, ?_⟩
          · unfold tern; omega
          · unfold tern; omega
          · simp only [List.length_cons] at i3; omega
        · refine runH ?_
          apply again_normal (ds', false)
          · exact (Sub.cons rfl (Sub.nil _))
          · refine ⟨i5, D, ?_, ?_, ?_⟩
            · simp only [List.length_cons] at i3; simp only []; omega
            · intro _ h9; cases h9
            · rw [i6]
              have : d &&& 3 = 3 := Decidable.of_not_not hd
              simp [firstT, this]
          · simp
    · have ho' : o' = true := by simpa using ho
      subst ho'
      have i7 : (if o then none else firstT ds) = none := by rw [i6]; rfl
      rw [i7]
      refine runH ?_
      refine fin2 rfl rfl rfl ⟨i1, rfl, ⟨ds', i2'⟩, fun h0 => by rw [← i4 h0 rfl]; exact i2'⟩
end Go.Proofs.Ytlaijoebocfelaa
