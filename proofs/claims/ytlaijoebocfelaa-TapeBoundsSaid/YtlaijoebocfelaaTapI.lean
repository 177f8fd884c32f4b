/- The law of bounds. No condition. -/
import Derived.Test.YtlaijoebocfelaaTapH
namespace Go.Proofs.Ytlaijoebocfelaa
set_option linter.unusedVariables false
open Go Go.Den Go.RowKit Go.Dig

theorem firstT_suf : ∀ (ds : List Nat) (r : Int) (ds' : List Nat), firstT ds = some (r, ds') → ds' <:+ ds
  | [], _, _, h => by cases h
  | d :: ds, r, ds', h => by
    unfold firstT at h
    split at h
    · exact (firstT_suf ds r ds' h).trans (List.suffix_cons d ds)
    · cases h; exact List.suffix_cons d ds
theorem rowT_len : ∀ (n : Nat) (ds : List Nat) (rs : List Int) (ds' : List Nat), rowT n ds = some (rs, ds') → rs.length = n
  | 0, ds, rs, ds', h => by cases h; rfl
  | n + 1, ds, rs, ds', h => by
    unfold rowT at h
    cases hf : firstT ds with
    | none => rw [hf] at h; cases h
    | some p =>
      rw [hf] at h
      dsimp only at h
      cases hr : rowT n p.2 with
      | none => rw [hr] at h; cases h
      | some q =>
        rw [hr] at h
        cases h
        simp [rowT_len n p.2 q.1 q.2 hr]
theorem suf_drop {ds ds' : List Nat} (h : ds' <:+ ds) : (ds.drop (ds.length - ds'.length)).take (ds.length - (ds.length - ds'.length)) = ds' := by
  obtain ⟨p, rfl⟩ := h
  simp
theorem al_suf {ds ds' : List Nat} {b : Nat} (h : ds' <:+ ds) (k : Al b ds) : Al b ds' := fun x hx => k x (h.subset hx)


theorem below_all (t : Value) (B : Option Nat) (q : Nat) (ds : List Nat) (h : Hp) (s : TapeAt h t B ds false) (hq2 : q < 18446744073709551616) :
    CallsH Try.prog 8 [t, U q] h fun v' h' => Only (pblk t) h h' ∧
      ∃ (a e : Nat) (ds' : List Nat) (o' : Bool), v' = .tuple #[U a, N e] ∧ TapeAt h' t B ds' o' ∧ ds' <:+ ds ∧ (e = 0 → a < q) ∧ (o' = true → ds' = []) ∧ (e = 11 → ds' = []) := by
  rcases Nat.eq_zero_or_pos q with rfl | hq
  · refine (below_zero t B ds false h s).mono ?_
    rintro _ _ ⟨rfl, rfl⟩
    exact ⟨Only.refl _ _, 0, 1, ds, false, rfl, s, List.suffix_refl _, (fun e => by cases e), (fun e => by cases e), (fun e => by cases e)⟩
  · refine (below_spec t B q ds false h s hq hq2).mono ?_
    rintro _ h' ⟨k, ⟨rfl, -, T⟩ | ⟨r, ds', rfl, hr, T, hs⟩⟩
    · exact ⟨k, 0, 11, [], true, rfl, T rfl, List.nil_suffix, (fun e => by cases e), (fun _ => rfl), (fun _ => rfl)⟩
    · exact ⟨k, r, 0, ds', false, rfl, T, hs, (fun _ => hr), (fun e => by cases e), (fun e => by cases e)⟩
theorem ternary_all (t : Value) (B : Option Nat) (ds : List Nat) (o : Bool) (h : Hp) (s : TapeAt h t B ds o) (ho : o = true → ds = []) :
    CallsH Try.prog 9 [t] h fun v' h' => Only (pblk t) h h' ∧
      ∃ (b : Int) (f : Nat) (ds' : List Nat) (o' : Bool), v' = .tuple #[I b, N f] ∧ TapeAt h' t B ds' o' ∧ ds' <:+ ds ∧ -1 ≤ b ∧ b ≤ 1 ∧ (o' = true → ds' = []) ∧ (f ≠ 0 → ds' = []) := by
  cases o with
  | true =>
    refine (ternary_out t B ds h s).mono ?_
    rintro _ _ ⟨rfl, rfl⟩
    exact ⟨Only.refl _ _, 0, 11, ds, true, rfl, s, List.suffix_refl _, (by decide), (by decide), ho, fun _ => ho rfl⟩
  | false =>
    refine (ternary_spec t B ds false h s).mono ?_
    rintro v h' ⟨k, T⟩
    refine ⟨k, ?_⟩
    simp only [Bool.false_eq_true, if_false] at T
    cases hf : firstT ds with
    | none =>
      rw [hf] at T
      obtain ⟨rfl, -, T⟩ := T
      exact ⟨0, 11, [], true, rfl, T trivial, List.nil_suffix, (by decide), (by decide), (fun _ => rfl), fun _ => rfl⟩
    | some p =>
      obtain ⟨r, ds'⟩ := p
      rw [hf] at T
      obtain ⟨rfl, h1, h2, T, -⟩ := T
      exact ⟨r, 0, ds', false, rfl, T, firstT_suf _ _ _ hf, h1, h2, (fun e => by cases e), fun e => absurd rfl e⟩
theorem error_all (t : Value) (B : Option Nat) (w : Nat) (ds : List Nat) (o : Bool) (h : Hp) (s : TapeAt h t B ds o) (ho : o = true → ds = []) (hw : 1 ≤ w) (hw2 : w ≤ 16) :
    CallsH Try.prog 10 [t, N w] h fun v' h' => Only (pblk t) h h' ∧
      ∃ (b : Int) (f : Nat) (ds' : List Nat) (o' : Bool), v' = .tuple #[I b, N f] ∧ TapeAt h' t B ds' o' ∧ ds' <:+ ds ∧ -(w : Int) ≤ b ∧ b ≤ w ∧ (f = 0 → o' = false) ∧ (f ≠ 0 → ds' = []) := by
  refine (error_spec t B w ds o h s hw hw2).mono ?_
  rintro v h' ⟨k, ⟨rfl, -, T, hx⟩ | ⟨r, ds', rfl, h1, h2, -, ⟨d, rfl, -⟩, T, -⟩⟩
  · have hd : ds = [] := by
      rcases hx with rfl | hx
      · exact ho rfl
      · exact hx
    exact ⟨k, 0, 11, [], true, rfl, T (.inr hd), List.nil_suffix, by omega, by omega, (fun e => by cases e), fun _ => rfl⟩
  · exact ⟨k, r, 0, ds', false, rfl, T, List.suffix_cons _ _, h1, h2, (fun _ => rfl), fun e => absurd rfl e⟩

theorem s_remK {P : Program} {n : Nat} {Q : Post} {l : Fr} {h : Hp} {ops : List Oper} {Ch : Hp → Prop} {E : Nat → Bool} {i d : Nat} {t yt : TypeId} {x y : Operand} {a b : Nat} (hx : IsK (ev l x) .u8 a) (hy : IsK (ev l y) .u8 b) (hb : Nat.blt d n = true) (hn : 0 < b)
    (k : S P n ops Ch E Q (i + 1) ((d, .int .u8 ((a % b : Nat) : Int)) :: l) h) : O P n ops Ch E Q i d (.binOp .rem t x y yt) l h :=
  s_bin hx.h hy.h hb (fun w' => by
    show (Op.intDiv .rem .u8 (a : Int) (b : Int)).run P w' = _
    unfold Op.intDiv
    rw [if_neg (by omega)]
    show Result.ok (Value.int .u8 ((a : Int).tmod b)) w' = _
    rw [← Int.ofNat_tmod]) k

theorem new_specB (v : Value) (ds : List Nat) (h : Hp) (s : SlF h U v ds) (hal : Al 18446744073709551616 ds) (hl : ds.length < 1000000) :
    CallsH Try.prog 7 [v] h fun v' h' => Ext h h' ∧ ∃ k B, pblk v' = some k ∧ h.size ≤ k ∧ (∀ b, B = some b → h.size ≤ b) ∧ TapeAt h' v' B ds false := by
  (apply enter Try.func7 rfl Try.ntmps7 rfl)
  refine runH ?_
  apply (s_call Try_ent16 rfl rfl rfl)
  refine (clone_spec v ds h s hl).mono ?_
  rintro w h1 ⟨e1, o1⟩
  refine ⟨(by first | exact trivial | exact e1), ?_⟩
  have s1 := o1.sl
  refine runH ?_
  (apply (s_build ([w, .bool false])); exact rfl; exact rfl; exact rfl; (repeat (first | exact CellsAll.nil | (apply CellsAll.cons; (first | exact oneL (SlF.one (by assumption)) | exact oneL (SlF.one (OwnF.sl (by assumption))) | exact oneL (Var.one (by assumption)) | exact rfl)))); exact rfl; exact rfl)
  refine runH ?_
  (apply s_box; exact rfl; exact rfl; exact rfl; exact rfl)
  intro p h2 p2 f2 c2
  (try dsimp only [Value.cells, List.toList_toArray] at p2)
  refine ⟨(by first | exact trivial | exact Ext.refl _ | assumption | exact Ext.trans (by assumption) (by assumption)), ?_⟩
  refine runH ?_
  refine fin1 rfl rfl ⟨e1.trans f2, _, w.ownBlock, c2, e1.1, fun b hb => (OwnF.blk o1 _ hb).1, w, p2, s1.ext f2, ⟨.inr rfl, ?_, ?_⟩, hal, by omega⟩
  · rw [c2]
    intro e
    have := (OwnF.blk o1 _ e).2; omega
  · intro b hb
    exact Nat.lt_of_lt_of_le (OwnF.blk o1 _ hb).2 f2.1

theorem ternaries_two (t : Value) (B : Option Nat) (n : Nat) (ds : List Nat) (h : Hp) (s : TapeAt h t B ds false) (hn : 1 ≤ n) (hn2 : n ≤ 4096) :
    CallsH Try.prog 12 [t, N n] h fun v' h' => Only (pblk t) h h' ∧
      ∃ u, v' = .tuple #[u, N (if (rowT n ds).isSome then 0 else 11)] ∧ SlF h' I u ((rowT n ds).getD ([], [])).1 ∧ (∀ k, u.ownBlock = some k → h.size ≤ k) ∧ ((rowT n ds).getD ([], [])).1.length ≤ n ∧ TapeAt h' t B ((rowT n ds).getD ([], [])).2 ((rowT n ds).isNone) := by
  refine (ternaries_spec t B n ds h s hn hn2).mono ?_
  rintro v h' ⟨k, T⟩
  refine ⟨k, ?_⟩
  cases hr : rowT n ds with
  | none =>
    rw [hr] at T
    obtain ⟨rfl, T⟩ := T
    exact ⟨_, rfl, SlF.nil _ _, (fun k hk => by simp [Value.ownBlock] at hk), Nat.zero_le _, T⟩
  | some p =>
    obtain ⟨rs, ds'⟩ := p
    rw [hr] at T
    obtain ⟨u, rfl, o, T, hl⟩ := T
    exact ⟨u, rfl, o.sl, fun k hk => (o.blk k hk).1, by have := rowT_len n ds rs ds' hr; simp only [Option.getD_some]; omega, T⟩

theorem Try_ent3 : Ent Try.prog 3 := ent_of Try.func3 (by kernel_rfl) rfl
theorem tapeBounds_law (v : Value) (ds : List Nat) (q m : Nat) (h : Hp) (s : SlF h U v ds) (hal : Al 18446744073709551616 ds) (hq : q < 18446744073709551616) :
    CallsH Try.prog 3 [v, U q, .int .u8 (m : Int)] h fun v' h' => v' = .bool true ∧ Ext h h' := by
  (apply enter Try.func3 rfl Try.ntmps3 rfl)
  refine runH ?_
  apply (s_call Try_ent6 rfl rfl rfl)
  refine (fixed_spec h).mono ?_
  rintro _ h1 ⟨rfl, e1⟩
  refine ⟨(by first | exact trivial | exact e1), ?_⟩
  have s1 := s.ext e1
  refine runH ?_
  (apply w_condD; exact rfl; exact rfl) <;> intro hbig
  · refine runH ?_
    exact fin1 rfl rfl ⟨rfl, e1⟩
  · refine runH ?_
    apply s_remK (isK_t rfl) isK_c rfl (by decide)
    obtain ⟨w, hw⟩ : ∃ w : Nat, w = Nat.mod m 16 := ⟨_, rfl⟩
    have hw2 : w < 16 := by rw [hw]; exact Nat.mod_lt _ (by decide)
    refine s_know (t := 27) (u := .int .u8 (w : Int)) rfl (by rw [hw]; rfl) ?_
    refine runH ?_
    apply (s_call Try_ent7 rfl rfl rfl)
    refine (new_spec v ds h1 s1 hal (by omega)).mono ?_
    rintro t h2 ⟨e2, k2, B, q2, l2, T⟩
    refine ⟨(by first | exact trivial | exact trivial), ?_⟩
    have E2 := e1.trans e2
    have hs1 : h.size ≤ k2 := Nat.le_trans e1.1 l2
    refine runH ?_
    apply (s_call Try_ent8 rfl rfl rfl)
    refine (below_all t B q ds h2 T hq).mono ?_
    rintro _ h3 ⟨k3, a, e, ds1, o1, rfl, T3, u1, a1, a2, a3⟩
    refine ⟨(by first | exact trivial | exact trivial), ?_⟩
    have E3 := k3.oldV E2 q2 hs1
    refine runH ?_
    apply (s_call Try_ent9 rfl rfl rfl)
    refine (ternary_all t B ds1 o1 h3 T3 a2).mono ?_
    rintro _ h4 ⟨k4, b, f, ds2, o2, rfl, T4, u2, b1, b2, b3, b4⟩
    refine ⟨(by first | exact trivial | exact trivial), ?_⟩
    have E4 := k4.oldV E3 q2 hs1
    refine runH ?_
    apply (s_call Try_ent10 rfl rfl rfl)
    refine (error_all t B (1 + w) ds2 o2 h4 T4 b3 (by omega) (by omega)).mono ?_
    rintro _ h5 ⟨k5, c, g, ds3, o3, rfl, T5, u3, c1, c2, c3, c4⟩
    refine ⟨(by first | exact trivial | exact trivial), ?_⟩
    have E5 := k5.oldV E4 q2 hs1
    refine runH ?_
    refine s_tcut (σ := Unit) (fun _ => [(0, v), (8, t), (10, N e), (12, N f), (14, N g), (81, .bool false)]) (fun _ h' => h5 = h') ?_ ?_
    · have hl3 : ds3.length ≤ ds.length := (u3.trans (u2.trans u1)).length_le
      (apply s_splitG; exact rfl; exact rfl; exact rfl; exact rfl) <;> intro he
      · have := a1 he
        refine runH ?_
        (apply s_splitG; exact rfl; exact rfl; exact rfl; exact rfl)
        · intro hg; omega
        intro _
        refine runH ?_
        (apply s_splitG; exact rfl; exact rfl; exact rfl; exact rfl)
        · intro hg; omega
        intro _
        refine runH ?_
        (apply s_splitG; exact rfl; exact rfl; exact rfl; exact rfl)
        · intro hg; omega
        intro _
        refine runH ?_
        (apply s_splitG; exact rfl; exact rfl; exact rfl; exact rfl)
        · intro hg; omega
        intro _
        refine runH ?_
        (apply s_splitG; exact rfl; exact rfl; exact rfl; exact rfl)
        · intro hg; omega
        intro _
        refine runH ?_
        apply (s_call Try_ent11 rfl rfl rfl)
        refine (left_spec t B ds3 o3 h5 T5).mono ?_
        rintro _ _ ⟨rfl, rfl⟩
        refine ⟨(by first | exact trivial | exact Ext.refl _ | assumption | exact Ext.trans (by assumption) (by assumption)), ?_⟩
        refine runH ?_
        apply cut_normal ()
        · exact Sub.cons rfl (Sub.cons rfl (Sub.cons rfl (Sub.cons rfl (Sub.cons rfl (Sub.consE rfl (congrArg Value.bool (decide_eq_false (by omega))) (Sub.nil _))))))
        · exact rfl
      · refine runH ?_
        (apply s_splitG; exact rfl; exact rfl; exact rfl; exact rfl)
        · intro hg; omega
        intro _
        refine runH ?_
        (apply s_splitG; exact rfl; exact rfl; exact rfl; exact rfl)
        · intro hg; omega
        intro _
        refine runH ?_
        (apply s_splitG; exact rfl; exact rfl; exact rfl; exact rfl)
        · intro hg; omega
        intro _
        refine runH ?_
        (apply s_splitG; exact rfl; exact rfl; exact rfl; exact rfl)
        · intro hg; omega
        intro _
        refine runH ?_
        apply (s_call Try_ent11 rfl rfl rfl)
        refine (left_spec t B ds3 o3 h5 T5).mono ?_
        rintro _ _ ⟨rfl, rfl⟩
        refine ⟨(by first | exact trivial | exact Ext.refl _ | assumption | exact Ext.trans (by assumption) (by assumption)), ?_⟩
        refine runH ?_
        apply cut_normal ()
        · exact Sub.cons rfl (Sub.cons rfl (Sub.cons rfl (Sub.cons rfl (Sub.cons rfl (Sub.consE rfl (congrArg Value.bool (decide_eq_false (by omega))) (Sub.nil _))))))
        · exact rfl
    · rintro _ _ rfl
      refine runH ?_
      apply (s_call Try_ent11 rfl rfl rfl)
      refine (left_spec t B ds3 o3 h5 T5).mono ?_
      rintro _ _ ⟨rfl, rfl⟩
      refine ⟨(by first | exact trivial | exact Ext.refl _ | assumption | exact Ext.trans (by assumption) (by assumption)), ?_⟩
      have nil_suf : ∀ {l l' : List Nat}, l' <:+ l → l = [] → l' = [] := fun h e => by rw [e] at h; exact List.suffix_nil.1 h
      refine runH ?_
      refine s_tcut (σ := Unit) (fun _ => [(0, v), (8, t), (15, N ds3.length), (93, .bool (decide (f ≠ 0 ∨ g ≠ 0 ∨ e = 11)))]) (fun _ h' => h5 = h') ?_ ?_
      · (apply s_splitG; exact rfl; exact rfl; exact rfl; exact rfl) <;> intro hf
        · refine runH ?_
          apply cut_normal ()
          · exact Sub.cons rfl (Sub.cons rfl (Sub.cons rfl (Sub.consE rfl (congrArg Value.bool (by simp [hf])) (Sub.nil _))))
          · exact rfl
        · refine runH ?_
          (apply s_splitG; exact rfl; exact rfl; exact rfl; exact rfl) <;> intro hg
          · refine runH ?_
            apply cut_normal ()
            · exact Sub.cons rfl (Sub.cons rfl (Sub.cons rfl (Sub.consE rfl (congrArg Value.bool (by simp [hg])) (Sub.nil _))))
            · exact rfl
          · refine runH ?_
            apply cut_normal ()
            · exact Sub.cons rfl (Sub.cons rfl (Sub.cons rfl (Sub.consE rfl (congrArg Value.bool (by simp only [hf, hg, false_or])) (Sub.nil _))))
            · exact rfl
      · rintro _ _ rfl
        (apply w_condD; exact rfl; exact rfl) <;> intro hx
        · have hd3 : ds3 = [] := by
            rcases hx with hx | hx | hx
            · exact nil_suf u3 (b4 hx)
            · exact c4 hx
            · exact nil_suf u3 (nil_suf u2 (a3 hx))
          subst hd3
          refine runH ?_
          exact fin1 rfl rfl ⟨rfl, E5⟩
        · have hf : f = 0 := by omega
          have hg : g = 0 := by omega
          have ho3 := c3 hg
          subst ho3
          have u0 := u3.trans (u2.trans u1)
          have hl3 := u0.length_le
          have s5 := s.ext E5
          have s6 := s5.cut (lo := ds.length - ds3.length) (hi := ds.length) (by omega) (Nat.le_refl _)
          rw [suf_drop u0] at s6
          refine runH ?_
          apply (s_call Try_ent7 rfl rfl rfl)
          refine (new_specB _ ds3 h5 s6 (al_suf u0 hal) (by omega)).mono ?_
          rintro t6 h6 ⟨e6, k6, B6, q6, l6, L6, T6⟩
          refine ⟨(by first | exact trivial | exact trivial), ?_⟩
          have T5' := T5.ext e6
          have E6 := E5.trans e6
          have k2lt : k2 < h5.size := by
            obtain ⟨v, s1, -⟩ := T5
            exact var_lt' s1 q2
          have hB5 : ∀ b, B = some b → b < h5.size := by
            obtain ⟨v, -, -, s3, -⟩ := T5
            exact s3.lt
          have k6lt : k6 < h6.size := by
            obtain ⟨v, s1, -⟩ := T6
            exact var_lt' s1 q6
          have hne : pblk t6 ≠ pblk t := by rw [q2, q6]; intro e; cases e; omega
          refine runH ?_
          apply (s_call Try_ent12 rfl rfl rfl)
          refine (ternaries_two t B 3 ds3 h6 T5' (by omega) (by omega)).mono ?_
          rintro _ h7 ⟨k7, x, rfl, x1, x2, x3, T7⟩
          refine ⟨(by first | exact trivial | exact trivial), ?_⟩
          have T7u := T6.only k7 hne (by rw [q2]; intro e; have := L6 _ e; omega)
          have E7 := k7.oldV E6 q2 hs1
          refine runH ?_
          apply (s_call Try_ent12 rfl rfl rfl)
          refine (ternaries_two t6 B6 3 ds3 h7 T7u (by omega) (by omega)).mono ?_
          rintro _ h8 ⟨k8, y, rfl, y1, y2, y3, T8⟩
          refine ⟨(by first | exact trivial | exact trivial), ?_⟩
          have T8t := T7.only k8 (Ne.symm hne) (by rw [q6]; intro e; have := hB5 _ e; omega)
          have E8 := k8.oldV E7 q6 (Nat.le_trans E5.1 l6)
          have x4 := x1.only k8 (.inr (by rw [q6]; intro e; have := x2 _ e; omega))
          generalize hR : (rowT 3 ds3).getD ([], []) = R at x1 x3 x4 y1 y3 T7 T8 T8t
          refine runH ?_
          (apply s_splitG; exact rfl; exact rfl; exact rfl; exact rfl)
          rotate_left
          · intro hn; exact absurd rfl hn
          intro _
          refine runH ?_
          apply (s_call Try_ent13 rfl rfl rfl)
          refine (sameInts_spec x y R.1 R.1 h8 x4 y1 (by omega) (by omega)).mono ?_
          rintro _ _ ⟨rfl, rfl⟩
          refine ⟨(by first | exact trivial | exact Ext.refl _ | assumption | exact Ext.trans (by assumption) (by assumption)), ?_⟩
          refine s_know (t := 119) (u := .bool true) rfl (by simp) ?_
          refine runH ?_
          apply (s_call Try_ent11 rfl rfl rfl)
          refine (left_spec t B _ _ h8 T8t).mono ?_
          rintro _ _ ⟨rfl, rfl⟩
          refine ⟨(by first | exact trivial | exact Ext.refl _ | assumption | exact Ext.trans (by assumption) (by assumption)), ?_⟩
          refine runH ?_
          apply (s_call Try_ent11 rfl rfl rfl)
          refine (left_spec t6 B6 _ _ h8 T8).mono ?_
          rintro _ _ ⟨rfl, rfl⟩
          refine ⟨(by first | exact trivial | exact Ext.refl _ | assumption | exact Ext.trans (by assumption) (by assumption)), ?_⟩
          refine runH ?_
          exact fin1 rfl rfl ⟨by simp, E8⟩
end Go.Proofs.Ytlaijoebocfelaa
