/- Texts TpeC to DenN of this work, joined, without what the law does not lean on. -/
import Derived.Test.YtfcmdefigldpnaaGreatDoorMCb20
namespace Go.Proofs.YtfcmdefigldpnaaGreatDoor
set_option linter.unusedVariables false
set_option maxRecDepth 8000
open Go Go.Den Go.RowKit Go.Dig

def RowP {α : Type} (f : α → Value) (e : TypeId) (h h' : Hp) (t : Value) (B : Option Nat) (v' : Value) : Option (List α × List Nat) → Prop
  | none => v' = .tuple #[.slice none 0 0, N 11] ∧ TapeAt h' t B [] true
  | some (rs, ds) => ∃ u, v' = .tuple #[u, N 0] ∧ OwnF h' h.size e f u rs ∧ TapeAt h' t B ds false

theorem prow_spec (t : Value) (B : Option Nat) (n : Nat) (ds : List Nat) (F : FuncId) (fs cs : List Value) (g : List Nat → Option (Int × List Nat)) (h : Hp) (s : TapeAt h t B ds false) (hn : 1 ≤ n) (hn2 : n ≤ 4096) (he : Ent Tryz.prog F)
    (C : ∀ ds h', Only (pblk t) h h' → TapeAt h' t B ds false → CallsH Tryz.prog F (fs ++ [] ++ cs) h' fun v h'' => Only (pblk t) h' h'' ∧ GotP I (N 0) h'' t B v (g ds)) :
    CallsH Tryz.prog 102 [N n, .func (.func F) fs.toArray cs.toArray] h fun v' h' => Only (pblk t) h h' ∧ RowP I 2 h h' t B v' (rowG g n ds) := by
  (apply enter Tryz.func102 rfl Tryz.ntmps102 rfl)
  refine runH ?_
  (apply (s_make (f := I) (bytes := 8) (0)); (first | exact isK_c | exact isK_t rfl); (first | exact isK_c | exact isK_t rfl); exact rfl; exact rfl; exact rfl; exact rfl; exact rfl; exact rfl; omega; omega; omega)
  intro u h1 o1 e1 b1
  refine clsI ?_
  refine runH ?_
  rw [List.length_replicate]
  have s1 := s.ext e1
  obtain ⟨pk, hpk, hpl⟩ := s.pb
  have hBlt := s.bl
  have hpk' : ∀ j, pblk t = some j → j < h.size := fun j hj => by rw [hpk] at hj; cases hj; exact hpl
  generalize hZ : rowG g n ds = Z
  apply (w_loop (σ := Nat × List Int × List Nat) rfl (fun p => [(14, N p.1), (13, N n), (6, u), (1, .func (.func F) fs.toArray cs.toArray)])
    (fun p h' => Only (pblk t) h h' ∧ OwnF h' h.size 2 I u (p.2.1 ++ List.replicate (n - p.1) 0) ∧ TapeAt h' t B p.2.2 false ∧ p.2.1.length = p.1 ∧ p.1 ≤ n ∧
      Z = preG p.2.1 (rowG g (n - p.1) p.2.2)) (fun p => n - p.1) (0, [], ds))
  · exact subs
  · refine ⟨e1.only _, by simpa using o1, s1, rfl, Nat.zero_le _, ?_⟩
    dsimp only
    rw [← hZ, Nat.sub_zero, preG_nil]
  · rintro ⟨i, rs, ds'⟩ h2 ⟨d1, d2, d3, d4, d5, d7⟩
    dsimp only at d2 d3 d4 d5 d7 ⊢
    refine runH ?_
    (apply w_condD; exact rfl; exact rfl) <;> intro hi
    · refine runH ?_
      refine (s_callV (fs := fs) (cs := cs) (vs := []) (args := []) rfl he rfl rfl rfl ?_)
      refine (C ds' h2 d1 d3).mono ?_
      rintro r h3 ⟨k3, T⟩
      refine ⟨trivial, ?_⟩
      have d1' := d1.trans k3
      have hne : u.ownBlock = none ∨ u.ownBlock ≠ pblk t := d2.neV hpk hpl
      have o3 := d2.only k3 hne
      obtain ⟨m, hm⟩ : ∃ m, n - i = m + 1 := ⟨n - i - 1, by omega⟩
      rw [hm] at d7
      cases hf : g ds' with
      | none =>
        rw [hf] at T
        obtain ⟨rfl, T⟩ := T
        obtain rfl := rowG_fail d7 hf
        refine runH ?_
        exact fin2 rfl rfl rfl ⟨d1', rfl, T⟩
      | some q =>
        obtain ⟨r1, ds1⟩ := q
        rw [hf] at T
        obtain ⟨rfl, T⟩ := T
        have hil : i < (rs ++ List.replicate (n - i) 0).length := by simp only [List.length_append, List.length_replicate]; omega
        refine runH ?_
        (apply (s_storeF (r1)); exact rfl; exact rfl; exact rfl; exact rfl; exact rfl; exact o3; exact rfl; (first | assumption | omega))
        intro h4 o4 k4
        refine clsI ?_
        rw [b1] at k4
        have hT : TapeAt h4 t B ds1 false := T.own k4 (M := h.size) hpk' hBlt (fun j hj => by cases hj; exact Nat.le_refl _)
        have d1'' : Only (pblk t) h h4 := only_own d1' k4 fun j hj => by cases hj; exact Nat.le_refl _
        have hset : (rs ++ List.replicate (n - i) 0).set i r1 = (rs ++ [r1]) ++ List.replicate (n - (i + 1)) 0 := by
          rw [hm, show n - (i + 1) = m by omega, List.replicate_succ, List.set_append_right _ _ (by omega), show i - rs.length = 0 by omega]
          simp
        rw [hset] at o4
        refine runH ?_
        apply again_normal (i + 1, rs ++ [r1], ds1)
        · exact subs
        · refine ⟨d1'', o4, hT, by simp [d4], hi, ?_⟩
          dsimp only
          rw [show n - (i + 1) = m by omega]
          exact rowG_step d7 hf
        · dsimp only; omega
    · have hi' : i = n := by omega
      subst hi'
      rw [Nat.sub_self] at d7
      rw [rowG_zero d7]
      refine runH ?_
      refine fin2 rfl rfl rfl ⟨d1, u, rfl, by simpa using d2, d3⟩

theorem Tryz_ent108 : Ent Tryz.prog 108 := ent_of Tryz.func108 (by kernel_rfl) rfl
theorem errors1_spec (t p3 p5 : Value) (B : Option Nat) (w : Nat) (ds : List Nat) (h : Hp) (s : TapeAt h t B ds false) (x3 : Var h p3 38 [t]) (x5 : Var h p5 3 [N w]) (hw : 1 ≤ w) (hw2 : w ≤ 16) :
    CallsH Tryz.prog 108 [p3, p5] h fun v' h' => Only (pblk t) h h' ∧ GotP I (N 0) h' t B v' (firstE w ds) := by
  (apply enter Tryz.func108 rfl Tryz.ntmps108 rfl)
  refine runH ?_
  apply (s_call Tryz_ent109 rfl rfl rfl)
  refine (errorP_spec t B w ds h s hw hw2).mono ?_
  rintro v h1 ⟨k1, G⟩
  refine ⟨trivial, ?_⟩
  cases hf : firstE w ds with
  | none =>
    rw [hf] at G
    obtain ⟨rfl, T⟩ := G
    refine runH ?_
    exact fin2 rfl rfl rfl ⟨k1, rfl, T⟩
  | some q =>
    obtain ⟨r, ds'⟩ := q
    rw [hf] at G
    obtain ⟨rfl, T⟩ := G
    refine runH ?_
    exact fin2 rfl rfl rfl ⟨k1, rfl, T⟩
theorem errorsP_spec (t : Value) (B : Option Nat) (n w : Nat) (ds : List Nat) (h : Hp) (s : TapeAt h t B ds false) (hn : 1 ≤ n) (hn2 : n ≤ 4096) (hw : 1 ≤ w) (hw2 : w ≤ 16) :
    CallsH Tryz.prog 54 [t, N n, N w] h fun v' h' => Only (pblk t) h h' ∧ RowP I 2 h h' t B v' (rowG (firstE w) n ds) := by
  obtain ⟨pk, hpk, hpl⟩ := s.pb
  obtain ⟨vd, s1, -⟩ := id s
  (apply enter Tryz.func54 rfl Tryz.ntmps54 rfl)
  refine runH ?_
  (apply s_box; exact rfl; exact rfl; exact rfl; exact rfl)
  intro p3 h1 x3 e1 b1
  (try dsimp only [Value.cells, List.toList_toArray] at x3)
  refine clsI ?_
  have x3 : Var h1 p3 38 [t] := by rw [← oneL s1.one]; exact x3
  refine runH ?_
  (apply s_box; exact rfl; exact rfl; exact rfl; exact rfl)
  intro p5 h2 x5 e2 b2
  (try dsimp only [Value.cells, List.toList_toArray] at x5)
  refine clsI ?_
  have x32 := x3.ext e2
  have E2 := e1.trans e2
  have s2 := s1.ext E2
  refine runH ?_
  apply (s_call Tryz_ent101 rfl rfl rfl)
  refine (tsized_spec (n : Int) _ (by omega)).mono ?_
  rintro _ _ ⟨rfl, rfl⟩
  refine clsI ?_
  rw [decide_eq_true (show 1 ≤ (n : Int) ∧ (n : Int) ≤ 4096 by omega)]
  refine runH ?_
  have s22 := s.ext E2
  have hs1 : h.size < h1.size := by obtain ⟨j, hj, hl⟩ := x3.blk; rw [b1] at hj; cases hj; exact hl
  have C : ∀ ds h', Only (pblk t) h2 h' → TapeAt h' t B ds false → CallsH Tryz.prog 108 ([] ++ [] ++ [p3, p5]) h' fun v h'' => Only (pblk t) h' h'' ∧ GotP I (N 0) h'' t B v (firstE w ds) := fun ds h' k T =>
    errors1_spec t p3 p5 B w ds h' T (x32.only k (by rw [b1, hpk]; intro e; have := Option.some.inj e; omega)) (x5.only k (by rw [b2, hpk]; intro e; have := Option.some.inj e; omega)) hw hw2
  apply (s_call Tryz_ent102 rfl rfl rfl)
  refine (prow_spec t B n ds 108 [] [p3, p5] (firstE w) h2 s22 hn hn2 Tryz_ent108 C).mono ?_
  rintro v h3 ⟨k3, D⟩
  refine ⟨trivial, ?_⟩
  have K3 : Only (pblk t) h h3 := ⟨Nat.le_trans E2.1 k3.1, fun i hi hne => (k3.2 i (Nat.lt_of_lt_of_le hi E2.1) hne).trans (E2.2 i hi)⟩
  cases hZ : rowG (firstE w) n ds with
  | none =>
    rw [hZ] at D
    obtain ⟨rfl, T⟩ := D
    refine runH ?_
    exact fin2 rfl rfl rfl ⟨K3, rfl, T⟩
  | some q =>
    obtain ⟨rs, ds'⟩ := q
    rw [hZ] at D
    obtain ⟨u, rfl, O, T⟩ := D
    refine runH ?_
    exact fin2 rfl rfl rfl ⟨K3, u, rfl, O.base E2.1, T⟩

theorem ternariesP_spec (t : Value) (B : Option Nat) (n : Nat) (ds : List Nat) (h : Hp) (s : TapeAt h t B ds false) (hn : 1 ≤ n) (hn2 : n ≤ 4096) :
    CallsH Tryz.prog 46 [t, N n] h fun v' h' => Only (pblk t) h h' ∧ RowP I 2 h h' t B v' (rowG firstT n ds) := by
  have e : ∀ n ds, rowT n ds = rowG firstT n ds := by
    intro n
    induction n with
    | zero => intro ds; rfl
    | succ n ih =>
      intro ds
      unfold rowT rowG
      cases firstT ds with
      | none => rfl
      | some q =>
        obtain ⟨r, ds1⟩ := q
        dsimp only
        rw [ih]
        cases rowG firstT n ds1 <;> rfl
  refine (ternaries_spec t B n ds h s hn hn2).mono ?_
  rintro v' h' ⟨k, h1⟩
  rw [e] at h1
  cases hZ : rowG firstT n ds with
  | none =>
    rw [hZ] at h1
    exact ⟨k, h1⟩
  | some q =>
    obtain ⟨rs, ds'⟩ := q
    rw [hZ] at h1
    obtain ⟨u, rfl, O, T, -⟩ := h1
    exact ⟨k, u, rfl, O, T⟩

def UniP (h h' : Hp) (t : Value) (B : Option Nat) (v' : Value) : Option (List (List Nat) × List Nat) → Prop
  | none => v' = .tuple #[.agg #[.slice none 0 0], N 11] ∧ TapeAt h' t B [] true
  | some (ls, ds) => ∃ vr rows p, v' = .tuple #[.agg #[vr], N 0] ∧ RowsAt h' h.size p vr rows ∧ rows.map (·.2) = ls ∧ TapeAt h' t B ds false

set_option maxHeartbeats 4000000 in
theorem uniformP_spec (t : Value) (B : Option Nat) (n : Nat) (vq : Value) (qs ds : List Nat) (h : Hp) (s : TapeAt h t B ds false) (sq : SlF h U vq qs) (nq : vq.ownBlock = none ∨ vq.ownBlock ≠ pblk t) (hq : ∀ q ∈ qs, 0 < q ∧ q < 18446744073709551616) (hn : 1 ≤ n) (hn2 : n ≤ 4096) (hl : 1 ≤ qs.length) (hl2 : qs.length ≤ 24) :
    CallsH Tryz.prog 104 [t, N n, vq] h fun v' h' => Only (pblk t) h h' ∧ UniP h h' t B v' (uniG n qs ds) := by
  obtain ⟨pk, hpk, hpl⟩ := s.pb
  have hBl := s.bl
  have hpk' : ∀ j, pblk t = some j → j < h.size := fun j hj => by rw [hpk] at hj; cases hj; exact hpl
  obtain ⟨vd, s1, -⟩ := id s
  have h0 : (0 : Nat) ∉ qs := fun h0 => by have := (hq 0 h0).1; omega
  generalize hZ : uniG n qs ds = Z
  (apply enter Tryz.func104 rfl Tryz.ntmps104 rfl)
  refine runJ ?_
  (apply s_alloc; exact rfl; exact rfl; exact rfl)
  intro p6 h3 x3 e3 b3
  (try dsimp only [Value.cells, List.toList_toArray] at x3)
  refine clsI ?_
  have w6 := x3
  have sq3 := sq.ext e3
  have s3 := s.ext e3
  have s13 := s1.ext e3
  have hb03 : h.size < h3.size := by obtain ⟨j, hj, hlj⟩ := w6.blk; rw [b3] at hj; cases hj; exact hlj
  refine runJ ?_
  apply (s_call Tryz_ent101 rfl rfl rfl)
  refine (tsized_spec (n : Int) _ (by omega)).mono ?_
  rintro _ _ ⟨rfl, rfl⟩
  refine clsI ?_
  rw [decide_eq_true (show 1 ≤ (n : Int) ∧ (n : Int) ≤ 4096 by omega)]
  refine runJ ?_
  rw [decide_eq_false (show ¬ qs.length < 1 by omega)]
  refine runJ ?_
  rw [decide_eq_false (show ¬ 24 < qs.length by omega)]
  refine runJ ?_
  have CT := contains_spec _ qs 0 h3 sq3 (by omega)
  rw [decide_eq_false h0] at CT
  apply (s_call Tryz_ent129 rfl rfl rfl)
  refine (CT).mono ?_
  rintro _ _ ⟨rfl, rfl⟩
  refine ⟨trivial, ?_⟩
  refine runJ ?_
  (apply (s_build ([.slice none 0 0])); exact rfl; exact rfl; exact rfl; (repeat (first | exact CellsAll.nil | (apply CellsAll.cons; (first | exact oneL (by assumption) | exact oneL (SlF.one (by assumption)) | exact oneL (SlF.one (OwnF.sl (by assumption))) | exact oneL (Var.one (by assumption)) | exact rfl)))); exact rfl; exact rfl)
  refine runJ ?_
  (apply s_alloc; exact rfl; exact rfl; exact rfl)
  intro p9 h4 x4 e4 b4
  (try dsimp only [Value.cells, List.toList_toArray] at x4)
  refine clsI ?_
  have hb34 : h3.size < h4.size := by obtain ⟨j, hj, hlj⟩ := x4.blk; rw [b4] at hj; cases hj; exact hlj
  have s4 := s3.ext e4
  refine runJ ?_
  (apply s_storeV; exact rfl; exact rfl; exact rfl; (repeat (first | exact OneAll.nil | (apply OneAll.cons; (first | exact rfl | exact SlF.one (by assumption) | exact SlF.one (OwnF.sl (by assumption)) | exact Var.one (by assumption))))); exact rfl; exact rfl; exact x4; exact rfl)
  intro h5 x5 k5
  (try dsimp only [Value.cells, List.toList_toArray] at x5)
  refine ⟨(by first | exact trivial | exact Ext.refl _ | assumption | exact Ext.only (by assumption) _ | exact Only.trans (Ext.only (by assumption) _) (by assumption)), ?_⟩
  have x5 : Var h5 p9 56 [.slice none 0 0] := x5
  have e35 : Ext h3 h5 := k5.oldV e4 b4 (Nat.le_refl _)
  have hs45 := k5.1
  refine runJ ?_
  (first | (apply w_seqB; exact rfl; apply w_block; exact rfl) | skip)
  apply (w_loop (σ := (Nat × Value) × List (Value × List Nat) × List Nat) rfl (fun j => [(0, t), (1, N n), (6, p6), (8, .func (.func 151) #[t] #[]), (9, p9), (40, vq), (41, N qs.length), (42, N j.1.1)])
    (fun j h' => Only (pblk t) h3 h' ∧ h5.size ≤ h'.size ∧ j.1.1 ≤ qs.length ∧ Var h' p9 56 [j.1.2] ∧ RowsAt h' h3.size (some h3.size) j.1.2 j.2.1 ∧ j.2.1.length = j.1.1 ∧ TapeAt h' t B j.2.2 false ∧
      Z = preG (j.2.1.map (·.2)) (uniG n (qs.drop j.1.1) j.2.2)) (fun j => qs.length - j.1.1) ((0, .slice none 0 0), [], ds))
  · exact subs
  · refine ⟨e35.only _, Nat.le_refl _, Nat.zero_le _, x5, RowsAt.nil _ _ _, rfl, s3.ext e35, ?_⟩
    dsimp only
    rw [← hZ, List.drop_zero, List.map_nil, preG_nil]
  clear x4 x5 s4 s3
  rintro ⟨⟨j, vR⟩, rows, ds'⟩ h7 ⟨d7, z7, j1, x7, R7, l7, t7, Z7⟩
  dsimp only at d7 z7 j1 x7 R7 l7 t7 Z7 ⊢
  have sq7 := sq3.only d7 nq
  have hpv : pblk p9 ≠ vR.ownBlock := by
    rw [b4]; intro e
    rcases R7.vp with h0 | h0
    · rw [h0] at e; cases e
    · exact h0 e.symm
  have hpt : pblk p9 ≠ pblk t := by rw [b4, hpk]; intro e; have := Option.some.inj e; omega
  have hpt6 : pblk p6 ≠ pblk t := by rw [b3, hpk]; intro e; have := Option.some.inj e; omega
  have w67 := w6.only d7 hpt6
  refine runJ ?_
  (apply w_condD; exact rfl; exact rfl) <;> intro hj
  · obtain ⟨q, hqj⟩ := get_lt hj
    obtain ⟨hq0, hq64⟩ := hq q (List.mem_of_getElem? hqj)
    have hdr : qs.drop j = q :: qs.drop (j + 1) := by
      rw [List.drop_eq_getElem_cons hj]
      rw [List.getElem?_eq_getElem hj] at hqj
      cases hqj; rfl
    rw [hdr] at Z7
    generalize hY : rowG (firstB q) n ds' = Y
    refine runJ ?_
    (apply (s_make (f := U) (bytes := 8) (0)); (first | exact isK_c | exact isK_t rfl); (first | exact isK_c | exact isK_t rfl); exact rfl; exact rfl; exact rfl; exact rfl; exact rfl; exact rfl; omega; omega; omega)
    intro vl h8 o8 e8 b8
    refine clsI ?_
    refine runJ ?_
    rw [List.length_replicate]
    apply (w_loop (σ := Nat × List Nat × List Nat) rfl (fun m => [(0, t), (1, N n), (6, p6), (8, .func (.func 151) #[t] #[]), (9, p9), (11, U q), (12, vl), (40, vq), (41, N qs.length), (42, N j), (48, vl), (49, N n), (50, N m.1)])
      (fun m h' => Only (pblk t) h7 h' ∧ OwnF h' h7.size 26 U vl (m.2.1 ++ List.replicate (n - m.1) 0) ∧ TapeAt h' t B m.2.2 false ∧ m.2.1.length = m.1 ∧ m.1 ≤ n ∧
        Y = preG m.2.1 (rowG (firstB q) (n - m.1) m.2.2)) (fun m => n - m.1) (0, [], ds'))
    · exact subs
    · refine ⟨e8.only _, by simpa using o8, t7.ext e8, rfl, Nat.zero_le _, ?_⟩
      dsimp only
      rw [← hY, Nat.sub_zero, preG_nil]
    rintro ⟨m, ws, ds2⟩ h9 ⟨d9, o9, t9, l9, m1, Y9⟩
    dsimp only at d9 o9 t9 l9 m1 Y9 ⊢
    have d39 := d7.trans d9
    have x9 := x7.only d9 hpt
    have w69 := w67.only d9 hpt6
    have hvl : ∀ b, vl.ownBlock = some b → h7.size ≤ b := fun b hb => (o9.blk b hb).1
    refine runJ ?_
    (apply w_condD; exact rfl; exact rfl) <;> intro hm
    · refine runJ ?_
      refine s_callV rfl Tryz_ent151 rfl rfl rfl ?_
      refine (belowP_spec t B q ds2 h9 t9 hq0 hq64).mono ?_
      rintro r h10 ⟨k10, G⟩
      refine ⟨trivial, ?_⟩
      have d10 := d9.trans k10
      have w610 := w69.only k10 hpt6
      have hne : vl.ownBlock = none ∨ vl.ownBlock ≠ pblk t := o9.neV hpk (Nat.lt_of_lt_of_le (Nat.lt_trans hpl hb03) d7.1)
      have o10 := o9.only k10 hne
      obtain ⟨m', hm'⟩ : ∃ m', n - m = m' + 1 := ⟨n - m - 1, by omega⟩
      rw [hm'] at Y9
      have hil : m < (ws ++ List.replicate (n - m) 0).length := by simp only [List.length_append, List.length_replicate]; omega
      cases hf : firstB q ds2 with
      | none =>
        rw [hf] at G
        obtain ⟨rfl, hT⟩ := G
        obtain rfl := rowG_fail Y9 hf
        obtain rfl := uniG_fail Z7 hY
        refine runJ ?_
        (apply (s_storeF (0)); exact rfl; exact rfl; exact rfl; exact rfl; exact rfl; exact o10; exact rfl; (first | assumption | omega))
        intro h11 o11 k11
        refine clsI ?_
        have hT1 := hT.own k11 (M := h7.size) (fun b hb => by rw [hpk] at hb; cases hb; exact Nat.lt_of_lt_of_le (Nat.lt_trans hpl hb03) d7.1) (fun b hb => by have := hBl b hb; have := d7.1; omega) hvl
        have w611 := w610.only k11 (by rw [b3]; intro e; have := hvl _ e.symm; have := d7.1; omega)
        have K11 : Only (pblk t) h h11 := only_own ((e3.only _).trans (d7.trans d10)) k11 fun b hb => by have := hvl b hb; have := d7.1; omega
        refine runJ ?_
        (apply (s_build ([.slice none 0 0])); exact rfl; exact rfl; exact rfl; (repeat (first | exact CellsAll.nil | (apply CellsAll.cons; (first | exact oneL (by assumption) | exact oneL (SlF.one (by assumption)) | exact oneL (SlF.one (OwnF.sl (by assumption))) | exact oneL (Var.one (by assumption)) | exact rfl)))); exact rfl; exact rfl)
        refine runJ ?_
        (apply s_storeV; exact rfl; exact rfl; exact rfl; (repeat (first | exact OneAll.nil | (apply OneAll.cons; (first | exact rfl | exact SlF.one (by assumption) | exact SlF.one (OwnF.sl (by assumption)) | exact Var.one (by assumption))))); exact rfl; exact rfl; exact w611; exact rfl)
        intro h12 x12 k12
        (try dsimp only [Value.cells, List.toList_toArray] at x12)
        refine ⟨(by first | exact trivial | exact Ext.refl _ | assumption | exact Ext.only (by assumption) _ | exact Only.trans (Ext.only (by assumption) _) (by assumption)), ?_⟩
        have x12 : Var h12 p6 56 [.slice none 0 0] := x12
        have K12 := only_own K11 k12 fun b hb => by rw [b3] at hb; cases hb; exact Nat.le_refl _
        have hT2 := hT1.own k12 (M := h.size) hpk' hBl (fun b hb => by rw [b3] at hb; cases hb; exact Nat.le_refl _)
        refine runJ ?_
        exact finCT rfl rfl rfl x12 rfl rfl ⟨K12, rfl, hT2⟩
      | some y =>
        obtain ⟨r1, ds1⟩ := y
        rw [hf] at G
        obtain ⟨rfl, hT⟩ := G
        refine runJ ?_
        (apply (s_storeF (r1)); exact rfl; exact rfl; exact rfl; exact rfl; exact rfl; exact o10; exact rfl; (first | assumption | omega))
        intro h11 o11 k11
        refine clsI ?_
        have hT1 := hT.own k11 (M := h7.size) (fun b hb => by rw [hpk] at hb; cases hb; exact Nat.lt_of_lt_of_le (Nat.lt_trans hpl hb03) d7.1) (fun b hb => by have := hBl b hb; have := d7.1; omega) hvl
        have hset : (ws ++ List.replicate (n - m) 0).set m r1 = (ws ++ [r1]) ++ List.replicate (n - (m + 1)) 0 := by
          rw [hm', show n - (m + 1) = m' by omega, List.replicate_succ, List.set_append_right _ _ (by omega), show m - ws.length = 0 by omega]
          simp
        rw [hset] at o11
        have d11 := only_own d10 k11 hvl
        refine runJ ?_
        apply again_normal (m + 1, ws ++ [r1], ds1)
        · exact subs
        · refine ⟨d11, o11, hT1, by simp [l9], hm, ?_⟩
          dsimp only
          rw [show n - (m + 1) = m' by omega]
          exact rowG_step Y9 hf
        · dsimp only; omega
    · obtain rfl : m = n := by omega
      rw [Nat.sub_self] at Y9
      have hYs := rowG_zero Y9
      have Z8 := uniG_step Z7 (hY.trans hYs)
      rw [Nat.sub_self, List.replicate_zero, List.append_nil] at o9
      have R9 := R7.low (by rw [← hpk]; exact d9) (Nat.lt_trans hpl hb03)
      have o9one := o9.sl.one
      have hlen : rows.length + 1 < 1000000 := by omega
      obtain ⟨hsz, ex9⟩ := cutH_ext d39.1
      have Rown := R9.own
      rw [← hsz] at Rown
      refine runJ ?_
      (refine s_app1V (bytes := 24) ((vl, ws)) Rown ex9 rfl rfl rfl rfl rfl rfl rfl rfl rfl (by first | exact rfl | exact congrArg some (congrArg I (by omega))) o9one rfl rfl (fun _ _ => trivial) (by omega) (by simp only [maxLen]; omega) ?_)
      intro v10 h10 o10 e10 k10 b10
      rw [hsz] at o10
      have x10 := x9.only k10 hpv
      refine runJ ?_
      (apply s_storeC; exact rfl; exact rfl; (first | exact rfl | exact SlF.one (by assumption) | exact SlF.one (OwnF.sl (by assumption)) | exact Var.one (by assumption)); exact rfl; exact rfl; exact x10; exact rfl)
      intro h11 x11 k11
      refine ⟨(by first | exact trivial | exact Ext.refl _ | assumption | exact Ext.only (by assumption) _ | exact Only.trans (Ext.only (by assumption) _) (by assumption)), ?_⟩
      rw [b4] at k11
      have hz34 := e4.1
      have R11 := R9.push (z := h7.size) (o9.base (Nat.le_trans hz34 (Nat.le_trans hs45 z7))) (fun k hk => (o9.blk k hk).1) (fun k hk => (R7.own.blk k hk).2) (by omega) d9.1 o10 k10 b10 k11
      have hge : ∀ j, vR.ownBlock = some j → h3.size ≤ j := fun j hj => (R9.own.blk j hj).1
      have d10 := only_own d39 k10 hge
      have d11 := only_own d10 k11 fun j hj => by cases hj; exact Nat.le_refl _
      have T10 := t9.own k10 (M := h.size) hpk' hBl (fun j hj => by have := hge j hj; omega)
      have T11 := T10.own k11 (M := h.size) hpk' hBl (fun j hj => by cases hj; omega)
      refine runJ ?_
      apply again_normal ((j + 1, v10), rows ++ [(vl, ws)], ds2)
      · exact subs
      · refine ⟨d11, Nat.le_trans z7 (Nat.le_trans d9.1 (Nat.le_trans k10.1 k11.1)), hj, x11, R11, by dsimp only; rw [List.length_append]; simp [l7], T11, ?_⟩
        dsimp only
        rw [List.map_append]
        exact Z8
      · dsimp only; omega
  · obtain rfl : j = qs.length := by omega
    rw [List.drop_length] at Z7
    rw [uniG_zero Z7]
    refine runJ ?_
    (apply s_storeV; exact rfl; exact rfl; exact rfl; exact (OneAll.cons R7.own.sl.one OneAll.nil : OneAll [vR]); exact rfl; exact rfl; exact w67; exact rfl)
    intro h8 x8 k8
    refine ⟨trivial, ?_⟩
    have x8 : Var h8 p6 56 [vR] := x8
    rw [b3] at k8
    have dd := only_own ((e3.only _).trans d7) k8 fun j hj => by cases hj; exact Nat.le_refl _
    have T8 := t7.own k8 (M := h.size) hpk' hBl (fun j hj => by cases hj; exact Nat.le_refl _)
    refine runJ ?_
    exact finCT rfl rfl rfl x8 rfl rfl ⟨dd, vR, rows, _, rfl, (R7.low k8 hb03).base (Nat.le_of_lt hb03), rfl, T8⟩
end Go.Proofs.YtfcmdefigldpnaaGreatDoor


namespace Go.Den
set_option linter.unusedVariables false
set_option maxRecDepth 8000
open Go Go.RowKit

section floats
variable {P : Program} {ops : Array Oper} {C : World → Prop} {E F : Nat → Bool} {K X : World → World → Prop} {Φ : Nat → Value → World → Prop} {an : Nat → Nat → Bool}

def Told (Φ : Nat → Value → World → Prop) (fl : List (Nat × Value)) (w : World) : Prop := ∀ p ∈ fl, Φ p.1 p.2 w
def ToldTo (Φ : Nat → Value → World → Prop) (an : Nat → Nat → Bool) (j : Nat) (fl : List (Nat × Value)) (w : World) : Prop := ∀ p ∈ fl, an j p.1 = true → Φ p.1 p.2 w

def MixK (P : Program) (ops : Array Oper) (C : World → Prop) (E F : Nat → Bool) (K X : World → World → Prop) (Φ : Nat → Value → World → Prop) (an : Nat → Nat → Bool) (Q : Act → World → Prop) : List Nat → (World → Prop) → List (Nat × Value) → Act → Prop
  | [], D, fl, a => ∀ w, C w → D w → Told Φ fl w → Q a w
  | i :: L, D, fl, a => ∃ o, ops[i]? = some o ∧
      ((∃ v, (F i = true → Wanted ops o a = false) ∧ Stab P ops C o v a ∧ MixK P ops C E F K X Φ an Q L D fl (a.put o.dst v)) ∨
       (F i = true ∧ Wanted ops o a = true ∧ (∀ w, C w → ToldTo Φ an i fl w → Eff P o a w fun v w' => X w w' ∧ C w' ∧ Φ i v w') ∧
          ∀ v, (∃ w, C w ∧ D w ∧ Told Φ fl w ∧ Φ i v w) → MixK P ops C E F K X Φ an Q L D ((i, v) :: fl) (a.put o.dst v)) ∨
       (E i = true ∧ Wanted ops o a = true ∧ ∀ w, C w → D w → Told Φ fl w → Eff P o a w fun v w' => C w' ∧ ∃ D' : World → Prop, (∀ w1 w2, D' w1 → X w1 w2 → D' w2) ∧ D' w' ∧
          ((K w w' ∧ MixK P ops C E F K X Φ an Q L D' fl (a.put o.dst v)) ∨ ((L.all fun i => !F i) = true ∧ MixK P ops C E F K X Φ an Q L D' [] (a.put o.dst v)))))

theorem Told.of {fl fl' : List (Nat × Value)} {w : World} (h : ∀ p, p ∈ fl → p ∈ fl') (k : Told Φ fl' w) : Told Φ fl w := fun p hp => k p (h p hp)
theorem ToldTo.of {fl fl' : List (Nat × Value)} {w : World} {j : Nat} (h : ∀ p, p ∈ fl → p ∈ fl') (k : ToldTo Φ an j fl' w) : ToldTo Φ an j fl w := fun p hp => k p (h p hp)

theorem MixK.perm {Q : Act → World → Prop} : ∀ (L : List Nat) (D : World → Prop) (fl fl' : List (Nat × Value)) (a : Act), (∀ p, p ∈ fl ↔ p ∈ fl') →
    MixK P ops C E F K X Φ an Q L D fl a → MixK P ops C E F K X Φ an Q L D fl' a
  | [], D, fl, fl', a, hp, h => fun w hC hD hT => h w hC hD (hT.of fun p hq => (hp p).1 hq)
  | i :: L, D, fl, fl', a, hp, h => by
    obtain ⟨o, ho, h⟩ := h
    refine ⟨o, ho, ?_⟩
    rcases h with ⟨v, hn, hv, k⟩ | ⟨hF, hW, hx, k⟩ | ⟨hE, hW, k⟩
    · exact .inl ⟨v, hn, hv, MixK.perm L D fl fl' _ hp k⟩
    · refine .inr (.inl ⟨hF, hW, fun w hC hT => hx w hC (hT.of fun p hq => (hp p).1 hq), fun v ⟨w, hC, hD, hT, hv⟩ => ?_⟩)
      exact MixK.perm L D ((i, v) :: fl) ((i, v) :: fl') _ (fun p => by simp only [List.mem_cons, hp p]) (k v ⟨w, hC, hD, hT.of fun p hq => (hp p).1 hq, hv⟩)
    · refine .inr (.inr ⟨hE, hW, fun w hC hD hT => Eff_mono (fun v w' hk => ?_) (k w hC hD (hT.of fun p hq => (hp p).1 hq))⟩)
      obtain ⟨hC', D', hX, hD', hk⟩ := hk
      refine ⟨hC', D', hX, hD', ?_⟩
      rcases hk with ⟨h1, h2⟩ | h1
      · exact .inl ⟨h1, MixK.perm L D' fl fl' _ hp h2⟩
      · exact .inr h1

structure Opn2 (ops : Array Oper) (oi oj : Oper) : Prop where mk ::
  ej : ∀ (a : Act) (u : Value), execOp (a.put oi.dst u).eval oj = execOp a.eval oj
  wj : ∀ (a : Act) (u : Value), Wanted ops oj (a.put oi.dst u) = Wanted ops oj a
  ei : ∀ (a : Act) (u : Value), execOp (a.put oj.dst u).eval oi = execOp a.eval oi
  wi : ∀ (a : Act) (u : Value), Wanted ops oi (a.put oj.dst u) = Wanted ops oi a
  pc : ∀ (a : Act) (u v : Value), (a.put oi.dst u).put oj.dst v = (a.put oj.dst v).put oi.dst u
theorem Opn2.of {i j : Nat} {oi oj : Oper} (hs : NoSel ops) (hi : ops[i]? = some oi) (hj : ops[j]? = some oj) (h : oi.apart ops oj = true) : Opn2 ops oi oj := by
  obtain ⟨h1, h2, h3⟩ := Oper.apart_spec h
  have hsi : ∀ cs b, oi.op ≠ .select cs b := fun cs b => hs i oi cs b hi
  have hsj : ∀ cs b, oj.op ≠ .select cs b := fun cs b => hs j oj cs b hj
  exact ⟨fun a u => execOp_put oj hsj a oi.dst u h1, fun a u => wanted_put oj a oi.dst u h1, fun a u => execOp_put oi hsi a oj.dst u h3, fun a u => wanted_put oi a oj.dst u h3, fun a u v => Act.put_comm a u v h2⟩

def Ahead (P : Program) (ops : Array Oper) (C : World → Prop) (E F : Nat → Bool) (K X : World → World → Prop) (Φ : Nat → Value → World → Prop) (an : Nat → Nat → Bool) (Q : Act → World → Prop) (j : Nat) (oj : Oper) (L : List Nat) (D : World → Prop) (fl : List (Nat × Value)) (a : Act) : Prop :=
  (∃ v, (F j = true → Wanted ops oj a = false) ∧ Stab P ops C oj v a ∧ MixK P ops C E F K X Φ an Q L D fl (a.put oj.dst v)) ∨
  (F j = true ∧ Wanted ops oj a = true ∧ (∀ w, C w → ToldTo Φ an j fl w → Eff P oj a w fun v w' => X w w' ∧ C w' ∧ Φ j v w') ∧
    ∀ v, (∃ w, C w ∧ D w ∧ Told Φ fl w ∧ Φ j v w) → MixK P ops C E F K X Φ an Q L D ((j, v) :: fl) (a.put oj.dst v)) ∨
  (E j = true ∧ Wanted ops oj a = true ∧ ∀ w, C w → D w → Told Φ fl w → Eff P oj a w fun v w' => C w' ∧ ∃ D' : World → Prop, (∀ w1 w2, D' w1 → X w1 w2 → D' w2) ∧ D' w' ∧
    ((K w w' ∧ MixK P ops C E F K X Φ an Q L D' fl (a.put oj.dst v)) ∨ ((L.all fun i => !F i) = true ∧ MixK P ops C E F K X Φ an Q L D' [] (a.put oj.dst v))))

theorem all_mid {p : Nat → Bool} {pre post : List Nat} {j : Nat} (h : ((pre ++ j :: post).all p) = true) : p j = true ∧ ((pre ++ post).all p) = true := by
  simp only [List.all_append, List.all_cons, Bool.and_eq_true] at h ⊢
  exact ⟨h.2.1, h.1, h.2.2⟩

theorem pullK (hs : NoSel ops) (hKX : ∀ w w', X w w' → K w w') (hΦ : ∀ i v w w', Φ i v w → K w w' → Φ i v w') {Q : Act → World → Prop} {j : Nat} {oj : Oper} (hj : ops[j]? = some oj) (hEF : ¬ (E j = true ∧ F j = true)) (post : List Nat) :
    ∀ (pre : List Nat) (D : World → Prop) (fl : List (Nat × Value)) (a : Act) (w : World), (∀ w1 w2, D w1 → X w1 w2 → D w2) → C w → D w → Told Φ fl w →
    (∀ i ∈ pre, (∀ oi, ops[i]? = some oi → oi.apart ops oj = true) ∧ ¬ ((E i = true ∨ F i = true) ∧ E j = true) ∧ an j i = false ∧ an i j = false) →
    MixK P ops C E F K X Φ an Q (pre ++ j :: post) D fl a → Ahead P ops C E F K X Φ an Q j oj (pre ++ post) D fl a
  | [], D, fl, a, w, _, _, _, _, _, h => by
    obtain ⟨o, ho, h⟩ := h
    rw [hj] at ho; cases ho
    exact h
  | i :: pre, D, fl, a, w, hD, hC, hDw, hT, hp, h => by
    obtain ⟨oi, hi, h⟩ := h
    obtain ⟨hap, hch, ha1, ha2⟩ := hp i (by simp)
    have hp' : ∀ i ∈ pre, (∀ oi, ops[i]? = some oi → oi.apart ops oj = true) ∧ ¬ ((E i = true ∨ F i = true) ∧ E j = true) ∧ an j i = false ∧ an i j = false := fun k hk => hp k (by simp [hk])
    have A := Opn2.of hs hi hj (hap oi hi)
    rcases h with ⟨u, hnu, hu, h⟩ | ⟨hF, hW, hx, h⟩ | ⟨hE, hW, h⟩
    · -- past a stable one
      have mk : ∀ v, (F i = true → Wanted ops oi (a.put oj.dst v) = false) ∧ Stab P ops C oi u (a.put oj.dst v) := fun v => ⟨fun hf => by rw [A.wi a v]; exact hnu hf, hu.of_same (A.ei a v) (A.wi a v)⟩
      rcases pullK hs hKX hΦ hj hEF post pre D fl (a.put oi.dst u) w hD hC hDw hT hp' h with ⟨v, hn, hv, k⟩ | ⟨hFj, hWj, hxj, k⟩ | ⟨hEj, hWj, k⟩
      · refine .inl ⟨v, fun hf => by rw [← A.wj a u]; exact hn hf, hv.of_same (A.ej a u).symm (A.wj a u).symm, oi, hi, .inl ⟨u, (mk v).1, (mk v).2, ?_⟩⟩
        rw [← A.pc a u v]; exact k
      · refine .inr (.inl ⟨hFj, by rw [← A.wj a u]; exact hWj, fun w1 c1 t1 => ?_, fun v hv => ⟨oi, hi, .inl ⟨u, (mk v).1, (mk v).2, ?_⟩⟩⟩)
        · have := hxj w1 c1 t1
          unfold Eff at this ⊢
          rwa [A.ej a u] at this
        · rw [← A.pc a u v]; exact k v hv
      · refine .inr (.inr ⟨hEj, by rw [← A.wj a u]; exact hWj, fun w1 c1 d1 t1 => ?_⟩)
        have := k w1 c1 d1 t1
        unfold Eff at this ⊢
        rw [A.ej a u] at this
        refine EffUpon_mono (fun v w' hk => ?_) this
        obtain ⟨hC', D', hX, hD', hk⟩ := hk
        refine ⟨hC', D', hX, hD', ?_⟩
        rcases hk with ⟨h1, h2⟩ | ⟨h1, h2⟩
        · exact .inl ⟨h1, oi, hi, .inl ⟨u, (mk v).1, (mk v).2, by rw [← A.pc a u v]; exact h2⟩⟩
        · by_cases hFi : F i = true
          · exact absurd ⟨.inr hFi, hEj⟩ hch
          · exact .inr ⟨by simp only [List.cons_append, List.all_cons, Bool.and_eq_true]; exact ⟨by simp [hFi], h1⟩, oi, hi, .inl ⟨u, (mk v).1, (mk v).2, by rw [← A.pc a u v]; exact h2⟩⟩
    · -- past a float
      have hEj : ¬ E j = true := fun e => hch ⟨.inr hF, e⟩
      have step : ∀ u, (∃ w, C w ∧ D w ∧ Told Φ fl w ∧ Φ i u w) → Ahead P ops C E F K X Φ an Q j oj (pre ++ post) D ((i, u) :: fl) (a.put oi.dst u) := fun u hu => by
        have k := h u hu
        obtain ⟨w1, c1, d1, t1, f1⟩ := hu
        exact pullK hs hKX hΦ hj hEF post pre D ((i, u) :: fl) (a.put oi.dst u) w1 hD c1 d1 (fun p hq => by
          rcases List.mem_cons.1 hq with rfl | hq
          · exact f1
          · exact t1 p hq) hp' k
      obtain ⟨u0, w0, hx0, hc0, hf0⟩ := EffUpon_some (hx w hC fun p hq _ => hT p hq)
      have hw0 : ∃ w, C w ∧ D w ∧ Told Φ fl w ∧ Φ i u0 w := ⟨w0, hc0, hD _ _ hDw hx0, fun p hq => hΦ _ _ _ _ (hT p hq) (hKX _ _ hx0), hf0⟩
      rcases step u0 hw0 with ⟨v0, hn0, hv0, -⟩ | ⟨hFj, hWj, hxj, -⟩ | ⟨hEj', -, -⟩
      · have hv0' : Stab P ops C oj v0 a := hv0.of_same (A.ej a u0).symm (A.wj a u0).symm
        have hn0' : F j = true → Wanted ops oj a = false := fun hf => by rw [← A.wj a u0]; exact hn0 hf
        refine .inl ⟨v0, hn0', hv0', oi, hi, .inr (.inl ⟨hF, by rw [A.wi a v0]; exact hW, fun w1 c1 t1 => ?_, fun u hu => ?_⟩)⟩
        · have := hx w1 c1 t1
          unfold Eff at this ⊢
          rwa [A.ei a v0]
        · rcases step u hu with ⟨v, hn, hv, k⟩ | ⟨hFj, hWj, -, -⟩ | ⟨hEj', -, -⟩
          · have hv' : Stab P ops C oj v a := hv.of_same (A.ej a u).symm (A.wj a u).symm
            rw [Stab.unique hC hv' hv0'] at k
            rw [← A.pc a u v0]; exact k
          · rw [A.wj a u, hn0' hFj] at hWj; cases hWj
          · exact absurd hEj' hEj
      · have hWj' : Wanted ops oj a = true := by rw [← A.wj a u0]; exact hWj
        refine .inr (.inl ⟨hFj, hWj', fun w1 c1 t1 => ?_, fun v hv => ⟨oi, hi, .inr (.inl ⟨hF, by rw [A.wi a v]; exact hW, fun w1 c1 t1 => ?_, fun u hu => ?_⟩)⟩⟩)
        · have := hxj w1 c1 (fun p hq hap => by
            rcases List.mem_cons.1 hq with rfl | hq
            · rw [ha1] at hap; cases hap
            · exact t1 p hq hap)
          unfold Eff at this ⊢
          rwa [A.ej a u0] at this
        · have := hx w1 c1 (fun p hq hap => t1 p (List.mem_cons_of_mem _ hq) hap)
          unfold Eff at this ⊢
          rwa [A.ei a v]
        · obtain ⟨w1, c1, d1, t1, f1⟩ := hu
          have hu' : ∃ w, C w ∧ D w ∧ Told Φ fl w ∧ Φ i u w := ⟨w1, c1, d1, fun p hq => t1 p (List.mem_cons_of_mem _ hq), f1⟩
          rcases step u hu' with ⟨v1, hn, hv1, k⟩ | ⟨-, -, -, k⟩ | ⟨hEj', -, -⟩
          · have := hn hFj
            rw [A.wj a u, hWj'] at this; cases this
          · rw [← A.pc a u v]
            refine MixK.perm (pre ++ post) D _ _ _ (fun p => ?_) (k v ⟨w1, c1, d1, fun p hq => ?_, t1 (j, v) (by simp)⟩)
            · simp only [List.mem_cons]; constructor
              · rintro (h | h | h) <;> simp [h]
              · rintro (h | h | h) <;> simp [h]
            · rcases List.mem_cons.1 hq with rfl | hq
              · exact f1
              · exact t1 p (List.mem_cons_of_mem _ hq)
          · exact absurd hEj' hEj
      · exact absurd hEj' hEj
    · -- past an acting one
      have hEj : ¬ E j = true := fun e => hch ⟨.inl hE, e⟩
      have go : ∀ (D' : World → Prop) (fl' : List (Nat × Value)) (u : Value) (w' : World), (∀ w1 w2, D' w1 → X w1 w2 → D' w2) → C w' → D' w' → Told Φ fl' w' → MixK P ops C E F K X Φ an Q (pre ++ j :: post) D' fl' (a.put oi.dst u) →
          Ahead P ops C E F K X Φ an Q j oj (pre ++ post) D' fl' (a.put oi.dst u) := fun D' fl' u w' x1 x2 x3 x4 k => pullK hs hKX hΦ hj hEF post pre D' fl' (a.put oi.dst u) w' x1 x2 x3 x4 hp' k
      by_cases hk : F j = true ∧ Wanted ops oj a = true
      · obtain ⟨hFj, hWj⟩ := hk
        have noF : ((pre ++ j :: post).all fun i => !F i) = true → False := fun hh => by
          have := (all_mid hh).1
          rw [hFj] at this; cases this
        have both : ∀ (D' : World → Prop) (u : Value) (w' : World), (∀ w1 w2, D' w1 → X w1 w2 → D' w2) → C w' → D' w' → Told Φ fl w' → MixK P ops C E F K X Φ an Q (pre ++ j :: post) D' fl (a.put oi.dst u) →
            (∀ w, C w → ToldTo Φ an j fl w → Eff P oj (a.put oi.dst u) w fun v w' => X w w' ∧ C w' ∧ Φ j v w') ∧
            ∀ v, (∃ w, C w ∧ D' w ∧ Told Φ fl w ∧ Φ j v w) → MixK P ops C E F K X Φ an Q (pre ++ post) D' ((j, v) :: fl) ((a.put oi.dst u).put oj.dst v) := fun D' u w' x1 x2 x3 x4 k => by
          rcases go D' fl u w' x1 x2 x3 x4 k with ⟨v1, hn, -, -⟩ | ⟨-, -, y1, y2⟩ | ⟨hEj', -, -⟩
          · have := hn hFj
            rw [A.wj a u, hWj] at this; cases this
          · exact ⟨y1, y2⟩
          · exact absurd hEj' hEj
        obtain ⟨u0, w0, hc0, D0, x0, d0, hk0⟩ := EffUpon_some (h w hC hDw hT)
        rcases hk0 with ⟨hK0, k0⟩ | ⟨hh, -⟩
        · obtain ⟨y1, -⟩ := both D0 u0 w0 x0 hc0 d0 (fun p hq => hΦ _ _ _ _ (hT p hq) hK0) k0
          refine .inr (.inl ⟨hFj, hWj, fun w1 c1 t1 => ?_, fun v hv => ⟨oi, hi, .inr (.inr ⟨hE, by rw [A.wi a v]; exact hW, fun w1 c1 d1 t1 => ?_⟩)⟩⟩)
          · have := y1 w1 c1 t1
            unfold Eff at this ⊢
            rwa [A.ej a u0] at this
          · have := h w1 c1 d1 (fun p hq => t1 p (List.mem_cons_of_mem _ hq))
            unfold Eff at this ⊢
            rw [A.ei a v]
            refine EffUpon_mono (fun u w' hk => ?_) this
            obtain ⟨hC', D', hX, hD', hk⟩ := hk
            refine ⟨hC', D', hX, hD', ?_⟩
            rcases hk with ⟨hK, k⟩ | ⟨hh, -⟩
            · have t' : Told Φ fl w' := fun p hq => hΦ _ _ _ _ (t1 p (List.mem_cons_of_mem _ hq)) hK
              refine .inl ⟨hK, ?_⟩
              rw [← A.pc a u v]
              exact (both D' u w' hX hC' hD' t' k).2 v ⟨w', hC', hD', t', hΦ _ _ _ _ (t1 (j, v) (by simp)) hK⟩
            · exact (noF hh).elim
        · exact (noF hh).elim
      · have hk' : F j = true → Wanted ops oj a = false := fun hf => by
          cases hb : Wanted ops oj a with
          | false => rfl
          | true => exact absurd ⟨hf, hb⟩ hk
        have one : ∀ (D' : World → Prop) (fl' : List (Nat × Value)) (u : Value) (w' : World), (∀ w1 w2, D' w1 → X w1 w2 → D' w2) → C w' → D' w' → Told Φ fl' w' → MixK P ops C E F K X Φ an Q (pre ++ j :: post) D' fl' (a.put oi.dst u) →
            ∃ v, Stab P ops C oj v a ∧ MixK P ops C E F K X Φ an Q (pre ++ post) D' fl' ((a.put oj.dst v).put oi.dst u) := fun D' fl' u w' x1 x2 x3 x4 k => by
          rcases go D' fl' u w' x1 x2 x3 x4 k with ⟨v1, -, y1, y2⟩ | ⟨hFj, hWj, -, -⟩ | ⟨hEj', -, -⟩
          · exact ⟨v1, y1.of_same (A.ej a u).symm (A.wj a u).symm, by rw [← A.pc a u v1]; exact y2⟩
          · rw [A.wj a u, hk' hFj] at hWj; cases hWj
          · exact absurd hEj' hEj
        have told : ∀ w1 w', Told Φ fl w1 → K w1 w' → Told Φ fl w' := fun w1 w' t1 hK p hq => hΦ _ _ _ _ (t1 p hq) hK
        have nil : ∀ w', Told Φ [] w' := fun w' p hq => by cases hq
        obtain ⟨u0, w0, hc0, D0, x0, d0, hk0⟩ := EffUpon_some (h w hC hDw hT)
        obtain ⟨v0, hv0⟩ : ∃ v, Stab P ops C oj v a := by
          rcases hk0 with ⟨hK0, k0⟩ | ⟨hh, k0⟩
          · obtain ⟨v, y, -⟩ := one D0 fl u0 w0 x0 hc0 d0 (told _ _ hT hK0) k0
            exact ⟨v, y⟩
          · obtain ⟨v, y, -⟩ := one D0 [] u0 w0 x0 hc0 d0 (nil _) k0
            exact ⟨v, y⟩
        refine .inl ⟨v0, hk', hv0, oi, hi, .inr (.inr ⟨hE, by rw [A.wi a v0]; exact hW, fun w1 c1 d1 t1 => ?_⟩)⟩
        have := h w1 c1 d1 t1
        unfold Eff at this ⊢
        rw [A.ei a v0]
        refine EffUpon_mono (fun u w' hk => ?_) this
        obtain ⟨hC', D', hX, hD', hk⟩ := hk
        refine ⟨hC', D', hX, hD', ?_⟩
        rcases hk with ⟨hK, k⟩ | ⟨hh, k⟩
        · obtain ⟨v, y1, y2⟩ := one D' fl u w' hX hC' hD' (told _ _ t1 hK) k
          rw [Stab.unique hC y1 hv0] at y2
          exact .inl ⟨hK, y2⟩
        · obtain ⟨v, y1, y2⟩ := one D' [] u w' hX hC' hD' (nil _) k
          rw [Stab.unique hC y1 hv0] at y2
          exact .inr ⟨(all_mid hh).2, y2⟩

def ancB (ops : List Oper) (j i : Nat) : Bool := Nat.blt i j && ((ancGo ops #[]).getD j 0).testBit i

def regionOkK (ops : List Oper) (E F : Nat → Bool) : Bool :=
  let A := ops.toArray
  let an := ancGo ops #[]
  Region.noSelect A &&
  ops.zipIdx.all fun (oj, j) =>
    !(E j && F j) &&
    oj.after.toList.all (fun e => !Region.binds .any e || Nat.blt e.on j) &&
    (ops.take j).zipIdx.all fun (oi, i) =>
      ((oj.after.toList.any fun e => Region.binds .any e && Nat.beq e.on i) || oi.apart A oj) &&
      (!((E i || F i) && E j) || (an.getD j 0).testBit i)

theorem regionOkK_spec {l : List Oper} (h : regionOkK l E F = true) : NoSel l.toArray ∧
    (∀ j oj, l[j]? = some oj → ∀ e ∈ oj.after.toList, Region.binds .any e = true → e.on < j) ∧
    (∀ j oj, l[j]? = some oj → ¬ (E j = true ∧ F j = true)) ∧
    (∀ i j oi oj, i < j → l[i]? = some oi → l[j]? = some oj → ((∃ e ∈ oj.after.toList, Region.binds .any e = true ∧ e.on = i) ∨ oi.apart l.toArray oj = true) ∧
      ((E i = true ∨ F i = true) → E j = true → ((ancGo l #[]).getD j 0).testBit i = true)) := by
  unfold regionOkK at h
  simp only [Bool.and_eq_true] at h
  obtain ⟨h0, h⟩ := h
  refine ⟨Region.noSelect_spec h0, fun j oj hj e he hb => ?_, fun j oj hj => ?_, fun i j oi oj hij hi hj => ?_⟩
  · have h1 := zipIdx_all h hj
    simp only [Bool.and_eq_true, List.all_eq_true] at h1
    have := h1.1.2 e he
    simp only [hb, Bool.not_true, Bool.false_or] at this
    exact Nat.le_of_ble_eq_true this
  · have h1 := zipIdx_all h hj
    simp only [Bool.and_eq_true] at h1
    rintro ⟨h2, h3⟩
    have := h1.1.1
    rw [h2, h3] at this; cases this
  · have h1 := zipIdx_all h hj
    simp only [Bool.and_eq_true] at h1
    have h2 := zipIdx_all h1.2 (show (l.take j)[i]? = some oi by rw [List.getElem?_take, if_pos hij]; exact hi)
    simp only [Bool.and_eq_true, Bool.or_eq_true] at h2
    obtain ⟨h3, h4⟩ := h2
    refine ⟨?_, fun ei ej => ?_⟩
    · rcases h3 with h3 | h3
      · rw [List.any_eq_true] at h3
        obtain ⟨e, he, hb⟩ := h3
        simp only [Bool.and_eq_true] at hb
        exact .inl ⟨e, he, hb.1, Nat.eq_of_beq_eq_true hb.2⟩
      · exact .inr h3
    · rcases ei with ei | ei <;> simpa [ei, ej] using h4

theorem any_of_mixK {l : List Oper} {Q : Exit → Act → World → Prop} (h : regionOkK l E F = true) (hKX : ∀ w w', X w w' → K w w') (hΦ : ∀ i v w w', Φ i v w → K w w' → Φ i v w') : ∀ (m : Nat) (L : List Nat) (listed : Array Bool) (D : World → Prop) (fl : List (Nat × Value)) (a : Act) (w : World),
    L.length = m → L.Pairwise (· < ·) → (∀ i, i ∈ L ↔ i < l.length ∧ listed.getD i true = false) → listed.size = l.length →
    Closed l.toArray (fun i => listed.getD i false) → (∀ w1 w2, D w1 → X w1 w2 → D w2) → C w → D w → Told Φ fl w → MixK P l.toArray C E F K X Φ (ancB l) (fun a w => Q .normal a w) L D fl a → wpAny P .any l.toArray Q m listed a w := by
  obtain ⟨hs, hback, hEF, hpair⟩ := regionOkK_spec h
  intro m
  induction m with
  | zero =>
    intro L listed D fl a w hlen hsort hmem hsz hcl hD hC hDw hT hm
    have hL : L = [] := List.length_eq_zero_iff.1 hlen
    subst hL
    refine ⟨?_, hm w hC hDw hT⟩
    rw [List.eq_nil_iff_forall_not_mem]
    intro j hj
    obtain ⟨h1, o, ho, -⟩ := mem_ready.1 hj
    have hjl : j < l.length := by simpa using (Array.getElem?_eq_some_iff.1 ho).1
    have := (hmem j).2 ⟨hjl, h1⟩
    simp at this
  | succ m ih =>
    intro L listed D fl a w hlen hsort hmem hsz hcl hD hC hDw hT hm
    refine ⟨fun hnil => ?_, fun j hj => ?_⟩
    · cases L with
      | nil => simp at hlen
      | cons k L' =>
        exfalso
        have hk := (hmem k).1 (by simp)
        have hkr : k ∈ Region.ready .any l.toArray listed := by
          refine mem_ready.2 ⟨hk.2, l[k]'hk.1, by simp [hk.1], fun e he hb => ?_⟩
          have hlt := hback k (l[k]'hk.1) (by simp [hk.1]) e (by simpa using he) hb
          have hlt' : e.on < l.length := Nat.lt_trans hlt hk.1
          cases hg : listed.getD e.on true with
          | true =>
            rw [Array.getD_eq_getD_getElem?] at hg ⊢
            rw [Array.getElem?_eq_getElem (by omega)] at hg ⊢
            simpa using hg
          | false =>
            have hin := (hmem e.on).2 ⟨hlt', hg⟩
            rcases List.mem_cons.1 hin with heq | hin'
            · omega
            · have := (List.pairwise_cons.1 hsort).1 _ hin'
              omega
        rw [hnil] at hkr
        cases hkr
    · obtain ⟨hj1, oj, hoj, hjall⟩ := mem_ready.1 hj
      have hjl : j < l.length := by simpa using (Array.getElem?_eq_some_iff.1 hoj).1
      have hoj' : l[j]? = some oj := by simpa using hoj
      have hjL : j ∈ L := (hmem j).2 ⟨hjl, hj1⟩
      obtain ⟨pre, post, rfl⟩ := List.append_of_mem hjL
      have hpre : ∀ i ∈ pre, i < j := fun i hi => by
        have := List.pairwise_append.1 hsort
        exact this.2.2 i hi j (by simp)
      have hdep : ∀ e ∈ oj.after.toList, Region.binds .any e = true → listed.getD e.on false = true := fun e he hb => hjall e (by simpa using he) hb
      have hap : ∀ i ∈ pre, (∀ oi, l.toArray[i]? = some oi → oi.apart l.toArray oj = true) ∧ ¬ ((E i = true ∨ F i = true) ∧ E j = true) ∧ ancB l j i = false ∧ ancB l i j = false := fun i hi => by
        have hi1 := (hmem i).1 (by simp [hi])
        have hif : listed.getD i false = false := by
          have h1 := hi1.2
          rw [Array.getD_eq_getD_getElem?] at h1 ⊢
          rw [Array.getElem?_eq_getElem (by omega)] at h1 ⊢
          simpa using h1
        have hnb : ¬ ((ancGo l #[]).getD j 0).testBit i = true := fun hb => by
          have := anc_sound (ops := l.toArray) hcl l #[] (by simp) (by simp) (fun k _ hk => ⟨l[k]'(by simpa using hk), by simp at hk; simp [hk]⟩) (by simp) j oj hoj (by simpa using hjl) hdep i hb
          rw [hif] at this
          cases this
        refine ⟨fun oi hoi => ?_, fun ⟨e1, e2⟩ => ?_, ?_, ?_⟩
        · obtain ⟨hor, -⟩ := hpair i j oi oj (hpre i hi) (by simpa using hoi) hoj'
          rcases hor with ⟨e, he, hb, heq⟩ | hap
          · have := hdep e he hb
            rw [heq, hif] at this
            cases this
          · exact hap
        · obtain ⟨-, hch⟩ := hpair i j (l[i]'hi1.1) oj (hpre i hi) (by simp [hi1.1]) hoj'
          exact hnb (hch e1 e2)
        · unfold ancB
          rw [Bool.and_eq_false_iff]
          exact .inr (by simpa using hnb)
        · unfold ancB
          rw [Bool.and_eq_false_iff]
          refine .inl ?_
          cases hb : Nat.blt j i with
          | false => rfl
          | true => have := Nat.le_of_ble_eq_true hb; have := hpre i hi; omega
      have hmem' : ∀ i, i ∈ pre ++ post ↔ i < l.length ∧ (listed.setIfInBounds j true).getD i true = false := fun i => by
        have hnd : i ∈ pre ++ post ↔ i ∈ pre ++ j :: post ∧ i ≠ j := by
          have hq := List.pairwise_append.1 hsort
          have hq2 := List.pairwise_cons.1 hq.2.1
          constructor
          · intro hi
            refine ⟨by rcases List.mem_append.1 hi with hi | hi <;> simp [hi], fun heq => ?_⟩
            subst heq
            rcases List.mem_append.1 hi with hi | hi
            · exact Nat.lt_irrefl _ (hpre _ hi)
            · exact Nat.lt_irrefl _ (hq2.1 _ hi)
          · rintro ⟨hi, hne⟩
            rcases List.mem_append.1 hi with hi | hi
            · simp [hi]
            · rcases List.mem_cons.1 hi with hi | hi
              · exact absurd hi hne
              · simp [hi]
        rw [hnd, hmem i]
        by_cases hij : j = i
        · subst hij
          have hset : (listed.setIfInBounds j true).getD j true = true := by
            rw [Array.getD_eq_getD_getElem?, Array.getElem?_setIfInBounds_self_of_lt (by omega)]; rfl
          rw [hset]
          simp
        · rw [getD_set_ne true hij]
          constructor
          · rintro ⟨⟨h1, h2⟩, -⟩; exact ⟨h1, h2⟩
          · rintro ⟨h1, h2⟩; exact ⟨⟨h1, h2⟩, fun e => hij e.symm⟩
      have hcl' : Closed l.toArray (fun i => (listed.setIfInBounds j true).getD i false) := fun k o hk hl e he hb => by
        by_cases hkj : j = k
        · subst hkj
          rw [hoj] at hk; cases hk
          exact getD_set_true (hdep e he hb)
        · have hl' : listed.getD k false = true := by
            have := getD_set_ne (listed := listed) false hkj
            simp only [this] at hl
            exact hl
          exact getD_set_true (hcl k o hk hl' e he hb)
      have hlen' : (pre ++ post).length = m := by simp at hlen ⊢; omega
      have hsort' : (pre ++ post).Pairwise (· < ·) := by
        refine hsort.sublist ?_
        exact List.Sublist.append_left (List.sublist_cons_self _ _) _
      have next : ∀ D' fl' a' w', (∀ w1 w2, D' w1 → X w1 w2 → D' w2) → C w' → D' w' → Told Φ fl' w' → MixK P l.toArray C E F K X Φ (ancB l) (fun a w => Q .normal a w) (pre ++ post) D' fl' a' → wpAny P .any l.toArray Q m (listed.setIfInBounds j true) a' w' := fun D' fl' a' w' x0 x1 x2 x3 hm' =>
        ih (pre ++ post) (listed.setIfInBounds j true) D' fl' a' w' hlen' hsort' hmem' (by simpa using hsz) hcl' x0 x1 x2 x3 hm'
      unfold wpOp
      simp only [hoj]
      rcases pullK hs hKX hΦ hoj (hEF j oj hoj') post pre D fl a w hD hC hDw hT hap hm with ⟨v, -, hv, k⟩ | ⟨-, hW, hx, k⟩ | ⟨-, hW, k⟩
      · rcases hv with ⟨hW, hr⟩ | ⟨hW, rfl⟩
        · rw [if_pos (show Region.wanted _ _ = true from hW)]
          refine .inl ?_
          unfold Oper.wp
          rw [hr w hC]
          exact next _ _ _ _ hD hC hDw hT k
        · rw [if_neg (by unfold Wanted at hW; rw [hW]; exact Bool.false_ne_true)]
          exact next _ _ _ _ hD hC hDw hT k
      · rw [if_pos (show Region.wanted _ _ = true from hW)]
        refine .inl (wp_of_Eff (fun v w' hk => ?_) (hx w hC fun p hq _ => hT p hq))
        obtain ⟨h1, h2, h3⟩ := hk
        have t' : Told Φ fl w' := fun p hq => hΦ _ _ _ _ (hT p hq) (hKX _ _ h1)
        exact next _ _ _ _ hD h2 (hD _ _ hDw h1) (fun p hq => by
          rcases List.mem_cons.1 hq with rfl | hq
          · exact h3
          · exact t' p hq) (k v ⟨w', h2, hD _ _ hDw h1, t', h3⟩)
      · rw [if_pos (show Region.wanted _ _ = true from hW)]
        refine .inl (wp_of_Eff (fun v w' hk => ?_) (k w hC hDw hT))
        obtain ⟨hC', D', hX, hD', hk⟩ := hk
        rcases hk with ⟨hK, k⟩ | ⟨-, k⟩
        · exact next _ _ _ _ hX hC' hD' (fun p hq => hΦ _ _ _ _ (hT p hq) hK) k
        · exact next _ _ _ _ hX hC' hD' (fun p hq => by cases hq) k

theorem region_drawnK {id : Nat} {l : List Oper} {Q : Exit → Act → World → Prop} {a : Act} {w : World} (hm : P.follows .mixedOrders = true) (hok : regionOkK l E F = true) (hKX : ∀ w w', X w w' → K w w') (hΦ : ∀ i v w w', Φ i v w → K w w' → Φ i v w')
    (D : World → Prop) (hD : ∀ w1 w2, D w1 → X w1 w2 → D w2) (hDw : D { w with drawn := w.drawn + 1 })
    (hC : C { w with drawn := w.drawn + 1 }) (h : MixK P l.toArray C E F K X Φ (ancB l) (fun a w => Q .normal a w) (List.range l.length) D [] a) :
    (Code.region id l.toArray true).wp P Q a w := by
  refine wp_region_any hm ?_
  have := any_of_mixK (P := P) (C := C) (Q := Q) hok hKX hΦ l.length (List.range l.length) (Array.replicate l.length false) D [] a { w with drawn := w.drawn + 1 } (by simp) List.pairwise_lt_range
    (fun i => by
      rw [List.mem_range]
      constructor
      · intro hi
        refine ⟨hi, ?_⟩
        rw [Array.getD_eq_getD_getElem?, Array.getElem?_eq_getElem (by simpa using hi)]
        simp
      · exact fun hi => hi.1)
    (by simp) (fun k o _ hk e _ _ => by
      exfalso
      by_cases hlt : k < l.length
      · simp [Array.getD_eq_getD_getElem?, hlt] at hk
      · simp [Array.getD_eq_getD_getElem?, hlt] at hk) hD hC hDw (fun p hq => by cases hq) h
  simpa using this
end floats
end Go.Den

