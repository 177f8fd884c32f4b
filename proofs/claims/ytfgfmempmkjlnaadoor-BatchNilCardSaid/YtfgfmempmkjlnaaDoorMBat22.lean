/- Texts RngG to NttG of this work, joined: each says in its own head what it proves, and of which condition. -/
import Derived.Test.YtfgfmempmkjlnaaDoorMBat21
/- Package ring: the fixed calls. Condition: the table of math/bits reads as it is laid. -/
namespace Go.Proofs.YtfgfmempmkjlnaaDoor
set_option linter.unusedVariables false
set_option maxRecDepth 8000
open Go Go.Den Go.RowKit Go.Mth Go.Dig

theorem two_of {α : Type} {l : List α} (h : l.length = 2) : ∃ a b, l = [a, b] := by
  rcases l with _ | ⟨a, _ | ⟨b, _ | ⟨c, l⟩⟩⟩ <;> simp at h
  exact ⟨a, b, rfl⟩
theorem root13 {r : Nat} (h : RootR 13 4 r) : r = 5 := by
  obtain ⟨hr, w, hw, hp, ⟨j, hj, rfl⟩, hall⟩ := h
  have h0 := hall 0 (by decide)
  have h1 := hall 1 (by decide)
  have key : ∀ w, w < 13 → powm w (4 / 2) 13 = 13 - 1 → ∀ j, j < 4 / 2 → w ^ (2 * j + 1) % 13 ≤ w ^ (2 * 0 + 1) % 13 → w ^ (2 * j + 1) % 13 ≤ w ^ (2 * 1 + 1) % 13 → w ^ (2 * j + 1) % 13 = 5 := by decide
  exact key w hw hp j hj h0 h1
theorem isB13 : isB 13 = true := by decide +kernel
theorem qok5 : QOk 1 5 := ⟨by decide, by decide, by decide, isB5, 2, by decide, by decide, by decide⟩
theorem qok13 : QOk 1 13 := ⟨by decide, by decide, by decide, isB13, 2, by decide, by decide, by decide⟩
theorem mul5 {t : Tbl} {rs : List Nat} (K : TblOk t) (hL : t.L = 1) (hq : t.q = 5) (hR : RootR t.q 4 t.w) (P : Prd t [0, 1] [0, 1] rs) : rs = [4, 0] := by
  obtain ⟨L, q, w, u, p, vr, vu⟩ := t
  dsimp only at hL hq hR
  subst hL hq
  have hw := root5 hR
  subst hw
  exact prd_eq K P (by dsimp only; decide) (by
    intro k hk
    rcases (show k = 0 ∨ k = 1 by change k < 2 at hk; omega) with rfl | rfl <;> exact cgd (by dsimp only; decide))
theorem mul13 {t : Tbl} {rs : List Nat} (K : TblOk t) (hL : t.L = 1) (hq : t.q = 13) (hR : RootR t.q 4 t.w) (P : Prd t [0, 1] [0, 1] rs) : rs = [12, 0] := by
  obtain ⟨L, q, w, u, p, vr, vu⟩ := t
  dsimp only at hL hq hR
  subst hL hq
  have hw := root13 hR
  subst hw
  exact prd_eq K P (by dsimp only; decide) (by
    intro k hk
    rcases (show k = 0 ∨ k = 1 by change k < 2 at hk; omega) with rfl | rfl <;> exact cgd (by dsimp only; decide))

theorem same_two {u0 u1 v0 v1 : Value} {a b : List Nat} : ∀ (i : Nat) (x y : Value × List Nat), [(u0, a), (u1, b)][i]? = some x → [(v0, a), (v1, b)][i]? = some y → x.2 = y.2 := by
  intro i x y hx hy
  rcases i with _ | _ | i
  · cases hx; cases hy; rfl
  · cases hx; cases hy; rfl
  · cases hx
theorem short_two {u0 u1 : Value} {a b : List Nat} (ha : a.length < 1000000) (hb : b.length < 1000000) : ∀ x ∈ [(u0, a), (u1, b)], x.2.length < 1000000 := by
  intro x hx
  simp only [List.mem_cons, List.not_mem_nil, or_false] at hx
  rcases hx with rfl | rfl
  · exact ha
  · exact hb

theorem Tryd_ent35 : Ent Tryd.prog 35 := ent_of Tryd.func35 (by kernel_rfl) rfl
set_option maxHeartbeats 2000000 in
theorem fixed05_spec (h : Hp) (T : TB h) : CallsH Tryd.prog 35 [] h fun v' h' => v' = .bool true ∧ Ext h h' := by
  (apply enter Tryd.func35 rfl Tryd.ntmps35 rfl)
  refine runJ ?_
  (apply (s_litF (f := U) [5, 13] (fun _ => rfl)); exact rfl; exact rfl; exact rfl; exact rfl; exact rfl; exact rfl; exact rfl; exact rfl; omega)
  intro w1 h1 o1 e1 b1
  refine ⟨(by first | exact trivial | exact Ext.refl _ | assumption | exact Ext.trans (by assumption) (by assumption)), ?_⟩
  have NW := ringNew_spec 1 w1 [5, 13] h1 (T.ext e1) o1.sl (by decide) (by decide) (by intro q hq; simp only [List.mem_cons, List.not_mem_nil, or_false] at hq; rcases hq with rfl | rfl; exact qok5; exact qok13) (by decide) (by decide) (by decide)
  refine runJ ?_
  apply (s_call Tryd_ent57 rfl rfl rfl)
  refine (NW).mono ?_
  rintro _ h2 ⟨e2, g, R, rfl, A, K, hL, hqs⟩
  refine ⟨(by first | exact trivial | exact trivial), ?_⟩
  refine runJ ?_
  (apply (s_litF (f := I) [0, 1] (fun _ => rfl)); exact rfl; exact rfl; exact rfl; exact rfl; exact rfl; exact rfl; exact rfl; exact rfl; omega)
  intro w3 h3 o3 e3 b3
  refine ⟨(by first | exact trivial | exact Ext.refl _ | assumption | exact Ext.trans (by assumption) (by assumption)), ?_⟩
  have LF := ringLift_spec g w3 R [0, 1] 1 h3 K (A.ext e3) o3.sl (by intro x hx; simp only [List.mem_cons, List.not_mem_nil, or_false] at hx; omega) (by rw [hL]; rfl) (by rw [hqs]; decide)
  rw [hqs] at LF
  refine runJ ?_
  apply (s_call Tryd_ent43 rfl rfl rfl)
  refine (LF).mono ?_
  rintro _ h4 ⟨e4, vr, rows, p, rfl, S4, m4⟩
  refine ⟨(by first | exact trivial | exact trivial), ?_⟩
  obtain ⟨⟨v0, a0⟩, ⟨v1, a1⟩, rfl⟩ := two_of (l := rows) (by have := congrArg List.length m4; rw [List.length_map] at this; exact this)
  have m4 : [a0, a1] = [[0, 1], [0, 1]] := m4
  obtain rfl : a0 = [0, 1] := (List.cons.inj m4).1
  obtain rfl : a1 = [0, 1] := (List.cons.inj (List.cons.inj m4).2).1
  have S4 := S4.pol
  have A4 := (A.ext e3).ext e4
  have PO : PolOk R [(v0, [0, 1]), (v1, [0, 1])] := ⟨Nat.zero_lt_succ _, by rw [hqs]; exact Nat.le_refl 2, by
    intro i q x hx hq
    rw [hqs] at hq
    rw [hL]
    rcases i with _ | _ | i
    · cases hx; cases hq; exact (by decide : Fit (2 ^ 1) 5 [0, 1])
    · cases hx; cases hq; exact (by decide : Fit (2 ^ 1) 13 [0, 1])
    · cases hx⟩
  obtain ⟨⟨g0, t0⟩, ⟨g1, t1⟩, hts⟩ := two_of (l := R.ts) (by have := congrArg List.length K.map; rw [List.length_map, hqs] at this; exact this)
  have hmap := K.map
  rw [hts, hqs] at hmap
  have hmap : [t0.q, t1.q] = [5, 13] := hmap
  have hq0 : t0.q = 5 := (List.cons.inj hmap).1
  have hq1 : t1.q = 13 := (List.cons.inj (List.cons.inj hmap).2).1
  have k0 := K.ok (g0, t0) (by rw [hts]; simp)
  have k1 := K.ok (g1, t1) (by rw [hts]; simp)
  have i0 : R.ts[0]? = some (g0, t0) := by rw [hts]; rfl
  have i1 : R.ts[1]? = some (g1, t1) := by rw [hts]; rfl
  refine runJ ?_
  (apply s_alloc; exact rfl; exact rfl; exact rfl)
  intro p3 h5 x5 e5 b5
  (try dsimp only [Value.cells, List.toList_toArray] at x5)
  refine ⟨(by first | exact trivial | exact Ext.refl _ | assumption | exact Ext.trans (by assumption) (by assumption)), ?_⟩
  refine runJ ?_
  (apply s_storeV; exact rfl; exact rfl; exact rfl; exact (OneAll.cons (S4).row.one OneAll.nil : OneAll [vr]); exact rfl; exact rfl; exact x5; exact rfl)
  intro h6 x6 k6
  refine ⟨trivial, ?_⟩
  have x6 : Var h6 p3 54 [vr] := x6
  have e6 : Ext h4 h6 := k6.oldV e5 b5 (Nat.le_refl _)
  have A6 := A4.ext e6
  have S6 := S4.ext e6
  refine runJ ?_
  apply (s_call Tryd_ent40 rfl rfl rfl)
  refine (ringMul_spec g vr vr R _ _ h6 K A6 S6 S6 PO PO rfl).mono ?_
  rintro _ h7 ⟨e7, vm, mr, pm, rfl, S7, l7, P7⟩
  refine ⟨(by first | exact trivial | exact trivial), ?_⟩
  obtain ⟨⟨u0, a0⟩, ⟨u1, a1⟩, rfl⟩ := two_of (l := mr) l7
  obtain rfl : a0 = [4, 0] := mul5 k0.1 (k0.2.1.trans hL) hq0 (by have := k0.2.2; rw [hL] at this; exact this) (P7 0 _ _ _ _ rfl rfl i0 rfl)
  obtain rfl : a1 = [12, 0] := mul13 k1.1 (k1.2.1.trans hL) hq1 (by have := k1.2.2; rw [hL] at this; exact this) (P7 1 _ _ _ _ rfl rfl i1 rfl)
  have S7 := S7.pol
  have x7 := x6.ext e7
  refine runJ ?_
  (apply s_alloc; exact rfl; exact rfl; exact rfl)
  intro p5 h8 x8 e8 b8
  (try dsimp only [Value.cells, List.toList_toArray] at x8)
  refine ⟨(by first | exact trivial | exact Ext.refl _ | assumption | exact Ext.trans (by assumption) (by assumption)), ?_⟩
  refine runJ ?_
  (apply s_storeV; exact rfl; exact rfl; exact rfl; exact (OneAll.cons (S7).row.one OneAll.nil : OneAll [vm]); exact rfl; exact rfl; exact x8; exact rfl)
  intro h9 x9 k9
  refine ⟨trivial, ?_⟩
  have x9 : Var h9 p5 54 [vm] := x9
  have e9 : Ext h7 h9 := k9.oldV e8 b8 (Nat.le_refl _)
  have y9 := x7.ext e9
  have A9 := (A6.ext e7).ext e9
  have S9 := (S6.ext e7).ext e9
  refine runJ ?_
  apply (s_call Tryd_ent41 rfl rfl rfl)
  refine (turn_spec g vr R _ 3 h9 K A9 S9 PO (by decide) (by decide)).mono ?_
  rintro _ h10 ⟨e10, vt, tr, pt, rfl, S10, l10, P10⟩
  refine ⟨(by first | exact trivial | exact trivial), ?_⟩
  obtain ⟨⟨y0, c0⟩, ⟨y1, c1⟩, rfl⟩ := two_of (l := tr) l10
  obtain rfl : c0 = [0, 4] := (P10 0 5 _ _ rfl (by rw [hqs]; rfl) rfl).trans (by rw [hL]; exact (by decide : turnL (2 ^ 1) 5 3 [0, 1] = [0, 4]))
  obtain rfl : c1 = [0, 12] := (P10 1 13 _ _ rfl (by rw [hqs]; rfl) rfl).trans (by rw [hL]; exact (by decide : turnL (2 ^ 1) 13 3 [0, 1] = [0, 12]))
  have S10 := S10.pol
  have x10 := x9.ext e10
  refine runJ ?_
  (apply s_alloc; exact rfl; exact rfl; exact rfl)
  intro p7 h11 x11 e11 b11
  (try dsimp only [Value.cells, List.toList_toArray] at x11)
  refine ⟨(by first | exact trivial | exact Ext.refl _ | assumption | exact Ext.trans (by assumption) (by assumption)), ?_⟩
  refine runJ ?_
  (apply s_storeV; exact rfl; exact rfl; exact rfl; exact (OneAll.cons (S10).row.one OneAll.nil : OneAll [vt]); exact rfl; exact rfl; exact x11; exact rfl)
  intro h12 x12 k12
  refine ⟨trivial, ?_⟩
  have x12 : Var h12 p7 54 [vt] := x12
  have e12 : Ext h10 h12 := k12.oldV e11 b11 (Nat.le_refl _)
  have y12 := x10.ext e12
  refine runJ ?_
  (apply (s_litF (f := U) [4, 0] (fun _ => rfl)); exact rfl; exact rfl; exact rfl; exact rfl; exact rfl; exact rfl; exact rfl; exact rfl; omega)
  intro w13 h13 o13 e13 b13
  refine ⟨(by first | exact trivial | exact Ext.refl _ | assumption | exact Ext.trans (by assumption) (by assumption)), ?_⟩
  refine runJ ?_
  (apply (s_litF (f := U) [12, 0] (fun _ => rfl)); exact rfl; exact rfl; exact rfl; exact rfl; exact rfl; exact rfl; exact rfl; exact rfl; omega)
  intro w14 h14 o14 e14 b14
  refine ⟨(by first | exact trivial | exact Ext.refl _ | assumption | exact Ext.trans (by assumption) (by assumption)), ?_⟩
  have q13 := o13.sl.ext e14
  have o14s := o14.sl
  refine runJ ?_
  (apply (s_lit (f := Prod.fst) (vs := [w13, w14]) [(w13, [4, 0]), (w14, [12, 0])]); exact rfl; exact rfl; exact rfl; exact rfl; exact rfl; exact rfl; exact OneAll.all (OneAll.cons q13.one (OneAll.cons o14s.one OneAll.nil)); exact rfl; exact rfl; exact rfl; omega)
  intro w15 h15 o15 e15 b15
  refine ⟨(by first | exact trivial | exact Ext.refl _ | assumption | exact Ext.trans (by assumption) (by assumption)), ?_⟩
  have x15 := (y12.ext e13).ext (e14.trans e15)
  have z15 := (((x10.ext e12).ext e13).ext (e14.trans e15))
  have y15 := (((y12.ext e13).ext e14).ext e15)
  have p15 : PolAt h15 w15 [(w13, [4, 0]), (w14, [12, 0])] := ⟨o15.sl, by
    intro x hx
    simp only [List.mem_cons, List.not_mem_nil, or_false] at hx
    rcases hx with rfl | rfl
    · exact q13.ext e15
    · exact o14s.ext e15⟩
  have S7' := S7.ext (((((e9.trans e10).trans e12).trans e13).trans e14).trans e15)
  refine runJ ?_
  (apply (s_build ([w15])); exact rfl; exact rfl; exact rfl; (repeat (first | exact CellsAll.nil | (apply CellsAll.cons; (first | exact oneL (by assumption) | exact oneL (SlF.one (by assumption)) | exact oneL (SlF.one (OwnF.sl (by assumption))) | exact oneL (Var.one (by assumption)) | exact rfl)))); exact rfl; exact rfl)
  refine runJ ?_
  apply (s_call Tryd_ent58 rfl rfl rfl)
  refine (same5_spec vm w15 _ _ h15 S7' p15 rfl same_two (Nat.lt_of_lt_of_le (Nat.lt_succ_self 2) (by decide)) (short_two (by decide) (by decide))).mono ?_
  rintro _ h16 ⟨rfl, e16⟩
  refine ⟨(by first | exact trivial | exact trivial), ?_⟩
  have z16 := x12.ext (((e13.trans e14).trans e15).trans e16)
  refine runJ ?_
  (apply (s_litF (f := U) [0, 4] (fun _ => rfl)); exact rfl; exact rfl; exact rfl; exact rfl; exact rfl; exact rfl; exact rfl; exact rfl; omega)
  intro w17 h17 o17 e17 b17
  refine ⟨(by first | exact trivial | exact Ext.refl _ | assumption | exact Ext.trans (by assumption) (by assumption)), ?_⟩
  refine runJ ?_
  (apply (s_litF (f := U) [0, 12] (fun _ => rfl)); exact rfl; exact rfl; exact rfl; exact rfl; exact rfl; exact rfl; exact rfl; exact rfl; omega)
  intro w18 h18 o18 e18 b18
  refine ⟨(by first | exact trivial | exact Ext.refl _ | assumption | exact Ext.trans (by assumption) (by assumption)), ?_⟩
  have q17 := o17.sl.ext e18
  have o18s := o18.sl
  refine runJ ?_
  (apply (s_lit (f := Prod.fst) (vs := [w17, w18]) [(w17, [0, 4]), (w18, [0, 12])]); exact rfl; exact rfl; exact rfl; exact rfl; exact rfl; exact rfl; exact OneAll.all (OneAll.cons q17.one (OneAll.cons o18s.one OneAll.nil)); exact rfl; exact rfl; exact rfl; omega)
  intro w19 h19 o19 e19 b19
  refine ⟨(by first | exact trivial | exact Ext.refl _ | assumption | exact Ext.trans (by assumption) (by assumption)), ?_⟩
  have p19 : PolAt h19 w19 [(w17, [0, 4]), (w18, [0, 12])] := ⟨o19.sl, by
    intro x hx
    simp only [List.mem_cons, List.not_mem_nil, or_false] at hx
    rcases hx with rfl | rfl
    · exact q17.ext e19
    · exact o18s.ext e19⟩
  have E19 := ((((((e12.trans e13).trans e14).trans e15).trans e16).trans e17).trans e18).trans e19
  have S10' := S10.ext E19
  refine runJ ?_
  (apply (s_build ([w19])); exact rfl; exact rfl; exact rfl; (repeat (first | exact CellsAll.nil | (apply CellsAll.cons; (first | exact oneL (by assumption) | exact oneL (SlF.one (by assumption)) | exact oneL (SlF.one (OwnF.sl (by assumption))) | exact oneL (Var.one (by assumption)) | exact rfl)))); exact rfl; exact rfl)
  refine runJ ?_
  apply (s_call Tryd_ent58 rfl rfl rfl)
  refine (same5_spec vt w19 _ _ h19 S10' p19 rfl same_two (Nat.lt_of_lt_of_le (Nat.lt_succ_self 2) (by decide)) (short_two (by decide) (by decide))).mono ?_
  rintro _ h20 ⟨rfl, e20⟩
  refine ⟨(by first | exact trivial | exact trivial), ?_⟩
  refine runJ ?_
  exact fin1 rfl rfl ⟨rfl, (((((((e1.trans e2).trans e3).trans e4).trans e6).trans e7).trans e9).trans e10).trans (E19.trans e20)⟩
end Go.Proofs.YtfgfmempmkjlnaaDoor

/- Package batch: no batch at all; the powers that move slots. No condition. -/
namespace Go.Proofs.YtfgfmempmkjlnaaDoor
set_option linter.unusedVariables false
set_option maxRecDepth 8000
open Go Go.Den Go.RowKit Go.Mth Go.Dig

theorem Tryd_ent24 : Ent Tryd.prog 24 := ent_of Tryd.func24 (by kernel_rfl) rfl
theorem pack_nil (vv : Value) (h : Hp) : CallsH Tryd.prog 24 [.pointer none, vv] h fun v' h' => v' = .tuple #[.slice none 0 0, N 1] ∧ h = h' := by
  (apply enter Tryd.func24 rfl Tryd.ntmps24 rfl)
  refine runJ ?_
  exact fin2 rfl rfl rfl ⟨rfl, rfl⟩
theorem Tryd_ent25 : Ent Tryd.prog 25 := ent_of Tryd.func25 (by kernel_rfl) rfl
theorem unpack_nil (vv : Value) (h : Hp) : CallsH Tryd.prog 25 [.pointer none, vv] h fun v' h' => v' = .tuple #[.slice none 0 0, N 1] ∧ h = h' := by
  (apply enter Tryd.func25 rfl Tryd.ntmps25 rfl)
  refine runJ ?_
  exact fin2 rfl rfl rfl ⟨rfl, rfl⟩
theorem Tryd_ent30 : Ent Tryd.prog 30 := ent_of Tryd.func30 (by kernel_rfl) rfl
theorem power_nil (k : Int) (h : Hp) : CallsH Tryd.prog 30 [.pointer none, I k] h fun v' h' => v' = N 0 ∧ h = h' := by
  (apply enter Tryd.func30 rfl Tryd.ntmps30 rfl)
  refine runJ ?_
  exact fin1 rfl rfl ⟨rfl, rfl⟩

/-- The power of X that so many steps make. -/
def pow3 (n k : Nat) : Nat := 3 ^ k % (2 * n)
set_option maxHeartbeats 1000000 in
theorem power_spec (g vt vp : Value) (L t : Nat) (k : Int) (h : Hp) (G : Var h g 86 [N (2 ^ L), N (2 ^ L / 2), U t, vt, vp]) (hL : 1 ≤ L) (hL2 : L ≤ 12) (hk : -9223372036854775808 ≤ k ∧ k < 9223372036854775808) :
    CallsH Tryd.prog 30 [g, I k] h fun v' h' => v' = N (pow3 (2 ^ L) (k.emod ((2 ^ L / 2 : Nat) : Int)).toNat) ∧ h = h' := by
  have hn : 2 ≤ 2 ^ L ∧ 2 ^ L ≤ 4096 := ⟨Nat.pow_le_pow_right (n := 2) (by omega) hL, Nat.pow_le_pow_right (n := 2) (by omega) hL2⟩
  have hM : ∀ a : Nat, a &&& (2 * 2 ^ L - 1) = a % (2 * 2 ^ L) := fun a => by
    rw [show 2 * 2 ^ L = 2 ^ (L + 1) by rw [Nat.pow_succ, Nat.mul_comm]]; exact Nat.and_two_pow_sub_one_eq_mod _ _
  generalize 2 ^ L = n at *
  obtain ⟨s, hs⟩ : ∃ s, s = n / 2 := ⟨_, rfl⟩
  rw [← hs] at G ⊢
  have hs1 : 1 ≤ s := by omega
  obtain ⟨gb, hgp, -⟩ := id G
  obtain ⟨e, he, hes, htm⟩ : ∃ e : Nat, (k.emod (s : Int)).toNat = e ∧ e < s ∧ (k.tmod (s : Int) = e ∨ k.tmod (s : Int) = (e : Int) - s) := by
    have h1 := Int.emod_nonneg k (show (s : Int) ≠ 0 by omega)
    have h2 := Int.emod_lt_of_pos k (show (0 : Int) < s by omega)
    have h3 := Int.tmod_eq_emod (a := k) (b := s)
    refine ⟨(k.emod (s : Int)).toNat, rfl, ?_, ?_⟩
    · change (k % (s : Int)).toNat < s
      omega
    · change k.tmod (s : Int) = ((k % (s : Int)).toNat : Int) ∨ k.tmod (s : Int) = ((k % (s : Int)).toNat : Int) - s
      rw [h3]
      split <;> omega
  rw [he]
  (apply enter Tryd.func30 rfl Tryd.ntmps30 rfl)
  refine runJ ?_
  refine s_remI (b := (s : Int)) rfl rfl rfl (by omega) ?_
  generalize k.tmod (s : Int) = tm at *
  have hp0 : 1 = pow3 n 0 := by unfold pow3; rw [Nat.pow_zero, Nat.mod_eq_of_lt (by omega)]
  have hps : ∀ j, pow3 n j < 2 * n ∧ pow3 n j * 3 &&& (2 * n - 1) = pow3 n (j + 1) := fun j => by
    refine ⟨Nat.mod_lt _ (by omega), ?_⟩
    rw [hM]
    unfold pow3
    rw [Nat.pow_succ, Nat.mod_mul_mod]
  refine runJ ?_
  (apply w_condD; exact rfl; exact rfl) <;> intro hc
  · refine runJ ?_
    (apply w_know (t := 22) (u := N (e)) rfl (congrArg I (by omega)))
    (first | (apply w_seqB; exact rfl; apply w_block; exact rfl) | skip)
    apply (w_loop (σ := Nat) rfl (fun j => [(0, g), (5, N (pow3 n j)), (22, N e), (23, N j)]) (fun j h' => h = h' ∧ j ≤ e) (fun j => e - j) 0)
    · rw [← hp0]; exact (Sub.cons rfl (Sub.cons rfl (Sub.cons rfl (Sub.cons rfl (Sub.nil _)))))
    · exact ⟨rfl, Nat.zero_le _⟩
    rintro j h' ⟨rfl, j1⟩
    have hpj := (hps j).1
    have hpn := (hps j).2
    refine runJ ?_
    (apply w_condD; exact rfl; exact rfl) <;> intro hj
    · refine runJ ?_
      rw [hpn]
      refine runJ ?_
      apply again_normal (j + 1)
      · exact (Sub.cons rfl (Sub.cons rfl (Sub.cons rfl (Sub.cons rfl (Sub.nil _)))))
      · exact ⟨rfl, hj⟩
      · omega
    · obtain rfl : j = e := by omega
      refine runJ ?_
      exact fin1 rfl rfl ⟨rfl, rfl⟩
  · refine runJ ?_
    (apply w_know (t := 22) (u := N (e)) rfl (congrArg I (by omega)))
    (first | (apply w_seqB; exact rfl; apply w_block; exact rfl) | skip)
    apply (w_loop (σ := Nat) rfl (fun j => [(0, g), (5, N (pow3 n j)), (22, N e), (23, N j)]) (fun j h' => h = h' ∧ j ≤ e) (fun j => e - j) 0)
    · rw [← hp0]; exact (Sub.cons rfl (Sub.cons rfl (Sub.cons rfl (Sub.cons rfl (Sub.nil _)))))
    · exact ⟨rfl, Nat.zero_le _⟩
    rintro j h' ⟨rfl, j1⟩
    have hpj := (hps j).1
    have hpn := (hps j).2
    refine runJ ?_
    (apply w_condD; exact rfl; exact rfl) <;> intro hj
    · refine runJ ?_
      rw [hpn]
      refine runJ ?_
      apply again_normal (j + 1)
      · exact (Sub.cons rfl (Sub.cons rfl (Sub.cons rfl (Sub.cons rfl (Sub.nil _)))))
      · exact ⟨rfl, hj⟩
      · omega
    · obtain rfl : j = e := by omega
      refine runJ ?_
      exact fin1 rfl rfl ⟨rfl, rfl⟩
end Go.Proofs.YtfgfmempmkjlnaaDoor

/- Package batch: a row is packed. No condition. -/
namespace Go.Proofs.YtfgfmempmkjlnaaDoor
set_option linter.unusedVariables false
set_option maxRecDepth 8000
open Go Go.Den Go.RowKit Go.Mth Go.Dig

theorem cells_neq {h : Hp} {p w u : Value} {cs : List Value} {k : Nat} (s : Cells h p (u :: cs)) (hw : w.ownBlock = some k) (hk : h.size ≤ k) : pblk p ≠ w.ownBlock := fun e => by
  obtain ⟨b, o, rfl, hc⟩ := s
  have := cellH_lt (hc 0 u rfl)
  rw [hw] at e
  have e : some b = some k := e
  cases e; omega

/-- What a batch holds. -/
structure BatD where
  L : Nat
  t : Nat
  vt : Value
  T : Tbl
  vp : Value
  ps : List (Nat × Nat)
def pr2 (x : Nat × Nat) : List Value := [N x.1, N x.2]
structure BatAt (h : Hp) (g : Value) (B : BatD) : Prop where mk ::
  var : Var h g 86 [N (2 ^ B.L), N (2 ^ B.L / 2), U B.t, B.vt, B.vp]
  tab : TblAt h B.vt B.T
  pl : SlA h pr2 2 B.vp B.ps
theorem BatAt.ext {h h' : Hp} {g : Value} {B : BatD} (s : BatAt h g B) (e : Ext h h') : BatAt h' g B := ⟨s.var.ext e, s.tab.ext e, s.pl.ext e⟩
/-- Where the value of a slot, and that beneath it, stand. -/
def place (n i : Nat) : Nat × Nat := ((pow3 n i - 1) / 2, (2 * n - pow3 n i - 1) / 2)
structure BatOk (B : BatD) : Prop where mk ::
  l1 : 1 ≤ B.L
  l9 : B.L ≤ 9
  tl : B.T.L = B.L
  tq : B.T.q = B.t
  ok : TblOk B.T
  root : RootR B.t (2 ^ (B.L + 1)) B.T.w
  ps : B.ps = (List.range (2 ^ B.L / 2)).map (place (2 ^ B.L))
/-- The values of a row, each laid in its two places. -/
def layF (n t : Nat) : List Int → List Nat
  | xs => (xs.zipIdx).foldl (fun ys x => (ys.set (place n x.2).1 (liftm x.1 t)).set (place n x.2).2 (liftm x.1 t)) (List.replicate n 0)
theorem layF_snoc (n t : Nat) (xs : List Int) (x : Int) : layF n t (xs ++ [x]) = ((layF n t xs).set (place n xs.length).1 (liftm x t)).set (place n xs.length).2 (liftm x t) := by
  unfold layF
  dsimp only
  rw [List.zipIdx_append, List.foldl_append]
  simp
theorem layF_len (n t : Nat) (xs : List Int) : (layF n t xs).length = n := by
  unfold layF
  dsimp only
  suffices H : ∀ (l : List (Int × Nat)) (ys : List Nat), ys.length = n → (l.foldl (fun ys x => (ys.set (place n x.2).1 (liftm x.1 t)).set (place n x.2).2 (liftm x.1 t)) ys).length = n from H _ _ (by simp)
  intro l
  induction l with
  | nil => intro ys h; exact h
  | cons a l ih => intro ys h; rw [List.foldl_cons]; exact ih _ (by simp [h])
theorem liftm_lt9 {v : Int} {t : Nat} (ht : 0 < t) : liftm v t < t := by
  unfold liftm
  rw [if_neg (by omega)]
  have h1 := Int.emod_nonneg v (show (t : Int) ≠ 0 by omega)
  have h2 := Int.emod_lt_of_pos v (show (0 : Int) < t by omega)
  omega
theorem layF_lt {n t : Nat} (ht : 0 < t) (xs : List Int) : ∀ x ∈ layF n t xs, x < t := by
  unfold layF
  dsimp only
  suffices H : ∀ (l : List (Int × Nat)) (ys : List Nat), (∀ y ∈ ys, y < t) → ∀ y ∈ (l.foldl (fun ys x => (ys.set (place n x.2).1 (liftm x.1 t)).set (place n x.2).2 (liftm x.1 t)) ys), y < t from H _ _ (by intro y hy; have := (List.mem_replicate.1 hy).2; omega)
  intro l
  induction l with
  | nil => intro ys h; exact h
  | cons a l ih =>
    intro ys h
    rw [List.foldl_cons]
    refine ih _ fun y hy => ?_
    rcases List.mem_or_eq_of_mem_set hy with hy | rfl
    · rcases List.mem_or_eq_of_mem_set hy with hy | rfl
      · exact h y hy
      · exact liftm_lt9 ht
    · exact liftm_lt9 ht
theorem place_lt {n : Nat} (hn : 0 < n) (i : Nat) : (place n i).1 < n ∧ (place n i).2 < n := by
  have : pow3 n i < 2 * n := Nat.mod_lt _ (by omega)
  unfold place
  constructor <;> dsimp only <;> omega

set_option maxHeartbeats 1000000 in
theorem pack_spec (g vv : Value) (B : BatD) (xs : List Int) (h : Hp) (K : BatOk B) (A : BatAt h g B) (s : SlF h I vv xs) (hx : ∀ x ∈ xs, -9223372036854775808 ≤ x ∧ x < 9223372036854775808) (hl : xs.length ≤ 2 ^ B.L / 2) :
    CallsH Tryd.prog 24 [g, vv] h fun v' h' => Ext h h' ∧ ∃ r rs, v' = .tuple #[r, N 0] ∧ OwnF h' h.size 24 U r rs ∧ Bck B.T (layF (2 ^ B.L) B.t xs) rs := by
  have hn : 2 ≤ 2 ^ B.L ∧ 2 ^ B.L ≤ 512 := ⟨Nat.pow_le_pow_right (n := 2) (by omega) K.l1, Nat.pow_le_pow_right (n := 2) (by omega) K.l9⟩
  have G := A.var
  have pl := A.pl
  have hps := K.ps
  have hq61 := K.ok.q61
  have hq1 := K.ok.q1
  have htq := K.tq
  have htl := K.tl
  have Tb := A.tab
  have Tk := K.ok
  obtain ⟨L, t, vt, T, vp, ps⟩ := B
  dsimp only at G pl hps hn hl htq htl Tb Tk hq61 hq1 ⊢
  rw [htq] at hq61 hq1
  have hBk := fun va xs h => back_spec vt va T xs h Tk
  rw [htl, htq] at hBk
  generalize hnn : 2 ^ L = n at *
  obtain ⟨gb, hgp, -⟩ := id G
  (apply enter Tryd.func24 rfl Tryd.ntmps24 rfl)
  refine runJ ?_
  rw [decide_eq_false (show ¬ n / 2 < xs.length by omega)]
  refine runJ ?_
  (apply (s_make (f := U) (bytes := 8) (0)); (first | exact isK_c | exact isK_t rfl); (first | exact isK_c | exact isK_t rfl); exact rfl; exact rfl; exact rfl; exact rfl; exact rfl; exact rfl; omega; omega; omega)
  intro w1 h1 o1 e1 b1
  refine ⟨(by first | exact trivial | exact Ext.refl _ | assumption | exact Ext.trans (by assumption) (by assumption)), ?_⟩
  have s1 := s.ext e1
  have ng := G.neq (u := w1) b1 (Nat.le_refl _)
  have hpn : ps.length = n / 2 := by rw [hps]; simp
  refine runJ ?_
  (first | (apply w_seqB; exact rfl; apply w_block; exact rfl) | skip)
  apply (w_loop (σ := Nat) rfl (fun j => [(0, g), (1, vv), (6, w1), (26, vv), (27, N xs.length), (28, N j)])
    (fun j h' => Ext h h' ∧ j ≤ xs.length ∧ OwnF h' h.size 24 U w1 (layF n t (xs.take j))) (fun j => xs.length - j) 0)
  · exact (Sub.cons rfl (Sub.cons rfl (Sub.cons rfl (Sub.cons rfl (Sub.cons rfl (Sub.cons rfl (Sub.nil _)))))))
  · exact ⟨e1, Nat.zero_le _, o1⟩
  clear o1 s1
  rintro j h2 ⟨e2, j1, o2⟩
  have s2 := s.ext e2
  have G2 := G.ext e2
  have p2 := pl.ext e2
  refine runJ ?_
  (apply w_condD; exact rfl; exact rfl) <;> intro hj
  · obtain ⟨x, hxj⟩ := get_lt hj
    have hxb := hx x (List.mem_of_getElem? hxj)
    obtain ⟨y, hyj⟩ := get_lt (l := ps) (j := j) (by omega)
    have hy : y = place n j := by
      rw [hps, List.getElem?_map, List.getElem?_range (by omega)] at hyj
      exact (Option.some.inj hyj).symm
    have hlt := place_lt (n := n) (by omega) j
    rw [← hy] at hlt
    have hlen := layF_len n t (xs.take j)
    have hcl := (pl.cells hyj)
    have hnc := cells_neq (w := w1) hcl b1 (Nat.le_refl _)
    have hl1 : y.1 < (layF n t (xs.take j)).length := by omega
    have hl2 : y.2 < ((layF n t (xs.take j)).set y.1 (liftm x t)).length := by rw [List.length_set]; omega
    refine runJ ?_
    apply (s_call Tryd_ent55 rfl rfl rfl)
    refine (lift_spec x t h2 hxb (by omega)).mono ?_
    rintro _ _ ⟨rfl, rfl⟩
    refine ⟨(by first | exact trivial | exact Ext.refl _ | assumption | exact Ext.trans (by assumption) (by assumption)), ?_⟩
    refine runJN ?_
    (apply (r_drawnO (w1.ownBlock)); exact rfl; exact mixed; kernel_rfl)
    refine runJ ?_
    refine s_indexArr (p := ptrAt vp (j * 2)) (j := 0) rfl hcl.ptr isK_c rfl rfl rfl (by decide) ?_
    have hc2 := hcl.ext e2
    have hcp : isPtr (ptrAt vp (j * 2)) = true := hcl.ptr
    generalize hpj : ptrAt vp (j * 2) = pj at *
    refine runJ ?_
    refine s_indexArr (p := pj) (j := 1) (congrArg some hpj) hcp isK_c rfl rfl rfl (by decide) ?_
    refine runJ ?_
    (apply (s_storeF (liftm x t)); exact rfl; exact rfl; exact rfl; exact rfl; exact rfl; exact o2; exact rfl; (first | assumption | omega))
    intro h3 o3 k3
    refine ⟨(by first | exact k3 | exact trivial | exact Ext.refl _ | assumption | exact Ext.trans (by assumption) (by assumption)), ?_⟩
    refine runJ ?_
    (apply (s_storeF (liftm x t)); exact rfl; exact rfl; exact rfl; exact rfl; exact rfl; exact o3; exact rfl; (first | assumption | omega))
    intro h4 o4 k4
    refine ⟨(by first | exact (k3.trans k4) | exact trivial | exact Ext.refl _ | assumption | exact Ext.trans (by assumption) (by assumption)), ?_⟩
    have e4 := o2.old (k3.trans k4) e2 (Nat.le_refl _)
    have hlj : (xs.take j).length = j := by rw [List.length_take]; omega
    refine runJ ?_
    apply again_normal (j + 1)
    · exact (Sub.cons rfl (Sub.cons rfl (Sub.cons rfl (Sub.cons rfl (Sub.cons rfl (Sub.cons rfl (Sub.nil _)))))))
    · refine ⟨e4, hj, ?_⟩
      rw [take_snoc hxj, layF_snoc, hlj, ← hy]
      exact o4
    · omega
  · obtain rfl : j = xs.length := by omega
    rw [List.take_length] at o2
    have T2 := Tb.ext e2
    have o2s := o2.sl
    have hfit : Fit n t (layF n t xs) := ⟨layF_len n t xs, layF_lt (by omega) xs⟩
    refine runJ ?_
    apply (s_call Tryd_ent16 rfl rfl rfl)
    refine (hBk w1 _ h2 T2 o2s hfit).mono ?_
    rintro _ h3 ⟨e3, r3, ys, rfl, o3, B3⟩
    refine ⟨(by first | exact trivial | exact trivial), ?_⟩
    refine runJ ?_
    exact fin2 rfl rfl rfl ⟨e2.trans e3, r3, ys, rfl, o3.base e2.1, B3⟩
end Go.Proofs.YtfgfmempmkjlnaaDoor

/- Package batch: a batch of parameters. Condition: the table of math/bits reads as it is laid. -/
namespace Go.Proofs.YtfgfmempmkjlnaaDoor
set_option linter.unusedVariables false
set_option maxRecDepth 8000
open Go Go.Den Go.RowKit Go.Mth Go.Dig

theorem pow3_odd (n j : Nat) : pow3 n j % 2 = 1 := by
  unfold pow3
  rw [Nat.mod_mul_right_mod]
  induction j with
  | zero => rfl
  | succ j ih => rw [Nat.pow_succ, Nat.mul_mod, ih]
def plc (n j : Nat) : List Value := ((List.range j).map (place n)).flatMap pr2
theorem plc_succ (n j : Nat) : plc n (j + 1) = plc n j ++ pr2 (place n j) := by
  unfold plc
  rw [List.range_succ, List.map_append, List.flatMap_append]
  simp

theorem Tryd_ent23 : Ent Tryd.prog 23 := ent_of Tryd.func23 (by kernel_rfl) rfl
set_option maxHeartbeats 2000000 in
theorem batchNew_spec (p : ParD) (L : Nat) (h : Hp) (TB0 : TB h) (A : ParAt h p) (P : parP p) (hN : p.n = ((2 ^ L : Nat) : Int)) (hL1 : 1 ≤ L) (hL9 : L ≤ 9) (Q : QOk L p.t) :
    CallsH Tryd.prog 23 [.agg p.cells.toArray] h fun v' h' => Ext h h' ∧ ∃ (g : Value) (B : BatD), v' = .tuple #[g, N 0] ∧ BatAt h' g B ∧ BatOk B ∧ B.L = L ∧ B.t = p.t := by
  have CK := check_spec p
  rw [if_pos P] at CK
  obtain ⟨X, hX1, hX2, hX3⟩ := Q.root
  have NW := fun h T => nttNewX_spec L p.t X h T hL1 hL9 Q.q61 Q.qm Q.q1 Q.is hX1 hX2 hX3
  have hq61 := Q.q61
  have hq1 := Q.q1
  have hn : 2 ≤ 2 ^ L ∧ 2 ^ L ≤ 512 := ⟨Nat.pow_le_pow_right (n := 2) (by omega) hL1, Nat.pow_le_pow_right (n := 2) (by omega) hL9⟩
  have hPW := fun g vt vp t k h G => power_spec g vt vp L t k h G hL1 (by omega)
  obtain ⟨pn, t, vq, qs, pw⟩ := p
  dsimp only at hN NW hq61 hq1
  unfold ParD.cells at CK ⊢
  dsimp only at CK ⊢
  subst hN
  clear Q hX1 hX2 hX3
  generalize hnn : 2 ^ L = n at *
  (apply enter Tryd.func23 rfl Tryd.ntmps23 rfl)
  refine runJ ?_
  (apply s_box; exact rfl; exact rfl; exact rfl; exact rfl)
  intro p1 h1 x1 e1 b1
  (try dsimp only [Value.cells, List.toList_toArray] at x1)
  refine ⟨(by first | exact trivial | exact Ext.refl _ | assumption | exact Ext.trans (by assumption) (by assumption)), ?_⟩
  refine runJ ?_
  apply (s_call Tryd_ent54 rfl rfl rfl)
  refine (CK h1 (TB0.ext e1) (A.ext e1)).mono ?_
  rintro _ h2 ⟨rfl, e2⟩
  refine ⟨(by first | exact trivial | exact trivial), ?_⟩
  have x2 := x1.ext e2
  have E2 := e1.trans e2
  refine runJ ?_
  (apply (s_build ([N n, N (n / 2), U t, .pointer none, .slice none 0 0])); exact rfl; exact rfl; exact rfl; (repeat (first | exact CellsAll.nil | (apply CellsAll.cons; (first | exact oneL (by assumption) | exact oneL (SlF.one (by assumption)) | exact oneL (SlF.one (OwnF.sl (by assumption))) | exact oneL (Var.one (by assumption)) | exact rfl)))); exact rfl; exact rfl)
  refine runJ ?_
  (apply s_box; exact rfl; exact rfl; exact rfl; exact rfl)
  intro g h3 g3 e3 b3
  (try dsimp only [Value.cells, List.toList_toArray] at g3)
  refine ⟨(by first | exact trivial | exact Ext.refl _ | assumption | exact Ext.trans (by assumption) (by assumption)), ?_⟩
  have g3 : Var h3 g 86 [N n, N (n / 2), U t, .pointer none, .slice none 0 0] := g3
  have x3 := x2.ext e3
  have E3 := E2.trans e3
  refine runJ ?_
  apply (s_call Tryd_ent12 rfl rfl rfl)
  refine (NW h3 (TB0.ext E3)).mono ?_
  rintro _ h4 ⟨e4, vt, T, rfl, At, Kt, hTL, hTq, hTR, hTN⟩
  refine ⟨(by first | exact trivial | exact trivial), ?_⟩
  have g4 := g3.ext e4
  have x4 := x3.ext e4
  have Av := At.var
  refine runJ ?_
  (apply s_storeC; exact rfl; exact rfl; (first | exact rfl | exact SlF.one (by assumption) | exact SlF.one (OwnF.sl (by assumption)) | exact Var.one (by assumption)); exact rfl; exact rfl; exact g4; exact rfl)
  intro h5 g5 k5
  refine ⟨(by first | exact trivial | exact Ext.refl _ | assumption | exact Ext.only (by assumption) _ | exact Only.trans (Ext.only (by assumption) _) (by assumption)), ?_⟩
  have e5 : Ext h2 h5 := k5.oldV (e3.trans e4) b3 (Nat.le_refl _)
  have g5 : Var h5 g 86 [N n, N (n / 2), U t, vt, .slice none 0 0] := g5
  have hb23 : h2.size < h3.size := by obtain ⟨b, hb, hlb⟩ := g3.blk; rw [b3] at hb; cases hb; exact hlb
  rw [b3] at k5
  have At5 := At.only k5 (hTN.sep hb23)
  have x5 := x2.ext e5
  have hs5 := k5.1
  have hs35 : h3.size ≤ h5.size := Nat.le_trans e4.1 hs5
  have hs02 : h.size < h2.size := by obtain ⟨b, hb, hlb⟩ := x2.blk; rw [b1] at hb; cases hb; exact hlb
  clear g3 g4 x3 x4 Av At E3 k5
  refine runJ ?_
  (first | (apply w_seqB; exact rfl; apply w_block; exact rfl) | skip)
  apply (w_loop (σ := Nat × Value) rfl (fun j => [(1, p1), (5, g), (36, N (n / 2)), (37, N j.1)])
    (fun j h' => Ext h2 h' ∧ h5.size ≤ h'.size ∧ j.1 ≤ n / 2 ∧ Var h' g 86 [N n, N (n / 2), U t, vt, j.2] ∧ TblAt h' vt T ∧ Own h' h5.size 87 2 j.2 j.1 (plc n j.1)) (fun j => n / 2 - j.1) (0, .slice none 0 0))
  · exact (Sub.cons rfl (Sub.cons rfl (Sub.cons rfl (Sub.cons rfl (Sub.nil _)))))
  · exact ⟨e5, Nat.le_refl _, Nat.zero_le _, g5, At5, Own.nil _ _ _ _⟩
  rintro ⟨j, vp⟩ h6 ⟨e6, z6, j1, g6, A6, o6⟩
  dsimp only at e6 z6 j1 g6 A6 o6 ⊢
  have x6 := x2.ext e6
  refine runJ ?_
  (apply w_condD; exact rfl; exact rfl) <;> intro hj
  · have PW := hPW g vt vp t (j : Int) h6 g6 (by omega)
    rw [show ((j : Int).emod ((n / 2 : Nat) : Int)).toNat = j by change ((j : Int) % ((n / 2 : Nat) : Int)).toNat = j; rw [Int.emod_eq_of_lt (by omega) (by omega)]; rfl] at PW
    have npv : ∀ b, b < h5.size → vp.ownBlock ≠ some b := fun b hb e => by
      have := o6.blk b e; omega
    have ngv : pblk g ≠ vp.ownBlock := by rw [b3]; exact fun e => npv _ (by omega) e.symm
    have nxv : pblk p1 ≠ vp.ownBlock := by rw [b1]; exact fun e => npv _ (by omega) e.symm
    have hk1 := pow3_odd n j
    have hk2 : pow3 n j < 2 * n := Nat.mod_lt _ (by omega)
    have hpl : place n j = ((pow3 n j - 1) / 2, (2 * n - pow3 n j - 1) / 2) := rfl
    have hps := plc_succ n j
    rw [hpl] at hps
    generalize pow3 n j = k at *
    refine runJ ?_
    apply (s_call Tryd_ent30 rfl rfl rfl)
    refine (PW).mono ?_
    rintro _ _ ⟨rfl, rfl⟩
    refine ⟨(by first | exact trivial | exact trivial), ?_⟩
    refine runJN ?_
    (apply (r_drawnT 20 (Only vp.ownBlock h6)); exact rfl; exact mixed; kernel_rfl; exact rfl; first | exact Ext.refl _ | exact Only.refl _ _)
    refine runJ ?_
    have hts : TblSep vp.ownBlock (vt, T) := by
      rcases hv : vp.ownBlock with _ | b
      · exact At5.sep0
      · exact At5.lt Kt (o6.blk b hv).1
    refine s_buildArr [N ((k - 1) / 2), N ((2 * n - k - 1) / 2)] rfl rfl rfl rfl (.cons rfl (.cons rfl .nil)) rfl rfl ?_
    refine runJ ?_
    (apply (s_litC (s := 2) ([N ((k - 1) / 2), N ((2 * n - k - 1) / 2)])); exact rfl; (repeat (first | exact CellsAll.nil | (apply CellsAll.cons; exact rfl))); exact rfl; exact rfl; exact rfl; exact rfl; exact rfl; exact rfl; exact rfl; exact rfl; exact rfl; exact rfl)
    intro w7 h7 o7 e7 b7
    refine ⟨e7.only _, ?_⟩
    have o67 := o6.ext e7
    refine runJ ?_
    refine s_append (bytes := 16) (s := 2) (k' := 1) rfl rfl rfl rfl rfl (by decide) rfl rfl o67 o7.sl rfl (by intro u hu; simp only [List.mem_cons, List.not_mem_nil, or_false] at hu; rcases hu with rfl | rfl <;> rfl) (Nat.le_trans z6 e7.1) (by simp only [maxLen]; omega) (by omega) ?_
    intro v8 h8 o8 k8 b8
    have k68 := (e7.only vp.ownBlock).trans k8
    refine ⟨k68, ?_⟩
    have g8 := g6.only k68 ngv
    have A8 := A6.only k68 hts
    have e8 : Ext h2 h8 := o6.old k68 e6 (Nat.le_trans (Nat.le_of_lt hb23) hs35)
    have s8 := o8.sl.one
    refine runJ ?_
    apply tail_end
    refine runJ ?_
    (apply s_storeC; exact rfl; exact rfl; exact s8; exact rfl; exact rfl; exact g8; exact rfl)
    intro h9 g9 k9
    refine ⟨trivial, ?_⟩
    have g9 : Var h9 g 86 [N n, N (n / 2), U t, vt, v8] := g9
    have e9 : Ext h2 h9 := k9.oldV e8 b3 (Nat.le_refl _)
    rw [b3] at k9
    have A9 := A8.only k9 (hTN.sep hb23)
    have o9 := o8.only k9 (.inr fun e => by have := (o8.blk _ e).1; omega)
    refine runJ ?_
    apply again_normal (j + 1, v8)
    · exact (Sub.cons rfl (Sub.cons rfl (Sub.cons rfl (Sub.cons rfl (Sub.nil _)))))
    · refine ⟨e9, Nat.le_trans z6 (Nat.le_trans k68.1 k9.1), hj, g9, A9, ?_⟩
      dsimp only
      rw [hps]
      exact o9
    · dsimp only; omega
  · obtain rfl : j = n / 2 := by omega
    refine runJ ?_
    refine fin2 rfl rfl rfl ⟨(e1.trans e2).trans e6, g, ⟨L, t, vt, T, vp, (List.range (n / 2)).map (place n)⟩, rfl, ⟨?_, A6, ?_⟩, ⟨hL1, hL9, hTL, hTq, Kt, hTR, ?_⟩, rfl, rfl⟩
    · dsimp only; rw [hnn]; exact g6
    · refine ⟨fun x => rfl, ?_⟩
      have := o6.sl
      dsimp only
      rw [List.length_map, List.length_range]
      exact this
    · dsimp only; rw [hnn]
end Go.Proofs.YtfgfmempmkjlnaaDoor

/- Plain facts for the laws of package ntt: fast powers, the three primes. No condition. -/
namespace Go.Proofs.YtfgfmempmkjlnaaDoor
set_option linter.unusedVariables false
set_option maxRecDepth 8000
open Go Go.Den Go.RowKit Go.Mth

def fp (m : Nat) : Nat → Nat → Nat → Nat
  | 0, _, _ => 1 % m
  | f + 1, a, n => if n = 0 then 1 % m else if n % 2 = 1 then a * fp m f (a * a % m) (n / 2) % m else fp m f (a * a % m) (n / 2)
theorem fp_eq (m : Nat) : ∀ f a n, n < 2 ^ f → fp m f a n = a ^ n % m
  | 0, a, n, h => by
    obtain rfl : n = 0 := by rw [Nat.pow_zero] at h; omega
    rfl
  | f + 1, a, n, h => by
    unfold fp
    by_cases h0 : n = 0
    · rw [if_pos h0, h0, Nat.pow_zero]
    rw [if_neg h0, fp_eq m f _ _ (by rw [Nat.pow_succ] at h; omega)]
    have e : (a * a % m) ^ (n / 2) % m = a ^ (2 * (n / 2)) % m := by rw [← Nat.pow_mod, Nat.pow_mul, Nat.pow_two]
    rw [e]
    by_cases h1 : n % 2 = 1
    · rw [if_pos h1, Nat.mul_mod_mod, ← Nat.pow_succ', show (2 * (n / 2)).succ = n by omega]
    · rw [if_neg h1, show 2 * (n / 2) = n by omega]
theorem powm_fp {a n m : Nat} (hn : n < 18446744073709551616) (hm : m ≠ 0) : powm a n m = fp m 64 a n := by
  unfold powm; rw [if_neg hm, fp_eq m 64 a n hn]

def holdsF (n d s a : Nat) : Bool := a % n == 0 || (fp n 64 (a % n) d == 1 || (fp n 64 (a % n) d == n - 1 || holdsLoop n (s - 1) (fp n 64 (a % n) d)))
def isF (n : Nat) : Bool := if n < 4 ∨ n % 2 = 0 then n == 2 || n == 3 else bases.all (holdsF n ((n - 1) / 2 ^ tz (n - 1)) (tz (n - 1)))
theorem isB_fast {n : Nat} (hn : n < 18446744073709551616) (h0 : n ≠ 0) : isB n = isF n := by
  unfold isB isF
  have hd : (n - 1) / 2 ^ tz (n - 1) < 18446744073709551616 := Nat.lt_of_le_of_lt (Nat.div_le_self _ _) (by omega)
  have : holdsB n ((n - 1) / 2 ^ tz (n - 1)) (tz (n - 1)) = holdsF n ((n - 1) / 2 ^ tz (n - 1)) (tz (n - 1)) := by
    funext a
    unfold holdsB holdsF
    rw [powm_fp hd h0]
  rw [this]

def q3 : List Nat := [12289, 40961, 1152921504606830593]
def x3 : List Nat := [11, 3, 5]
theorem is3 : isB 12289 = true ∧ isB 40961 = true ∧ isB 1152921504606830593 = true :=
  ⟨(isB_fast (by decide) (by decide)).trans (by decide +kernel), (isB_fast (by decide) (by decide)).trans (by decide +kernel), (isB_fast (by decide) (by decide)).trans (by decide +kernel)⟩
def facts (r : Nat) (q X : Nat) : Bool := Nat.beq (q % (2 * 2 ^ (r + 1))) 1 && Nat.beq (fp q 64 (fp q 64 X ((q - 1) / 2 ^ (r + 2))) (2 ^ (r + 2) / 2)) (q - 1)
theorem facts9 : ∀ r, r < 9 → facts r (q3.getD (r % 3) 0) (x3.getD (r % 3) 0) = true := by decide +kernel
theorem prime3 {r : Nat} (hr : r < 9) : ∃ q X, q3[r % 3]? = some q ∧ q < 2305843009213693952 ∧ 1 < q ∧ isB q = true ∧ q % (2 * 2 ^ (r + 1)) = 1 ∧ 2 ≤ X ∧ X < 18446744073709551615 ∧ powm (powm X ((q - 1) / 2 ^ (r + 2)) q) (2 ^ (r + 2) / 2) q = q - 1 := by
  have hf := facts9 r hr
  have h2 : (2 : Nat) ^ (r + 2) ≤ 2 ^ 10 := Nat.pow_le_pow_right (by decide) (by omega)
  obtain ⟨q, hq, X, hX, b⟩ : ∃ q, q3[r % 3]? = some q ∧ ∃ X, x3.getD (r % 3) 0 = X ∧ q < 2305843009213693952 ∧ 1 < q ∧ isB q = true ∧ 2 ≤ X ∧ X < 18446744073709551615 := by
    rcases (show r % 3 = 0 ∨ r % 3 = 1 ∨ r % 3 = 2 by omega) with h | h | h <;> rw [h]
    · exact ⟨_, rfl, _, rfl, by decide, by decide, is3.1, by decide, by decide⟩
    · exact ⟨_, rfl, _, rfl, by decide, by decide, is3.2.1, by decide, by decide⟩
    · exact ⟨_, rfl, _, rfl, by decide, by decide, is3.2.2, by decide, by decide⟩
  rw [getD_of hq, hX] at hf
  obtain ⟨b1, b2, b3, b4, b5⟩ := b
  unfold facts at hf
  simp only [Bool.and_eq_true] at hf
  refine ⟨q, X, hq, b1, b2, b3, Nat.eq_of_beq_eq_true hf.1, b4, b5, ?_⟩
  rw [powm_fp (a := X) (by have := Nat.div_le_self (q - 1) (2 ^ (r + 2)); omega) (by omega), powm_fp (by omega) (by omega)]
  exact Nat.eq_of_beq_eq_true hf.2

/-- There and back. -/
theorem val_bck {t : Tbl} (K : TblOk t) {xs ys zs : List Nat} (hx : Fit (2 ^ t.L) t.q xs) (h1 : Val t xs ys) (h2 : Bck t ys zs) : zs = xs :=
  lists_cg (by rw [h2.1.1, hx.1]) h2.1.2 hx.2 fun p hp => by
    have hp' : p < 2 ^ t.L := by rw [← h2.1.1]; exact hp
    exact (h2.2 p hp').trans ((idft_cg (fun j hj => h1.2 j hj) p).trans (idft_dft K.cw K.cuw K.cp (gt xs) hp'))
theorem bck_val {t : Tbl} (K : TblOk t) {xs ys zs : List Nat} (hx : Fit (2 ^ t.L) t.q xs) (h1 : Bck t xs ys) (h2 : Val t ys zs) : zs = xs :=
  lists_cg (by rw [h2.1.1, hx.1]) h2.1.2 hx.2 fun p hp => by
    have hp' : p < 2 ^ t.L := by rw [← h2.1.1]; exact hp
    exact (h2.2 p hp').trans ((dft_cg (fun j hj => h1.2 j hj) p).trans (dft_idft K.cw K.cuw K.cp (gt xs) hp'))

/-- A row cut to n words below q. -/
def cutL (xs : List Nat) (n q : Nat) : List Nat := (List.range n).map fun i => if i < xs.length then xs.getD i 0 % q else 0
theorem cutL_fit (xs : List Nat) {n q : Nat} (hq : 0 < q) : Fit n q (cutL xs n q) := ⟨by unfold cutL; simp, fun x hx => by
  unfold cutL at hx
  obtain ⟨i, -, rfl⟩ := List.mem_map.1 hx
  split
  · exact Nat.mod_lt _ hq
  · exact hq⟩
theorem cutL_get {xs : List Nat} {n q k : Nat} (hk : k < n) : (cutL xs n q)[k]? = some (if k < xs.length then xs.getD k 0 % q else 0) := by
  unfold cutL; rw [List.getElem?_map, List.getElem?_range hk]; rfl
end Go.Proofs.YtfgfmempmkjlnaaDoor
