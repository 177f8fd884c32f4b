/- Texts NttJ to OpenT of this work, joined: each says in its own head what it proves, and of which condition. -/
import Derived.Test.YtfgfmempmkjlnaaDoorMNtt18
import Derived.ProofKit
import Derived.OpenShut
import Derived.ShutString
import Derived.ChangeOld
import Derived.Below
import Derived.Test.YtfgfmempmkjlnaaDoorRows
import Derived.LaidMore
import Derived.LaidLaws
import Derived.MakeChecks
/- The laws NttValues and NttShifts. Condition: the table of math/bits reads as it is laid. -/
namespace Go.Proofs.YtfgfmempmkjlnaaDoor
set_option linter.unusedVariables false
set_option maxRecDepth 8000
open Go Go.Den Go.RowKit Go.Mth Go.Dig

theorem sm_shift (m : Nat) (f : Nat → Int) : sm (m + 1) f = f 0 + sm m (fun j => f (j + 1)) := by
  rw [Nat.add_comm m 1, sm_app 1 m]
  congr 1
  · show (0 : Int) + f 0 = f 0
    omega
  · exact sm_congr m fun j _ => by rw [Nat.add_comm]

/-- X times a polynomial. -/
def shf (q : Nat) (xs : List Nat) : List Nat := subm 0 (xs.getD (xs.length - 1) 0) q :: xs.take (xs.length - 1)
theorem prd_shift {t : Tbl} (K : TblOk t) {xs up rs : List Nat} (hx : Fit (2 ^ t.L) t.q xs) (hup : ∀ j, j < 2 ^ t.L → gt up j = if j = 1 then 1 else 0) (h : Prd t xs up rs) : rs = shf t.q xs := by
  have hn := K.size
  have hq : 0 < t.q := by have := K.q1; omega
  obtain ⟨m, hm⟩ : ∃ m, 2 ^ t.L = m + 1 := ⟨2 ^ t.L - 1, by omega⟩
  have hxl : xs.length = m + 1 := by rw [hx.1, hm]
  have hsl : (shf t.q xs).length = m + 1 := by unfold shf; simp; omega
  have hg : ∀ j, j < m → (shf t.q xs).getD (j + 1) 0 = xs.getD j 0 := fun j hj => by
    unfold shf
    rw [List.getD_cons_succ]
    refine getD_of ?_
    rw [List.getElem?_take, if_pos (by omega)]
    exact getD_lt (by omega)
  have hg0 : (shf t.q xs).getD 0 0 = subm 0 (xs.getD m 0) t.q := by
    unfold shf
    rw [List.getD_cons_zero, hxl]; rfl
  refine prd_eq K h (fit_of (by rw [hsl, hm]) fun p hp => ?_) fun k hk => ?_
  · cases p with
    | zero => rw [hg0]; exact subm_lt hq
    | succ p => rw [hg p (by omega)]; exact fit_get hx (by omega)
  · have hw := pow_odd K.cw k
    unfold dft
    rw [hm] at hup hw ⊢
    have e1 : sm (m + 1) (fun j => gt up j * (t.w : Int) ^ (j * (2 * k + 1))) = (t.w : Int) ^ (2 * k + 1) := by
      rw [sm_single (i := 1) (m + 1) (by omega) fun j hj hne => by rw [hup j hj, if_neg hne, Int.zero_mul], hup 1 (by omega), if_pos rfl, Int.one_mul, Nat.one_mul]
    rw [e1, sm_shift]
    have e2 : sm (m + 1) (fun j => gt xs j * (t.w : Int) ^ (j * (2 * k + 1))) * (t.w : Int) ^ (2 * k + 1) = sm m (fun j => gt xs j * (t.w : Int) ^ ((j + 1) * (2 * k + 1))) + gt xs m * (t.w : Int) ^ ((m + 1) * (2 * k + 1)) := by
      rw [← sm_mulR]
      show sm m _ + _ = _
      congr 1
      · refine sm_congr m fun j _ => ?_
        rw [Int.mul_assoc, ← Int.pow_add]
        congr 2; grind
      · dsimp only
        rw [Int.mul_assoc, ← Int.pow_add]
        congr 2; grind
    rw [e2, sm_congr m (g := fun j => gt xs j * (t.w : Int) ^ ((j + 1) * (2 * k + 1))) fun j hj => by unfold gt; rw [hg j hj], Int.add_comm]
    refine (Cg.refl _ _).add ?_
    have h0 : Cg t.q (gt (shf t.q xs) 0) (-(gt xs m)) := by
      unfold gt; rw [hg0]
      exact (cg_subm hq _ _).trans (Cg.of_eq (by simp))
    refine (h0.mul (Cg.refl _ _)).trans (Cg.symm ?_)
    refine ((Cg.refl _ (gt xs m)).mul hw).trans (Cg.of_eq ?_)
    rw [Nat.zero_mul, Int.pow_zero]; omega

theorem val_prd {t : Tbl} (K : TblOk t) {xs ys ps us vs ws : List Nat} (hp : Prd t xs ys ps) (hu : Val t xs us) (hv : Val t ys vs) (hw : Val t ps ws) {j : Nat} (hj : j < 2 ^ t.L) : ws.getD j 0 = mulm (us.getD j 0) (vs.getD j 0) t.q := by
  have hq : 0 < t.q := by have := K.q1; omega
  have h1 : Cg t.q (gt ws j) (((mulm (us.getD j 0) (vs.getD j 0) t.q : Nat)) : Int) :=
    (hw.2 j hj).trans ((hp.2 j hj).trans (((hu.2 j hj).symm.mul (hv.2 j hj).symm).trans (cg_mulm hq _ _).symm))
  exact h1.eqN (fit_get hw.1 hj) (mulm_lt hq)

theorem Tryd_ent4 : Ent Tryd.prog 4 := ent_of Tryd.func4 (by kernel_rfl) rfl
set_option maxHeartbeats 4000000 in
theorem nttValues_law (k : Nat) (va vb : Value) (xs ys : List Nat) (h : Hp) (T : TB h) (s : SlF h U va xs) (sb : SlF h U vb ys) (hal : Al 18446744073709551616 xs) (hbl : Al 18446744073709551616 ys) (hl : xs.length < 9223372036854775808) (hl2 : ys.length < 9223372036854775808) :
    CallsH Tryd.prog 4 [.int .u8 (k : Int), va, vb] h fun v' h' => v' = .bool true ∧ Ext h h' := by
  obtain ⟨r, hr⟩ : ∃ r, k % 9 = r := ⟨_, rfl⟩
  have hr9 : r < 9 := by omega
  obtain ⟨q, X, hq3, hq, hq1, hB, hqm, hX, hX2, hx⟩ := prime3 hr9
  have hm3 : r % 3 = k % 3 := by omega
  have hp2 : 2 ^ r ≤ 2 ^ 8 := Nat.pow_le_pow_right (by decide) (by omega)
  have hp0 : 0 < 2 ^ r := Nat.two_pow_pos _
  have NW := fun h T => nttNew_spec (r + 1) q X h T (by omega) (by omega) hq hqm hq1 hB hX hX2 hx
  rw [hm3] at hq3
  have e2 : 2 ^ (r + 1) = 2 * 2 ^ r := by rw [Nat.pow_succ, Nat.mul_comm]
  have hNL : ∀ L, L = r + 1 → 2 ^ L = 2 * 2 ^ r := fun L hL => by rw [hL, e2]
  rw [e2] at NW
  have hq3 : [12289, 40961, 1152921504606830593][k % 3]? = some q := hq3
  (apply enter Tryd.func4 rfl Tryd.ntmps4 rfl)
  refine runJ ?_
  apply (s_call Tryd_ent11 rfl rfl rfl)
  refine (fixed04_spec h T).mono ?_
  rintro _ h1 ⟨rfl, e1⟩
  refine ⟨(by first | exact trivial | exact trivial), ?_⟩
  refine runJ ?_
  apply s_remU8 (isK_t rfl) isK_c rfl (by decide)
  rw [hr]
  refine runJ ?_
  (apply (s_litF (f := U) [12289, 40961, 1152921504606830593] (fun _ => rfl)); exact rfl; exact rfl; exact rfl; exact rfl; exact rfl; exact rfl; exact rfl; exact rfl; omega)
  intro w2 h2 o2 e12 b2
  refine ⟨(by first | exact trivial | exact Ext.refl _ | assumption | exact Ext.trans (by assumption) (by assumption)), ?_⟩
  have s2 := o2.sl
  refine runJ ?_
  apply s_remU8 (isK_t rfl) isK_c rfl (by decide)
  refine runJ ?_
  have e02 := e1.trans e12
  apply (s_call Tryd_ent12 rfl rfl rfl)
  refine (NW h2 (T.ext e02)).mono ?_
  rintro _ h3 ⟨e3, g, t, rfl, A, K, hL, hqt, -⟩
  refine ⟨(by first | exact trivial | exact trivial), ?_⟩
  have e03 := e02.trans e3
  have s3 := s.ext e03
  have hN := hNL _ hL
  subst hqt
  have sb3 := sb.ext e03
  refine runJ ?_
  (apply s_splitG; exact rfl; exact rfl; exact rfl; exact rfl) <;> intro hlen
  · refine runJ ?_
    apply (s_call Tryd_ent13 rfl rfl rfl)
    refine (refCheckW_spec (2 * 2 ^ r) t.q h3 (by omega) (by omega) (by omega)).mono ?_
    rintro _ h4 ⟨⟨e, rfl⟩, e4⟩
    refine ⟨(by first | exact trivial | exact trivial), ?_⟩
    refine runJ ?_
    (apply s_splitG; exact rfl; exact rfl; exact rfl; exact rfl) <;> intro he
    · refine runJ ?_
      exact fin1 rfl rfl ⟨rfl, e03.trans e4⟩
    · refine runJ ?_
      (apply s_splitG; exact rfl; exact rfl; exact rfl; exact rfl) <;> intro h5
      · refine runJ ?_
        exact fin1 rfl rfl ⟨rfl, e03.trans e4⟩
      · exact absurd hlen h5
  refine runJ ?_
  (apply w_condD; exact rfl; exact rfl) <;> intro hlen2
  · refine runJ ?_
    apply (s_call Tryd_ent13 rfl rfl rfl)
    refine (refCheckW_spec (2 * 2 ^ r) t.q h3 (by omega) (by omega) (by omega)).mono ?_
    rintro _ h4 ⟨⟨e, rfl⟩, e4⟩
    refine ⟨(by first | exact trivial | exact trivial), ?_⟩
    refine runJ ?_
    (apply s_splitG; exact rfl; exact rfl; exact rfl; exact rfl) <;> intro he
    · refine runJ ?_
      exact fin1 rfl rfl ⟨rfl, e03.trans e4⟩
    · refine runJ ?_
      (apply s_splitG; exact rfl; exact rfl; exact rfl; exact rfl) <;> intro h5
      · refine runJ ?_
        exact fin1 rfl rfl ⟨rfl, e03.trans e4⟩
      · refine runJ ?_
        exact fin1 rfl rfl ⟨(dec_t hlen2).symm, e03.trans e4⟩
  refine runJ ?_
  have hq0 : 0 < t.q := by omega
  have CU := cut_spec va xs (2 * 2 ^ r) t.q h3 s3 hal hl (by omega) hq0 (by omega)
  have CV := fun h s => cut_spec vb ys (2 * 2 ^ r) t.q h s hbl hl2 (by omega) hq0 (by omega)
  have hF : Fit (2 ^ t.L) t.q (cutL xs (2 * 2 ^ r) t.q) := by rw [hN]; exact cutL_fit xs hq0
  have hG : Fit (2 ^ t.L) t.q (cutL ys (2 * 2 ^ r) t.q) := by rw [hN]; exact cutL_fit ys hq0
  generalize cutL xs (2 * 2 ^ r) t.q = x at *
  generalize cutL ys (2 * 2 ^ r) t.q = y at *
  have Vv := fun h v ys A s f => values_spec g v t ys h K A s f
  apply (s_call Tryd_ent14 rfl rfl rfl)
  refine (CU).mono ?_
  rintro w4 h4 ⟨e4, o4⟩
  refine ⟨(by first | exact trivial | exact trivial), ?_⟩
  refine runJ ?_
  apply (s_call Tryd_ent14 rfl rfl rfl)
  refine (CV h4 (sb3.ext e4)).mono ?_
  rintro w5 h5 ⟨e5, o5⟩
  refine ⟨(by first | exact trivial | exact trivial), ?_⟩
  have A5 := (A.ext e4).ext e5
  have s4 := o4.sl.ext e5
  have s5 := o5.sl
  refine runJ ?_
  apply (s_call Tryd_ent18 rfl rfl rfl)
  refine (nttMul_spec g w4 w5 t x y h5 K A5 s4 s5 hF hG).mono ?_
  rintro _ h6 ⟨e6, w6, ps, rfl, o6, P6⟩
  refine ⟨(by first | exact trivial | exact trivial), ?_⟩
  have A6 := A5.ext e6
  refine runJ ?_
  apply (s_call Tryd_ent15 rfl rfl rfl)
  refine (Vv h6 w4 x A6 (s4.ext e6) hF).mono ?_
  rintro _ h7 ⟨e7, w7, us, rfl, o7, V7⟩
  refine ⟨(by first | exact trivial | exact trivial), ?_⟩
  have A7 := A6.ext e7
  refine runJ ?_
  apply (s_call Tryd_ent15 rfl rfl rfl)
  refine (Vv h7 w5 y A7 ((s5.ext e6).ext e7) hG).mono ?_
  rintro _ h8 ⟨e8, w8, vs, rfl, o8, V8⟩
  refine ⟨(by first | exact trivial | exact trivial), ?_⟩
  have A8 := A7.ext e8
  refine runJ ?_
  apply (s_call Tryd_ent15 rfl rfl rfl)
  refine (Vv h8 w6 ps A8 ((o6.sl.ext e7).ext e8) P6.1).mono ?_
  rintro _ h9 ⟨e9, w9, ws, rfl, o9, V9⟩
  refine ⟨(by first | exact trivial | exact trivial), ?_⟩
  have e39 := ((((e4.trans e5).trans e6).trans e7).trans e8).trans e9
  have s7 := (o7.sl.ext e8).ext e9
  have s8 := o8.sl.ext e9
  have s9 := o9.sl
  have l7 := V7.1.1
  have l8 := V8.1.1
  have l9 := V9.1.1
  have hVP := fun j hj => val_prd (j := j) K P6 V7 V8 V9 hj
  refine runJ ?_
  (apply w_condF; exact rfl; exact rfl; exact (show ¬ ws.length ≠ 2 * 2 ^ r by omega))
  refine runJ ?_
  (first | (apply w_seqB; exact rfl; apply w_block; exact rfl) | skip)
  apply (w_loop (σ := Nat) rfl (fun j => [(8, U t.q), (15, w7), (17, w8), (19, w9), (118, N ws.length), (119, N j)])
    (fun j h' => h9 = h' ∧ j ≤ ws.length) (fun j => ws.length - j) 0)
  · exact (Sub.cons rfl (Sub.cons rfl (Sub.cons rfl (Sub.cons rfl (Sub.cons rfl (Sub.cons rfl (Sub.nil _)))))))
  · exact ⟨rfl, Nat.zero_le _⟩
  rintro j h' ⟨rfl, j1⟩
  refine runJ ?_
  (apply w_condD; exact rfl; exact rfl) <;> intro hj
  · obtain ⟨a, ha⟩ := get_lt (l := us) (j := j) (by omega)
    obtain ⟨b, hb⟩ := get_lt (l := vs) (j := j) (by omega)
    obtain ⟨c, hc⟩ := get_lt (l := ws) (j := j) hj
    have haq := V7.1.2 a (List.mem_of_getElem? ha)
    have hbq := V8.1.2 b (List.mem_of_getElem? hb)
    have hc2 := hVP j (by omega)
    rw [getD_of ha, getD_of hb, getD_of hc] at hc2
    refine runJ ?_
    apply (s_call Tryd_ent19 rfl rfl rfl)
    refine (refMul_spec a b t.q h9 (by omega) (by omega) (by omega)).mono ?_
    rintro _ _ ⟨rfl, rfl⟩
    refine ⟨(by first | exact trivial | exact Ext.refl _ | assumption | exact Ext.trans (by assumption) (by assumption)), ?_⟩
    refine runJ ?_
    (apply w_condF; exact rfl; exact rfl; exact (show ¬ c ≠ mulm a b t.q from fun k => k hc2))
    refine runJ ?_
    apply again_normal (j + 1)
    · exact (Sub.cons rfl (Sub.cons rfl (Sub.cons rfl (Sub.cons rfl (Sub.cons rfl (Sub.cons rfl (Sub.nil _)))))))
    · exact ⟨rfl, hj⟩
    · omega
  · refine runJ ?_
    exact fin1 rfl rfl ⟨rfl, e03.trans e39⟩

theorem Tryd_ent6 : Ent Tryd.prog 6 := ent_of Tryd.func6 (by kernel_rfl) rfl
set_option maxHeartbeats 4000000 in
theorem nttShifts_law (k : Nat) (va : Value) (xs : List Nat) (h : Hp) (T : TB h) (s : SlF h U va xs) (hal : Al 18446744073709551616 xs) (hl : xs.length < 9223372036854775808) :
    CallsH Tryd.prog 6 [.int .u8 (k : Int), va] h fun v' h' => v' = .bool true ∧ Ext h h' := by
  obtain ⟨r, hr⟩ : ∃ r, k % 9 = r := ⟨_, rfl⟩
  have hr9 : r < 9 := by omega
  obtain ⟨q, X, hq3, hq, hq1, hB, hqm, hX, hX2, hx⟩ := prime3 hr9
  have hm3 : r % 3 = k % 3 := by omega
  have hp2 : 2 ^ r ≤ 2 ^ 8 := Nat.pow_le_pow_right (by decide) (by omega)
  have hp0 : 0 < 2 ^ r := Nat.two_pow_pos _
  have NW := fun h T => nttNew_spec (r + 1) q X h T (by omega) (by omega) hq hqm hq1 hB hX hX2 hx
  rw [hm3] at hq3
  have e2 : 2 ^ (r + 1) = 2 * 2 ^ r := by rw [Nat.pow_succ, Nat.mul_comm]
  have hNL : ∀ L, L = r + 1 → 2 ^ L = 2 * 2 ^ r := fun L hL => by rw [hL, e2]
  rw [e2] at NW
  have hq3 : [12289, 40961, 1152921504606830593][k % 3]? = some q := hq3
  (apply enter Tryd.func6 rfl Tryd.ntmps6 rfl)
  refine runJ ?_
  apply (s_call Tryd_ent11 rfl rfl rfl)
  refine (fixed04_spec h T).mono ?_
  rintro _ h1 ⟨rfl, e1⟩
  refine ⟨(by first | exact trivial | exact trivial), ?_⟩
  refine runJ ?_
  apply s_remU8 (isK_t rfl) isK_c rfl (by decide)
  rw [hr]
  refine runJ ?_
  (apply (s_litF (f := U) [12289, 40961, 1152921504606830593] (fun _ => rfl)); exact rfl; exact rfl; exact rfl; exact rfl; exact rfl; exact rfl; exact rfl; exact rfl; omega)
  intro w2 h2 o2 e12 b2
  refine ⟨(by first | exact trivial | exact Ext.refl _ | assumption | exact Ext.trans (by assumption) (by assumption)), ?_⟩
  have s2 := o2.sl
  refine runJ ?_
  apply s_remU8 (isK_t rfl) isK_c rfl (by decide)
  refine runJ ?_
  have e02 := e1.trans e12
  apply (s_call Tryd_ent12 rfl rfl rfl)
  refine (NW h2 (T.ext e02)).mono ?_
  rintro _ h3 ⟨e3, g, t, rfl, A, K, hL, hqt, -⟩
  refine ⟨(by first | exact trivial | exact trivial), ?_⟩
  have e03 := e02.trans e3
  have s3 := s.ext e03
  have hN := hNL _ hL
  subst hqt
  refine runJ ?_
  (apply w_condD; exact rfl; exact rfl) <;> intro hlen
  · refine runJ ?_
    apply (s_call Tryd_ent13 rfl rfl rfl)
    refine (refCheckW_spec (2 * 2 ^ r) t.q h3 (by omega) (by omega) (by omega)).mono ?_
    rintro _ h4 ⟨⟨e, rfl⟩, e4⟩
    refine ⟨(by first | exact trivial | exact trivial), ?_⟩
    refine runJ ?_
    (apply s_splitG; exact rfl; exact rfl; exact rfl; exact rfl) <;> intro he
    · refine runJ ?_
      exact fin1 rfl rfl ⟨rfl, e03.trans e4⟩
    · refine runJ ?_
      exact fin1 rfl rfl ⟨(dec_t hlen).symm, e03.trans e4⟩
  refine runJ ?_
  have hq0 : 0 < t.q := by omega
  have CU := cut_spec va xs (2 * 2 ^ r) t.q h3 s3 hal hl (by omega) hq0 (by omega)
  have hF : Fit (2 ^ t.L) t.q (cutL xs (2 * 2 ^ r) t.q) := by rw [hN]; exact cutL_fit xs hq0
  generalize cutL xs (2 * 2 ^ r) t.q = x at *
  have h12 : 1 % (2 * 2 ^ r) = 1 := Nat.mod_eq_of_lt (by omega)
  have hxn : x.length = 2 * 2 ^ r := by rw [hF.1, hN]
  generalize hnn : 2 * 2 ^ r = n at *
  apply (s_call Tryd_ent14 rfl rfl rfl)
  refine (CU).mono ?_
  rintro w4 h4 ⟨e4, o4⟩
  refine ⟨(by first | exact trivial | exact trivial), ?_⟩
  have s4 := o4.sl
  refine runJ ?_
  (apply (s_make (f := U) (bytes := 8) (0)); (first | exact isK_c | exact isK_t rfl); (first | exact isK_c | exact isK_t rfl); exact rfl; exact rfl; exact rfl; exact rfl; exact rfl; exact rfl; omega; omega; omega)
  intro w5 h5 o5 e5 b5
  refine ⟨(by first | exact trivial | exact Ext.refl _ | assumption | exact Ext.trans (by assumption) (by assumption)), ?_⟩
  have s5 := o5.sl
  have hrl : 1 < (List.replicate n 0).length := by rw [List.length_replicate]; omega
  refine runJ ?_
  rw [h12]
  refine runJ ?_
  (apply (s_storeF (f := U) (1 : Nat)); exact rfl; exact rfl; exact rfl; exact rfl; exact rfl; exact o5; exact rfl; exact hrl)
  intro h6 o6 k6
  refine ⟨trivial, ?_⟩
  have e46 : Ext h4 h6 := o5.old k6 e5 (Nat.le_refl _)
  have A6 := (A.ext e4).ext e46
  have hup : ∀ j, j < 2 ^ t.L → gt ((List.replicate n 0).set 1 1) j = if j = 1 then 1 else 0 := fun j hj => by
    unfold gt
    rw [getD_set (by rw [List.length_replicate]; omega)]
    by_cases h1 : j = 1
    · rw [if_pos h1, if_pos h1]; rfl
    · rw [if_neg h1, if_neg h1, getD_of (x := 0) (by rw [List.getElem?_replicate, if_pos (by omega)])]; rfl
  have hfu : Fit (2 ^ t.L) t.q ((List.replicate n 0).set 1 1) := fit_of (by rw [List.length_set, List.length_replicate, hN]) fun j hj => by
    have h1 := hup j hj
    unfold gt at h1
    by_cases h2 : j = 1
    · rw [if_pos h2] at h1; omega
    · rw [if_neg h2] at h1; omega
  generalize (List.replicate n 0).set 1 1 = up at *
  clear s5 o5
  refine runJ ?_
  apply (s_call Tryd_ent18 rfl rfl rfl)
  refine (nttMul_spec g w4 w5 t x up h6 K A6 (s4.ext e46) o6.sl hF hfu).mono ?_
  rintro _ h7 ⟨e7, w7, ps, rfl, o7, P7⟩
  refine ⟨(by first | exact trivial | exact trivial), ?_⟩
  have hps := prd_shift K hF hup P7
  have s47 := s4.ext (e46.trans e7)
  obtain ⟨z, hz⟩ := get_lt (l := x) (j := n - 1) (by omega)
  have hzq := hF.2 z (List.mem_of_getElem? hz)
  refine runJ ?_
  apply (s_call Tryd_ent20 rfl rfl rfl)
  refine (refSub_spec 0 z t.q h7 (by omega) (by omega) (by omega)).mono ?_
  rintro _ _ ⟨rfl, rfl⟩
  refine ⟨Ext.refl _, ?_⟩
  refine runJ ?_
  (apply (s_litF (f := U) [subm 0 z t.q] (fun _ => rfl)); exact rfl; exact rfl; exact rfl; exact rfl; exact rfl; exact rfl; exact rfl; exact rfl; omega)
  intro w8 h8 o8 e8 b8
  refine ⟨(by first | exact trivial | exact Ext.refl _ | assumption | exact Ext.trans (by assumption) (by assumption)), ?_⟩
  have c8 := (s47.ext e8).cut (lo := 0) (hi := n - 1) (Nat.zero_le _) (by omega)
  rw [List.drop_zero, Nat.sub_zero] at c8
  have hl1 : [subm 0 z t.q].length = 1 := rfl
  have hl2 : (x.take (n - 1)).length ≤ n := by rw [List.length_take]; omega
  refine runJ ?_
  (apply (s_appendF (bytes := 8)); exact rfl; exact rfl; exact rfl; exact rfl; exact rfl; exact rfl; exact rfl; exact o8; exact c8; exact fun _ => rfl; (first | exact Nat.le_refl _ | exact ext_size (by assumption) | omega); ((try simp only [maxLen]); (try simp only [List.length_nil]); (try simp only [List.length_append]); omega); ((try simp only [List.length_nil]); (try simp only [List.length_append]); omega))
  intro w9 h9 o9 k9 b9
  refine ⟨(by first | exact (o8.old k9 e8 (Nat.le_refl _)) | exact trivial | exact Ext.refl _ | assumption | exact Ext.trans (by assumption) (by assumption)), ?_⟩
  have e79 : Ext h7 h9 := o8.old k9 e8 (Nat.le_refl _)
  have hsh : [subm 0 z t.q] ++ x.take (n - 1) = shf t.q x := by unfold shf; rw [hxn, getD_of hz]; rfl
  rw [hsh, ← hps] at o9
  have hpl : ps.length < 9223372036854775808 := by rw [P7.1.1, hN]; omega
  refine runJ ?_
  apply (s_call Tryd_ent17 rfl rfl rfl)
  refine (sameU9_spec w7 w9 ps ps h9 (o7.sl.ext e79) o9.sl hpl hpl).mono ?_
  rintro _ _ ⟨rfl, rfl⟩
  refine ⟨(by first | exact trivial | exact Ext.refl _ | assumption | exact Ext.trans (by assumption) (by assumption)), ?_⟩
  rw [decide_eq_true rfl]
  refine runJ ?_
  exact fin1 rfl rfl ⟨rfl, (((e03.trans e4).trans e46).trans e7).trans e79⟩
end Go.Proofs.YtfgfmempmkjlnaaDoor

/- What an argument that came in reads as: from the kit's reading of data to rows and variables of the own calculus. No condition. -/
namespace Go.Den
set_option linter.unusedVariables false
set_option maxRecDepth 8000
open Go Go.RowKit Go.ChangeShapes Go.WideShapes

/-- The cells read as data of the type. -/
def Opn (P : Program) (w : World) (t : TypeId) (cs : List Value) : Prop := ∃ (H : Type) (enc : TypeId × Value → H) (fuel : Nat) (x : DataW H × List MemPlace), DataW.trod enc P w 0 (fun _ => true) true fuel t cs = some x

theorem opn_of {P : Program} {w : World} {t : TypeId} {v : Value} {H : Type} {enc : TypeId × Value → H} {d : DataW H} {ps : List MemPlace} (h : DataW.Trod enc P w 0 (fun _ => true) true t v d ps) : Opn P w t v.cells.toList := by
  obtain ⟨fuel, hf⟩ := h
  exact ⟨H, enc, fuel, _, hf⟩

section
variable {P : Program} {w : World} {t : TypeId} {cs : List Value}

theorem Opn.bool (ht : P.underlying t = some .bool) (h : Opn P w t cs) : ∃ b, cs = [.bool b] := by
  obtain ⟨H, enc, fuel, x, h⟩ := h
  obtain ⟨b, h1, -⟩ := DataW.trod_bool ht h
  exact ⟨b, h1⟩
theorem Opn.int {k : IntKind} (ht : P.underlying t = some (.int k)) (h : Opn P w t cs) : ∃ n, cs = [.int k n] ∧ (Lit.int k n).wf = true := by
  obtain ⟨H, enc, fuel, x, h⟩ := h
  obtain ⟨n, h1, -, h2⟩ := DataW.trod_int ht h
  exact ⟨n, h1, h2⟩
theorem Opn.struct {fs : Array Field} (ht : P.underlying t = some (.struct fs)) (h : Opn P w t cs) : cs.length = P.cellsOf t ∧ ∀ (i : Nat) (f : Field), fs[i]? = some f → Opn P w f.type ((cs.drop f.offset).take (P.cellsOf f.type)) := by
  obtain ⟨H, enc, fuel, x, h⟩ := h
  obtain ⟨xs, n, -, -, h1, h2, h3⟩ := DataW.trod_struct ht h
  refine ⟨h1, fun i f hf => ?_⟩
  have hi : i < xs.length := by rw [h2]; exact (Array.getElem?_eq_some_iff.1 hf).1
  exact ⟨H, enc, n, xs[i], by rw [h3 i f hf]; simp [hi]⟩
/-- A slice: its cells, an element's worth at a time, read as data. -/
theorem Opn.slice {e : TypeId} {s : Nat} (ht : P.underlying t = some (.slice e)) (hs : P.cellsOf e = s) (hs0 : 0 < s) (h : Opn P w t cs) :
    ∃ v n es, cs = [v] ∧ Sl w.heap v n es ∧ es.length = n * s ∧ n ≤ maxLen ∧ ∀ i, i < n → Opn P w e ((es.drop (i * s)).take s) := by
  obtain ⟨H, enc, fuel, x, h⟩ := h
  rcases DataW.trod_slice ht h with ⟨rfl, -⟩ | ⟨a, len, cap, elems, rest, n, -, rfl, -, -, hl, hm, hlen, hel, -, -⟩
  · exact ⟨_, 0, [], rfl, Sl.nil _, by simp, Nat.zero_le _, fun i hi => by omega⟩
  · rw [hs] at hel
    have each : ∀ i, i < len → ∃ c, w.cells? 0 (a.add (i * s)) s = some c ∧ c.length = s ∧ Opn P w e c := fun i hi => by
      have h1 := hel i hi
      rw [List.getElem?_eq_getElem (by omega)] at h1
      cases hc : w.cells? 0 (a.add (i * s)) s with
      | none => rw [hc] at h1; cases h1
      | some c =>
        rw [hc] at h1
        refine ⟨c, rfl, (World.cells?_some hc).2.1, H, enc, n, _, h1⟩
    by_cases h0 : len = 0
    · subst h0
      exact ⟨_, 0, [], rfl, Sl.empty _ a cap, by simp, Nat.zero_le _, fun i hi => by omega⟩
    · have cellAt : ∀ i r, i < len → r < s → ∀ c, w.cells? 0 (a.add (i * s)) s = some c → w.cell? (a.add (i * s + r)) = c[r]? := fun i r hi hr c hc => by
        rw [← Addr.add_add]; exact (World.cells?_some hc).2.2 r hr
      have hspot : a.spot = none := by
        obtain ⟨c, hc, hcl, -⟩ := each 0 (by omega)
        have := cellAt 0 0 (by omega) hs0 c hc
        rw [List.getElem?_eq_getElem (by omega)] at this
        have e0 : a.add (0 * s + 0) = a := by simp [Addr.add]
        rw [e0] at this
        unfold World.cell? at this
        split at this
        · split at this
          · cases this
          · rename_i hsp; simpa using hsp
        · cases this
      obtain ⟨b, o, sp⟩ := a
      simp only at hspot
      subst hspot
      have total : ∀ j, j < len * s → ∃ u, w.cell? ((⟨b, o, none⟩ : Addr).add j) = some u := fun j hj => by
        have hi : j / s < len := (Nat.div_lt_iff_lt_mul hs0).2 hj
        have hr : j % s < s := Nat.mod_lt _ hs0
        obtain ⟨c, hc, hcl, -⟩ := each (j / s) hi
        have := cellAt (j / s) (j % s) hi hr c hc
        rw [List.getElem?_eq_getElem (by omega), Nat.mul_comm (j / s) s, Nat.div_add_mod] at this
        exact ⟨_, this⟩
      refine ⟨_, len, (List.range (len * s)).map (fun j => (w.cell? ((⟨b, o, none⟩ : Addr).add j)).getD undef), rfl, .inr ⟨b, o, cap, rfl, hl, fun j u hu => ?_⟩, by simp, Nat.le_trans hl hm, fun i hi => ?_⟩
      · rw [List.getElem?_map] at hu
        by_cases hj : j < len * s
        · rw [List.getElem?_range hj] at hu
          obtain ⟨u', hu'⟩ := total j hj
          rw [Option.map_some, hu', Option.getD_some] at hu
          cases hu
          rw [Addr.add_lit, cell?_cellH] at hu'
          exact hu'
        · rw [List.getElem?_eq_none (by simpa using hj)] at hu; cases hu
      · obtain ⟨c, hc, hcl, ho⟩ := each i hi
        have e : ((List.map (fun j => (w.cell? ((⟨b, o, none⟩ : Addr).add j)).getD undef) (List.range (len * s))).drop (i * s)).take s = c := by
          have hle : i * s + s ≤ len * s := by rw [← Nat.succ_mul]; exact Nat.mul_le_mul_right _ hi
          apply List.ext_getElem?
          intro r
          rw [List.getElem?_take]
          by_cases hr : r < s
          · rw [if_pos hr, List.getElem?_drop, List.getElem?_map, List.getElem?_range (by omega)]
            have := cellAt i r hi hr c hc
            rw [Option.map_some, this, List.getElem?_eq_getElem (by omega)]; rfl
          · rw [if_neg hr, List.getElem?_eq_none (by omega)]
        rw [e]; exact ho
end

/-! ### words -/
theorem nat_of_lit {n : Int} (h : (Lit.int .u64 n).wf = true) : ∃ m : Nat, n = (m : Int) ∧ m < 18446744073709551616 := by
  have := bounds_u64 h
  exact ⟨n.toNat, by omega, by omega⟩

def wordOf : Option Value → Nat
  | some (.int _ z) => z.toNat
  | _ => 0
theorem opn_words {P : Program} {w : World} {t e : TypeId} {cs : List Value} (ht : P.underlying t = some (.slice e)) (he : P.underlying e = some (.int .u64)) (hc : P.cellsOf e = 1) (h : Opn P w t cs) :
    ∃ v xs, cs = [v] ∧ SlF w.heap U v xs ∧ Dig.Al 18446744073709551616 xs ∧ xs.length ≤ maxLen := by
  obtain ⟨v, n, es, h1, h2, h3, h4, h5⟩ := h.slice ht hc Nat.zero_lt_one
  have key : ∀ i, i < n → ∃ m : Nat, es[i]? = some (U m) ∧ m < 18446744073709551616 := fun i hi => by
    obtain ⟨z, hz, hw⟩ := (h5 i hi).int he
    obtain ⟨m, rfl, hm⟩ := nat_of_lit hw
    refine ⟨m, ?_, hm⟩
    rw [Nat.mul_one] at hz
    have : (es.drop i)[0]? = some (U m) := by
      have h0 : ((es.drop i).take 1)[0]? = some (U m) := by rw [hz]; rfl
      rwa [List.getElem?_take, if_pos (by omega)] at h0
    rwa [List.getElem?_drop, Nat.add_zero] at this
  have hxs : es = ((List.range n).map fun i => wordOf es[i]?).map U := by
    apply List.ext_getElem?
    intro i
    by_cases hi : i < n
    · obtain ⟨m, hm, -⟩ := key i hi
      rw [List.getElem?_map, List.getElem?_map, List.getElem?_range hi]
      simp [hm, wordOf]
    · rw [List.getElem?_eq_none (by omega), List.getElem?_eq_none (by simp; omega)]
  refine ⟨v, (List.range n).map fun i => wordOf es[i]?, h1, ?_, ?_, by simpa using h4⟩
  · unfold SlF
    rw [← hxs]; simpa using h2
  · intro x hx
    obtain ⟨i, hi, rfl⟩ := List.mem_map.1 hx
    obtain ⟨m, hm, hlt⟩ := key i (List.mem_range.1 hi)
    rw [hm]
    simpa [wordOf] using hlt

/-- A struct of a bool and a row of words. -/
theorem opn_boolwords {P : Program} {w : World} {t tb tn e : TypeId} {cs : List Value} {f0 f1 : Field} (ht : P.underlying t = some (.struct #[f0, f1])) (h0 : (f0.type, f0.offset, P.cellsOf f0.type) = (tb, 0, 1)) (h1 : (f1.type, f1.offset, P.cellsOf f1.type) = (tn, 1, 1))
    (hb : P.underlying tb = some .bool) (hn : P.underlying tn = some (.slice e)) (he : P.underlying e = some (.int .u64)) (hc : P.cellsOf e = 1) (hz : P.cellsOf t = 2) (h : Opn P w t cs) :
    ∃ b v xs, cs = [.bool b, v] ∧ SlF w.heap U v xs ∧ Dig.Al 18446744073709551616 xs := by
  obtain ⟨g1, g2⟩ := h.struct ht
  simp only [Prod.mk.injEq] at h0 h1
  have o0 := g2 0 f0 (by simp)
  have o1 := g2 1 f1 (by simp)
  rw [h0.2.1, h0.2.2, h0.1] at o0
  rw [h1.2.1, h1.2.2, h1.1] at o1
  obtain ⟨b, e0⟩ := o0.bool hb
  obtain ⟨v, xs, e1, s, al, -⟩ := opn_words hn he hc o1
  refine ⟨b, v, xs, ?_, s, al⟩
  rw [hz] at g1
  match cs, g1 with
  | [c0, c1], _ =>
    simp at e0 e1
    rw [e0, e1]
theorem arg_words {P : Program} {w : World} {t e : TypeId} {v : Value} (ht : P.underlying t = some (.slice e)) (he : P.underlying e = some (.int .u64)) (hc : P.cellsOf e = 1) (hv : ∃ a len cap, v = .slice a len cap) (h : Opn P w t v.cells.toList) :
    ∃ xs, SlF w.heap U v xs ∧ Dig.Al 18446744073709551616 xs ∧ xs.length ≤ maxLen := by
  obtain ⟨a, len, cap, rfl⟩ := hv
  obtain ⟨v, xs, e1, h2⟩ := opn_words ht he hc h
  simp [Value.cells] at e1
  subst e1
  exact ⟨xs, h2⟩
theorem arg_boolwords {P : Program} {w : World} {t tb tn e : TypeId} {v : Value} {f0 f1 : Field} (ht : P.underlying t = some (.struct #[f0, f1])) (h0 : (f0.type, f0.offset, P.cellsOf f0.type) = (tb, 0, 1)) (h1 : (f1.type, f1.offset, P.cellsOf f1.type) = (tn, 1, 1))
    (hb : P.underlying tb = some .bool) (hn : P.underlying tn = some (.slice e)) (he : P.underlying e = some (.int .u64)) (hc : P.cellsOf e = 1) (hz : P.cellsOf t = 2) (hv : ∃ cs, v = .agg cs) (h : Opn P w t v.cells.toList) :
    ∃ b a xs, v = .agg #[.bool b, a] ∧ SlF w.heap U a xs ∧ Dig.Al 18446744073709551616 xs := by
  obtain ⟨cs, rfl⟩ := hv
  obtain ⟨b, a, xs, e1, h2, h3⟩ := opn_boolwords ht h0 h1 hb hn he hc hz h
  exact ⟨b, a, xs, by simp only [Value.cells] at e1; rw [show cs = #[.bool b, a] from Array.toList_inj.1 e1], h2, h3⟩
end Go.Den

/- What an argument that came in reads as: rows of ints, rows of rows, rows of structs. No condition. -/
namespace Go.Den
set_option linter.unusedVariables false
set_option maxRecDepth 8000
open Go Go.RowKit Go.ChangeShapes Go.WideShapes

theorem chunks {α : Type} {f : α → List Value} {R : α → Prop} {s : Nat} : ∀ (n : Nat) (es : List Value), es.length = n * s → (∀ i, i < n → ∃ x, (es.drop (i * s)).take s = f x ∧ R x) → ∃ xs : List α, xs.length = n ∧ es = xs.flatMap f ∧ ∀ x ∈ xs, R x
  | 0, es, hl, _ => ⟨[], rfl, by simpa using hl, by simp⟩
  | n + 1, es, hl, h => by
    obtain ⟨x, hx, hr⟩ := h 0 (by omega)
    rw [Nat.zero_mul, List.drop_zero] at hx
    have hl' : (es.drop s).length = n * s := by rw [List.length_drop, hl, Nat.succ_mul]; omega
    obtain ⟨xs, h1, h2, h3⟩ := chunks (f := f) (R := R) n (es.drop s) hl' (fun i hi => by
      obtain ⟨y, hy, hr⟩ := h (i + 1) (by omega)
      refine ⟨y, ?_, hr⟩
      rw [List.drop_drop, show s + i * s = (i + 1) * s by rw [Nat.succ_mul]; omega]
      exact hy)
    refine ⟨x :: xs, by simp [h1], ?_, ?_⟩
    · rw [List.flatMap_cons, ← h2, ← hx, List.take_append_drop]
    · intro y hy
      rcases List.mem_cons.1 hy with rfl | hy
      · exact hr
      · exact h3 y hy

def ib64 (z : Int) : Prop := -9223372036854775808 ≤ z ∧ z < 9223372036854775808
section
variable {P : Program} {w : World} {t e : TypeId} {cs : List Value}
theorem Opn.i64 (ht : P.underlying t = some (.int .i64)) (h : Opn P w t cs) : ∃ n, cs = [I n] ∧ ib64 n := by
  obtain ⟨n, h1, h2⟩ := h.int ht
  exact ⟨n, h1, by have := bounds_i64 h2; unfold ib64; omega⟩
theorem Opn.rowA {α : Type} {f : α → List Value} {R : α → Prop} {s : Nat} (ht : P.underlying t = some (.slice e)) (hs : P.cellsOf e = s) (hs0 : 0 < s) (hf : ∀ x, (f x).length = s) (h : Opn P w t cs) (he : ∀ c, Opn P w e c → ∃ x, c = f x ∧ R x) :
    ∃ v xs, cs = [v] ∧ SlA w.heap f s v xs ∧ (∀ x ∈ xs, R x) ∧ xs.length ≤ maxLen := by
  obtain ⟨v, n, es, h1, h2, h3, h4, h5⟩ := h.slice ht hs hs0
  obtain ⟨xs, g1, g2, g3⟩ := chunks (f := f) (R := R) n es h3 (fun i hi => he _ (h5 i hi))
  subst g1
  exact ⟨v, xs, h1, ⟨hf, by rw [← g2]; exact h2⟩, g3, h4⟩
theorem flat_one {α : Type} (f : α → Value) (xs : List α) : xs.flatMap (fun x => [f x]) = xs.map f := by
  induction xs with
  | nil => rfl
  | cons x xs ih => rw [List.flatMap_cons, ih]; rfl
theorem SlA.one' {α : Type} {f : α → Value} {h : Hp} {v : Value} {xs : List α} (s : SlA h (fun x => [f x]) 1 v xs) : SlF h f v xs := by
  have := s.2
  rw [flat_one] at this
  exact this
theorem Opn.ints (ht : P.underlying t = some (.slice e)) (he : P.underlying e = some (.int .i64)) (hc : P.cellsOf e = 1) (h : Opn P w t cs) :
    ∃ v xs, cs = [v] ∧ SlF w.heap I v xs ∧ (∀ x ∈ xs, ib64 x) ∧ xs.length ≤ maxLen := by
  obtain ⟨v, xs, h1, h2, h3, h4⟩ := h.rowA (f := fun x => [I x]) (R := ib64) ht hc Nat.zero_lt_one (fun _ => rfl) (fun c hc => Opn.i64 he hc)
  exact ⟨v, xs, h1, h2.one', h3, h4⟩
/-- A row of int, told with its front. -/
def RowI (h : Hp) (x : Value × List Int) : Prop := SlF h I x.1 x.2 ∧ (∀ z ∈ x.2, ib64 z) ∧ x.2.length ≤ maxLen
theorem Opn.introws {e2 : TypeId} (ht : P.underlying t = some (.slice e)) (he : P.underlying e = some (.slice e2)) (he2 : P.underlying e2 = some (.int .i64)) (hc : P.cellsOf e = 1) (hc2 : P.cellsOf e2 = 1) (h : Opn P w t cs) :
    ∃ v xs, cs = [v] ∧ SlF w.heap Prod.fst v xs ∧ (∀ x ∈ xs, RowI w.heap x) ∧ xs.length ≤ maxLen := by
  obtain ⟨v, xs, h1, h2, h3, h4⟩ := h.rowA (f := fun x : Value × List Int => [x.1]) (R := RowI w.heap) ht hc Nat.zero_lt_one (fun _ => rfl) (fun c hc => by
    obtain ⟨v, xs, g1, g2, g3, g4⟩ := Opn.ints he he2 hc2 hc
    exact ⟨(v, xs), g1, g2, g3, g4⟩)
  exact ⟨v, xs, h1, h2.one', h3, h4⟩
theorem arg_ints {v : Value} (ht : P.underlying t = some (.slice e)) (he : P.underlying e = some (.int .i64)) (hc : P.cellsOf e = 1) (hv : ∃ a len cap, v = .slice a len cap) (h : Opn P w t v.cells.toList) :
    ∃ xs, SlF w.heap I v xs ∧ (∀ x ∈ xs, ib64 x) ∧ xs.length ≤ maxLen := by
  obtain ⟨a, len, cap, rfl⟩ := hv
  obtain ⟨v, xs, e1, h2⟩ := h.ints ht he hc
  simp [Value.cells] at e1
  subst e1
  exact ⟨xs, h2⟩
theorem arg_introws {e2 : TypeId} {v : Value} (ht : P.underlying t = some (.slice e)) (he : P.underlying e = some (.slice e2)) (he2 : P.underlying e2 = some (.int .i64)) (hc : P.cellsOf e = 1) (hc2 : P.cellsOf e2 = 1) (hv : ∃ a len cap, v = .slice a len cap) (h : Opn P w t v.cells.toList) :
    ∃ xs, SlF w.heap Prod.fst v xs ∧ (∀ x ∈ xs, RowI w.heap x) ∧ xs.length ≤ maxLen := by
  obtain ⟨a, len, cap, rfl⟩ := hv
  obtain ⟨v, xs, e1, h2⟩ := h.introws ht he he2 hc hc2
  simp [Value.cells] at e1
  subst e1
  exact ⟨xs, h2⟩
/-- A part of a struct. -/
theorem Opn.part {fs : Array Field} {tt : TypeId} {off s : Nat} (ht : P.underlying t = some (.struct fs)) (i : Nat) (hi : (fs[i]?).map (fun f => (f.type, f.offset, P.cellsOf f.type)) = some (tt, off, s)) (h : Opn P w t cs) : Opn P w tt ((cs.drop off).take s) := by
  obtain ⟨-, g2⟩ := h.struct ht
  cases hf : fs[i]? with
  | none => rw [hf] at hi; cases hi
  | some f =>
    rw [hf] at hi
    simp only [Option.map_some, Option.some.injEq, Prod.mk.injEq] at hi
    obtain ⟨rfl, rfl, rfl⟩ := hi
    exact g2 i f hf
theorem Opn.width {fs : Array Field} {s : Nat} (ht : P.underlying t = some (.struct fs)) (hc : P.cellsOf t = s) (h : Opn P w t cs) : cs.length = s := by
  obtain ⟨g1, -⟩ := h.struct ht
  rw [g1, hc]
end
end Go.Den

/- What the listed table reads as when the call begins. No condition. -/
namespace Go.Proofs.YtfgfmempmkjlnaaDoor
set_option linter.unusedVariables false
set_option maxRecDepth 8000
open Go Go.Den Go.RowKit Go.ChangeShapes Go.WideShapes

def laidL : List (String × DataW Unit) := [("math/bits.deBruijn64tab", Rows.laid_math_bits_deBruijn64tab)]
theorem laid_eq : (Rows.laid_math_bits_deBruijn64tab : DataW Unit) = .agg (tzT.map fun b => .lit (.int .u8 ((b : Nat) : Int))) := rfl
theorem gTab : Tryd.prog.globalNamed "math/bits.deBruijn64tab" = some 2 := by kernel_rfl
theorem tTab : (Tryd.prog.globals[2]?).map (·.type) = some 122 := by kernel_rfl
theorem tb_of_laid {W : World} (h : laidMetH Tryd.prog laidL W) : TB W.heap := by
  rw [MakeChecks.laidMetH_plain _ _ _ (by kernel_rfl)] at h
  obtain ⟨ps, ⟨g0, t0, cs0, f0, p0, q0, hg0, ht0, hv0, hd0, hrest⟩, hrest2⟩ := h
  obtain rfl := Option.some.inj (gTab.symm.trans hg0)
  obtain rfl := Option.some.inj (tTab.symm.trans ht0)
  rw [laid_eq] at hd0
  obtain ⟨xs, m1, -, hx1, hlen, hn, hel⟩ := DataW.trod_array Tryd.underlying122 hd0
  have c5 : Tryd.prog.cellsOf 5 = 1 := by kernel_rfl
  simp only [Prod.mk.injEq, DataW.agg.injEq] at hx1
  have key : ∀ j, j < 64 → cs0.toList[j]? = some (.int .u8 ((tzT.getD j 0 : Nat) : Int)) := fun j hj => by
    have hxj : xs[j]? = some xs[j] := List.getElem?_eq_getElem (by omega)
    have h1 := hel j hj
    rw [c5, Nat.mul_one, hxj] at h1
    obtain ⟨k, e1, e2, -⟩ := DataW.trod_int Tryd.underlying5 h1
    have h2 := congrArg (fun l => l[j]?) hx1.1
    simp only [List.getElem?_map, hxj, Option.map_some] at h2
    rw [List.getElem?_eq_getElem (show j < tzT.length from hj), Option.map_some, Option.some.injEq] at h2
    rw [e2] at h2
    simp only [DataW.lit.injEq, Lit.int.injEq, true_and] at h2
    have h3 : (List.drop j cs0.toList)[0]? = some (Value.int .u8 k) := by
      have : ((List.drop j cs0.toList).take 1)[0]? = some (Value.int .u8 k) := by rw [e1]; rfl
      rwa [List.getElem?_take, if_pos (by omega)] at this
    rw [List.getElem?_drop, Nat.add_zero] at h3
    rw [h3, List.getD_eq_getElem?_getD, List.getElem?_eq_getElem (show j < tzT.length from hj), Option.getD_some, h2]
  refine ⟨_, 0, rfl, fun j u hu => ?_⟩
  rw [List.getElem?_map, Option.map_eq_some_iff] at hu
  obtain ⟨b, hb, rfl⟩ := hu
  have hj : j < 64 := (List.getElem?_eq_some_iff.1 hb).1
  have h4 := World.var?_cell hg0 hv0 j
  rw [cell?_cellH] at h4
  rw [Nat.zero_add, h4]
  have h5 := key j hj
  rw [List.getD_eq_getElem?_getD, hb, Option.getD_some] at h5
  simpa using h5

/-- The heap that the program's own start leaves meets the condition. -/
theorem door_met (os : Os) (args : Array Value) : laidMetH Tryd.prog laidL ((World.doorLaid Tryd.prog 400 os).forCall (fun _ _ => 0) ⟨#[], args, []⟩).memory :=
  laidMetH_of_parts3 (fuel := 8) (laidMet_of_run' 8 (by kernel_rfl) (by kernel_rfl)) (by kernel_rfl) (by kernel_rfl)
end Go.Proofs.YtfgfmempmkjlnaaDoor
