/- Texts PspA to RtpA of this work, joined, without what the law does not lean on. -/
import Derived.Test.YtfcmdefigldpnaaGreatDoorMCb17
namespace Go.Mth
set_option linter.unusedVariables false
set_option maxRecDepth 8000

def Pr (p : Nat) : Prop := 2 ≤ p ∧ ∀ d, d ∣ p → d = 1 ∨ d = p
theorem Pr.euclid {p a b : Nat} (h : Pr p) (k : p ∣ a * b) : p ∣ a ∨ p ∣ b := by
  rcases h.2 (Nat.gcd p a) (Nat.gcd_dvd_left p a) with h1 | h1
  · exact .inr (Nat.Coprime.dvd_of_dvd_mul_left h1 k)
  · exact .inl (h1 ▸ Nat.gcd_dvd_right p a)
theorem Pr.pow {p a : Nat} (h : Pr p) : ∀ n, p ∣ a ^ n → p ∣ a
  | 0, k => by
    rw [Nat.pow_zero] at k
    have := Nat.le_of_dvd (by decide) k
    have := h.1; omega
  | n + 1, k => by
    rw [Nat.pow_succ] at k
    rcases h.euclid k with k | k
    · exact h.pow n k
    · exact k

theorem least {n : Nat} (hn : 2 ≤ n) : ∃ p, Pr p ∧ p ∣ n ∧ ∀ d, 2 ≤ d → d ∣ n → p ≤ d := by
  have key : ∀ k, (∃ d, 2 ≤ d ∧ d ≤ k ∧ d ∣ n) → ∃ p, 2 ≤ p ∧ p ∣ n ∧ ∀ d, 2 ≤ d → d ∣ n → p ≤ d := by
    intro k
    induction k with
    | zero => rintro ⟨d, h1, h2, -⟩; omega
    | succ k ih =>
      rintro ⟨d, h1, h2, h3⟩
      by_cases hc : ∃ d, 2 ≤ d ∧ d ≤ k ∧ d ∣ n
      · exact ih hc
      · refine ⟨d, h1, h3, fun e he1 he2 => ?_⟩
        refine Classical.byContradiction fun hlt => hc ⟨e, he1, by omega, he2⟩
  obtain ⟨p, h1, h2, h3⟩ := key n ⟨n, hn, Nat.le_refl _, Nat.dvd_refl _⟩
  refine ⟨p, ⟨h1, fun d hd => ?_⟩, h2, h3⟩
  rcases Nat.lt_or_ge d 2 with hd2 | hd2
  · rcases Nat.eq_zero_or_pos d with rfl | h0
    · have := Nat.eq_zero_of_zero_dvd hd; omega
    · exact .inl (by omega)
  · exact .inr (Nat.le_antisymm (Nat.le_of_dvd (by omega) hd) (h3 d hd2 (Nat.dvd_trans hd h2)))

end Go.Mth


namespace Go.Proofs.YtfcmdefigldpnaaGreatDoor
set_option linter.unusedVariables false
set_option maxRecDepth 8000
open Go Go.Den Go.RowKit Go.Mth Go.Dig

def ctr (n : Nat) (X Y : Nat → Int) (p a b : Nat) : Int := if a + b = p then X a * Y b else if a + b = p + n then -(X a * Y b) else 0
def cnv (n : Nat) (X Y : Nat → Int) (p : Nat) : Int := sm n fun a => sm n fun b => ctr n X Y p a b
theorem cnv_dft {q w : Int} {n : Nat} (hw : Cg q (w ^ n) (-1)) (X Y : Nat → Int) (k : Nat) : Cg q (dft n w (cnv n X Y) k) (dft n w X k * dft n w Y k) := by
  have e1 : dft n w (cnv n X Y) k = sm n fun a => sm n fun b => sm n fun p => ctr n X Y p a b * w ^ (p * (2 * k + 1)) := by
    have e : dft n w (cnv n X Y) k = sm n fun p => sm n fun a => sm n fun b => ctr n X Y p a b * w ^ (p * (2 * k + 1)) := by
      unfold dft cnv
      refine sm_congr n fun p _ => ?_
      rw [← sm_mulR]
      exact sm_congr n fun a _ => (sm_mulR _ _).symm
    rw [e, sm_swap]
    exact sm_congr n fun a _ => sm_swap n n
  have e2 : dft n w X k * dft n w Y k = sm n fun a => sm n fun b => X a * w ^ (a * (2 * k + 1)) * (Y b * w ^ (b * (2 * k + 1))) := by
    unfold dft
    rw [← sm_mulR]
    exact sm_congr n fun a _ => (sm_mul _ _).symm
  rw [e1, e2]
  refine sm_cg n fun a ha => sm_cg n fun b hb => ?_
  have hp : w ^ (a * (2 * k + 1)) * w ^ (b * (2 * k + 1)) = w ^ ((a + b) * (2 * k + 1)) := by rw [Nat.add_mul, Int.pow_add]
  have e3 : X a * w ^ (a * (2 * k + 1)) * (Y b * w ^ (b * (2 * k + 1))) = X a * Y b * w ^ ((a + b) * (2 * k + 1)) := by rw [← hp]; ac_rfl
  rw [e3]
  rcases Nat.lt_or_ge (a + b) n with h | h
  · rw [sm_single (i := a + b) n h fun j hj hne => by unfold ctr; rw [if_neg (fun e => hne e.symm), if_neg (by omega), Int.zero_mul]]
    unfold ctr
    rw [if_pos rfl]
    exact Cg.refl _ _
  · rw [sm_single (i := a + b - n) n (by omega) fun j hj hne => by unfold ctr; rw [if_neg (by omega), if_neg (by omega), Int.zero_mul]]
    unfold ctr
    rw [if_neg (by omega), if_pos (by omega)]
    have e4 : w ^ ((a + b) * (2 * k + 1)) = w ^ ((a + b - n) * (2 * k + 1)) * w ^ (n * (2 * k + 1)) := by rw [← Int.pow_add, ← Nat.add_mul, Nat.sub_add_cancel h]
    rw [e4]
    have h5 := ((Cg.refl q (X a * Y b * w ^ ((a + b - n) * (2 * k + 1)))).mul (pow_odd hw k)).symm
    refine (Cg.of_eq ?_).trans (h5.trans (Cg.of_eq (Int.mul_assoc _ _ _)))
    rw [Int.mul_neg_one, Int.neg_mul]

def sl : List Int → Int
  | [] => 0
  | x :: xs => x + sl xs
def Cnv (n q : Nat) (xs ys zs : List Nat) : Prop := Fit n q zs ∧ ∀ p, p < n → Cg q (gt zs p) (cnv n (gt xs) (gt ys) p)
theorem Cnv.dft {q n : Nat} {w : Int} {xs ys zs : List Nat} (hw : Cg q (w ^ n) (-1)) (h : Cnv n q xs ys zs) (k : Nat) : Cg q (dft n w (gt zs) k) (dft n w (gt xs) k * dft n w (gt ys) k) :=
  (dft_cg h.2 k).trans (cnv_dft hw _ _ k)

theorem gt_set {xs : List Nat} {r p v : Nat} (h : p < xs.length) : gt (xs.set r v) p = if p = r then (v : Int) else gt xs p := by
  unfold gt; rw [getD_set h]; split <;> rfl
theorem cmul_step {n q : Nat} (hq : 0 < q) {i k : Nat} (hi : i < n) (hk : k < n) {out : List Nat} {S X Y : Nat → Int} {pr : Nat} (hl : out.length = n) (h : ∀ p, p < n → Cg q (gt out p) (S p)) (hp : Cg q (pr : Int) (X i * Y k)) :
    (i + k < n → ∀ p, p < n → Cg q (gt (out.set (i + k) (addm (out.getD (i + k) 0) pr q)) p) (S p + ctr n X Y p i k)) ∧
    (¬ i + k < n → ∀ p, p < n → Cg q (gt (out.set (i + k - n) (subm (out.getD (i + k - n) 0) pr q)) p) (S p + ctr n X Y p i k)) := by
  constructor <;> intro hc p hpn
  · rw [gt_set (by omega)]
    unfold ctr
    by_cases e : p = i + k
    · subst e
      rw [if_pos rfl, if_pos rfl]
      exact (cg_addm hq _ _).trans ((h _ hpn).add hp)
    · rw [if_neg e, if_neg (fun e' => e e'.symm), if_neg (by omega), Int.add_zero]
      exact h p hpn
  · rw [gt_set (by omega)]
    unfold ctr
    rw [if_neg (show ¬ i + k = p by omega)]
    by_cases e : p = i + k - n
    · subst e
      rw [if_pos rfl, if_pos (by omega)]
      exact ((cg_subm hq _ _).trans ((h _ hpn).sub hp)).trans (Cg.of_eq (Int.sub_eq_add_neg))
    · rw [if_neg e, if_neg (by omega), Int.add_zero]
      exact h p hpn

theorem fit_set {n q r v : Nat} {xs : List Nat} (h : Fit n q xs) (hv : v < q) : Fit n q (xs.set r v) := ⟨by rw [List.length_set]; exact h.1, fun x hx => by
  rcases List.mem_or_eq_of_mem_set hx with hx | rfl
  · exact h.2 x hx
  · exact hv⟩

def addL (q : Nat) (xs ys : List Nat) : List Nat := List.zipWith (fun a b => addm a b q) xs ys
def subL (q : Nat) (xs ys : List Nat) : List Nat := List.zipWith (fun a b => subm a b q) xs ys
def negL (q : Nat) (xs : List Nat) : List Nat := xs.map fun a => subm 0 a q
theorem addL_len {q : Nat} {xs ys : List Nat} (h : xs.length = ys.length) : (addL q xs ys).length = xs.length := by unfold addL; simp [h]
theorem addL_get {q i a b : Nat} {xs ys : List Nat} (h1 : xs[i]? = some a) (h2 : ys[i]? = some b) : (addL q xs ys)[i]? = some (addm a b q) := by
  unfold addL; rw [List.getElem?_zipWith, h1, h2]
theorem addL_gt {q i : Nat} {xs ys : List Nat} (hq : 0 < q) (h1 : i < xs.length) (h2 : i < ys.length) : Cg q (gt (addL q xs ys) i) (gt xs i + gt ys i) := by
  obtain ⟨a, ha⟩ : ∃ a, xs[i]? = some a := ⟨_, List.getElem?_eq_getElem h1⟩
  obtain ⟨b, hb⟩ : ∃ b, ys[i]? = some b := ⟨_, List.getElem?_eq_getElem h2⟩
  unfold gt
  rw [getD_of (addL_get ha hb), getD_of ha, getD_of hb]
  exact cg_addm hq _ _
theorem addL_fit {n q : Nat} {xs ys : List Nat} (hq : 0 < q) (h1 : xs.length = n) (h2 : ys.length = n) : Fit n q (addL q xs ys) := ⟨by rw [addL_len (by omega), h1], fun x hx => by
  obtain ⟨i, hi⟩ := List.getElem?_of_mem hx
  have hil := (List.getElem?_eq_some_iff.1 hi).1
  rw [addL_len (by omega)] at hil
  rw [addL_get (List.getElem?_eq_getElem hil) (List.getElem?_eq_getElem (show i < ys.length by omega))] at hi
  cases hi
  exact addm_lt hq⟩

theorem BatOk.cw {B : BatD} (K : BatOk B) : Cg B.t ((B.T.w : Int) ^ (2 ^ B.L)) (-1) := by
  have := K.ok.cw
  rwa [K.tl, K.tq] at this

theorem Tryz_ent145 : Ent Tryz.prog 145 := ent_of Tryz.func145 (by kernel_rfl) rfl
set_option maxHeartbeats 4000000 in
theorem refMul4_spec (va vb : Value) (xs ys : List Nat) (q n : Nat) (h : Hp) (sa : SlF h U va xs) (sb : SlF h U vb ys) (hx : xs.length = n) (hy : ys.length = n) (ha : ∀ x ∈ xs, x < 18446744073709551616) (hb : ∀ x ∈ ys, x < 18446744073709551616) (hq1 : 1 < q) (hq : q < 18446744073709551616) (hn : n ≤ 4096) :
    CallsH Tryz.prog 145 [va, vb, U q] h fun v' h' => Ext h h' ∧ ∃ zs, OwnF h' h.size 26 U v' zs ∧ Cnv n q xs ys zs := by
  have hz : ∀ p, p < n → Cg q (gt (List.replicate n 0) p) (sm 0 fun a => sm n fun b => ctr n (gt xs) (gt ys) p a b) := fun p hp => by
    unfold gt
    rw [List.getD_eq_getElem?_getD, List.getElem?_replicate, if_pos hp]
    exact Cg.refl _ _
  have hMS := fun i k (hi : i < n) (hk : k < n) (out : List Nat) (S : Nat → Int) (pr : Nat) (hl : out.length = n) h hp => cmul_step (q := q) (by omega) hi hk (out := out) (S := S) (X := gt xs) (Y := gt ys) (pr := pr) hl h hp
  subst hx
  generalize hxl : xs.length = n at *
  (apply enter Tryz.func145 rfl Tryz.ntmps145 rfl)
  refine runJ ?_
  (apply (s_make (f := U) (bytes := 8) (0)); (first | exact isK_c | exact isK_t rfl); (first | exact isK_c | exact isK_t rfl); exact rfl; exact rfl; exact rfl; exact rfl; exact rfl; exact rfl; omega; omega; omega)
  intro w1 h1 o1 e1 b1
  refine clsI ?_
  have s1 := sa.ext e1
  have s2 := sb.ext e1
  refine runJ ?_
  (first | (apply w_seqB; exact rfl; apply w_block; exact rfl) | skip)
  apply (w_loop (σ := Nat × List Nat) rfl (fun j => [(0, va), (1, vb), (2, U q), (7, N xs.length), (8, w1), (17, N xs.length), (18, N j.1)])
    (fun j h' => Ext h h' ∧ OwnF h' h.size 26 U w1 j.2 ∧ j.1 ≤ n ∧ Fit n q j.2 ∧ ∀ p, p < n → Cg q (gt j.2 p) (sm j.1 fun a => sm n fun b => ctr n (gt xs) (gt ys) p a b)) (fun j => n - j.1) (0, List.replicate n 0))
  · exact subs
  · refine ⟨e1, ?_, Nat.zero_le _, ⟨by simp, fun x hx => by have := (List.mem_replicate.1 hx).2; omega⟩, hz⟩
    rw [← hxl]; exact o1
  clear o1
  rintro ⟨i, zs⟩ h2 ⟨e2, o2, j1, f2, c2⟩
  dsimp only at e2 o2 j1 f2 c2 ⊢
  have t1 := sa.ext e2
  have t2 := sb.ext e2
  refine runJ ?_
  (apply w_condD; exact rfl; exact rfl) <;> intro hi
  · obtain ⟨x, hxi⟩ := get_lt hi
    have hxb := ha x (List.mem_of_getElem? hxi)
    refine runJ ?_
    (first | (apply w_seqB; exact rfl; apply w_block; exact rfl) | skip)
    apply (w_loop (σ := Nat × List Nat) rfl (fun j => [(0, va), (1, vb), (2, U q), (7, N xs.length), (8, w1), (9, N i), (17, N xs.length), (18, N i), (22, N ys.length), (23, N j.1)])
      (fun j h' => Ext h h' ∧ OwnF h' h.size 26 U w1 j.2 ∧ j.1 ≤ n ∧ Fit n q j.2 ∧ ∀ p, p < n → Cg q (gt j.2 p) ((sm i fun a => sm n fun b => ctr n (gt xs) (gt ys) p a b) + sm j.1 fun b => ctr n (gt xs) (gt ys) p i b)) (fun j => n - j.1) (0, zs))
    · exact subs
    · exact ⟨e2, o2, Nat.zero_le _, f2, fun p hp => (c2 p hp).trans (Cg.of_eq (by show _ = _ + (0 : Int); omega))⟩
    clear o2 f2 c2
    rintro ⟨k, out⟩ h3 ⟨e3, o3, k1, f3, c3⟩
    dsimp only at e3 o3 k1 f3 c3 ⊢
    have t1 := sa.ext e3
    have t2 := sb.ext e3
    have hol := f3.1
    refine runJ ?_
    (apply w_condD; exact rfl; exact rfl) <;> intro hk
    · obtain ⟨y, hyk⟩ := get_lt hk
      have hyb := hb y (List.mem_of_getElem? hyk)
      obtain ⟨st1, st2⟩ := hMS i k (by omega) (by omega) out _ (mulm x y q) hol c3 (by
        unfold gt; rw [getD_of hxi, getD_of hyk]; exact cg_mulm (by omega) _ _)
      refine runJ ?_
      apply (s_call Tryz_ent182 rfl rfl rfl)
      refine (refMul_spec x y q h3 hxb hyb (by omega)).mono ?_
      rintro _ _ ⟨rfl, rfl⟩
      refine ⟨Ext.refl _, ?_⟩
      have hpr : mulm x y q < q := mulm_lt (by omega)
      generalize mulm x y q = pr at *
      refine runJ ?_
      (apply w_condD; exact rfl; exact rfl) <;> intro hik
      · have hl1 : i + k < out.length := by omega
        obtain ⟨u, hu⟩ := get_lt hl1
        have hub := f3.2 u (List.mem_of_getElem? hu)
        have hgd := getD_of hu
        rw [hgd] at st1
        have o3s := o3.sl
        refine runJ ?_
        apply (s_call Tryz_ent174 rfl rfl rfl)
        refine (refAdd_spec u pr q h3 (by omega) (by omega) (by omega)).mono ?_
        rintro _ _ ⟨rfl, rfl⟩
        refine clsI ?_
        refine runJ ?_
        (apply (s_storeF (addm u pr q)); exact rfl; exact rfl; exact rfl; exact rfl; exact rfl; exact o3; exact rfl; (first | assumption | omega))
        intro h4 o4 k4
        refine clsI ?_
        refine runJ ?_
        apply again_normal (k + 1, out.set (i + k) (addm u pr q))
        · exact subs
        · refine ⟨o3.old k4 e3 (Nat.le_refl _), o4, by dsimp only; omega, fit_set f3 (addm_lt (by omega)), fun p hp => ?_⟩
          dsimp only
          refine (st1 (by omega) p hp).trans (Cg.of_eq ?_)
          show _ = _ + ((sm k fun b => ctr n (gt xs) (gt ys) p i b) + ctr n (gt xs) (gt ys) p i k)
          omega
        · dsimp only; omega
      · have hl1 : i + k - n < out.length := by omega
        obtain ⟨u, hu⟩ := get_lt hl1
        have hub := f3.2 u (List.mem_of_getElem? hu)
        have hgd := getD_of hu
        rw [hgd] at st2
        have o3s := o3.sl
        rw [← hxl] at hu hl1
        refine runJ ?_
        apply (s_call Tryz_ent146 rfl rfl rfl)
        refine (refSub_spec u pr q h3 (by omega) (by omega) (by omega)).mono ?_
        rintro _ _ ⟨rfl, rfl⟩
        refine clsI ?_
        refine runJ ?_
        (apply (s_storeF (subm u pr q)); exact rfl; exact rfl; exact rfl; exact rfl; exact rfl; exact o3; exact rfl; (first | assumption | omega))
        intro h4 o4 k4
        refine clsI ?_
        rw [hxl] at o4
        refine runJ ?_
        apply again_normal (k + 1, out.set (i + k - n) (subm u pr q))
        · exact subs
        · refine ⟨o3.old k4 e3 (Nat.le_refl _), o4, by dsimp only; omega, fit_set f3 (subm_lt (by omega)), fun p hp => ?_⟩
          dsimp only
          refine (st2 (by omega) p hp).trans (Cg.of_eq ?_)
          show _ = _ + ((sm k fun b => ctr n (gt xs) (gt ys) p i b) + ctr n (gt xs) (gt ys) p i k)
          omega
        · dsimp only; omega
    · obtain rfl : k = n := by omega
      refine runJ ?_
      apply again_normal (i + 1, out)
      · exact subs
      · exact ⟨e3, o3, by dsimp only; omega, f3, c3⟩
      · dsimp only; omega
  · obtain rfl : i = n := by omega
    refine runJ ?_
    exact fin1 rfl rfl ⟨e2, zs, o2, f2, c2⟩

theorem r_drawnB {P : Program} {n : Nat} {Q : Post} {l : Fr} {h : Hp} {c : Code} {h0 : Hp} (hC : Ext h0 h) (hc : tagOf c = .region true) (hm : P.follows .mixedOrders = true) (hok : regionOk (opsOf c) (effB (opsOf c)) = true)
    (k : S P n (opsOf c) (Ext h0) (effB (opsOf c)) Q 0 l h) : W P n c Q l h := r_drawn (Ext h0) (effB (opsOf c)) hc hm hok hC k

theorem Tryz_ent132 : Ent Tryz.prog 132 := ent_of Tryz.func132 (by kernel_rfl) rfl
set_option maxHeartbeats 4000000 in
theorem refAdd5_spec (vp va vb : Value) (qs : List Nat) (xs ys : List (Value × List Nat)) (h : Hp) (sp : SlF h U vp qs) (sa : PolAt h va xs) (sb : PolAt h vb ys) (hl : ys.length = xs.length) (hql : xs.length ≤ qs.length) (h24 : xs.length ≤ 24)
    (hr : ∀ (i q : Nat) (x y : Value × List Nat), xs[i]? = some x → ys[i]? = some y → qs[i]? = some q → y.2.length = x.2.length ∧ x.2.length ≤ 4096 ∧ (∀ a ∈ x.2, a < 18446744073709551616) ∧ (∀ a ∈ y.2, a < 18446744073709551616) ∧ q < 18446744073709551616) :
    CallsH Tryz.prog 132 [vp, .agg #[va], .agg #[vb]] h fun v' h' => Ext h h' ∧ ∃ vr rows p, v' = .agg #[vr] ∧ RowsAt h' h.size p vr rows ∧ rows.length = xs.length ∧
      ∀ (i q : Nat) (x y r : Value × List Nat), xs[i]? = some x → ys[i]? = some y → qs[i]? = some q → rows[i]? = some r → r.2 = addL q x.2 y.2 := by
  (apply enter Tryz.func132 rfl Tryz.ntmps132 rfl)
  refine runJ ?_
  (apply s_box; exact rfl; exact rfl; exact rfl; exact rfl)
  intro p4 h1 x1 e1 b1
  (try dsimp only [Value.cells, List.toList_toArray] at x1)
  refine clsI ?_
  refine runJ ?_
  (apply s_box; exact rfl; exact rfl; exact rfl; exact rfl)
  intro p5 h2 x2 e2 b2
  (try dsimp only [Value.cells, List.toList_toArray] at x2)
  refine clsI ?_
  refine runJ ?_
  (apply s_alloc; exact rfl; exact rfl; exact rfl)
  intro p6 h3 x3 e3 b3
  (try dsimp only [Value.cells, List.toList_toArray] at x3)
  refine clsI ?_
  have E3 := (e1.trans e2).trans e3
  have w4 := (x1.ext e2).ext e3
  have w5 := x2.ext e3
  have w6 := x3
  have sp3 := sp.ext E3
  have sa3 := (sa.ext E3).row
  have sb3 := (sb.ext E3).row
  have ela := (sa.ext E3).el
  have elb := (sb.ext E3).el
  refine runJ ?_
  (apply s_alloc; exact rfl; exact rfl; exact rfl)
  intro p7 h4 x4 e4 b4
  (try dsimp only [Value.cells, List.toList_toArray] at x4)
  refine clsI ?_
  have hb34 : h3.size < h4.size := by obtain ⟨j, hj, hlj⟩ := x4.blk; rw [b4] at hj; cases hj; exact hlj
  have hk4s := e4.1
  have a4 := w4.ext e4
  have s4 := sa3.ext e4
  refine runJ ?_
  (first | (apply w_seqB; exact rfl; apply w_block; exact rfl) | skip)
  apply (w_loop (σ := Nat × List (Value × List Nat) × Value) rfl (fun j => [(0, vp), (4, p4), (5, p5), (6, p6), (7, p7), (13, N xs.length), (14, N j.1)])
    (fun j h' => Ext h3 h' ∧ h4.size ≤ h'.size ∧ j.1 ≤ xs.length ∧ Var h' p7 56 [j.2.2] ∧ RowsAt h' h3.size (some h3.size) j.2.2 j.2.1 ∧ j.2.1.length = j.1 ∧
      ∀ (i q : Nat) (x y r : Value × List Nat), xs[i]? = some x → ys[i]? = some y → qs[i]? = some q → j.2.1[i]? = some r → r.2 = addL q x.2 y.2) (fun j => xs.length - j.1) (0, [], .slice none 0 0))
  · exact subs
  · exact ⟨e4, Nat.le_refl _, Nat.zero_le _, x4, RowsAt.nil _ _ _, rfl, by intro i q x y r _ _ _ hr; cases hr⟩
  clear x4 a4 s4
  rintro ⟨j, rows, vR⟩ h7 ⟨e7, z7, j1, x7, R7, l7, m7⟩
  dsimp only at e7 z7 j1 x7 R7 l7 m7 ⊢
  have u4 := w4.ext e7
  have u5 := w5.ext e7
  have sp7 := sp3.ext e7
  have sa7 := sa3.ext e7
  have sb7 := sb3.ext e7
  have hpv : pblk p7 ≠ vR.ownBlock := by
    rw [b4]; intro e
    rcases R7.vp with h0 | h0
    · rw [h0] at e; cases e
    · exact h0 e.symm
  refine runJ ?_
  (apply w_condD; exact rfl; exact rfl) <;> intro hj
  · obtain ⟨x, hxj⟩ := get_lt hj
    obtain ⟨y, hyj⟩ := get_lt (l := ys) (j := j) (by omega)
    obtain ⟨q, hqj⟩ := get_lt (l := qs) (j := j) (by omega)
    obtain ⟨f1, f2, f3, f4, f5⟩ := hr j q x y hxj hyj hqj
    have sx := (ela x (List.mem_of_getElem? hxj)).ext e7
    have sy := (elb y (List.mem_of_getElem? hyj)).ext e7
    have hMM : ∀ r : Value × List Nat, r.2 = addL q x.2 y.2 → ∀ (i q : Nat) (x y r' : Value × List Nat), xs[i]? = some x → ys[i]? = some y → qs[i]? = some q → (rows ++ [r])[i]? = some r' → r'.2 = addL q x.2 y.2 := by
      intro r hr' i q' x' y' r' hx' hy' hq' hri
      rcases Nat.lt_or_ge i j with hij | hij
      · rw [List.getElem?_append_left (by omega)] at hri
        exact m7 i q' x' y' r' hx' hy' hq' hri
      · have hi := (List.getElem?_eq_some_iff.1 hri).1
        rw [List.length_append] at hi
        simp only [List.length_cons, List.length_nil] at hi
        obtain rfl : i = j := by omega
        rw [List.getElem?_append_right (by omega), l7, Nat.sub_self] at hri
        rw [hxj] at hx'
        rw [hyj] at hy'
        rw [hqj] at hq'
        cases hx'; cases hy'; cases hq'; cases hri
        exact hr'
    obtain ⟨vx, ws⟩ := x
    obtain ⟨vy, zs⟩ := y
    dsimp only at sx sy f1 f2 f3 f4 hMM ⊢
    have hal := addL_len (q := q) f1.symm
    refine runJ ?_
    (first | (apply w_seqB; exact rfl; apply w_block; exact rfl) | skip)
    apply (w_loop (σ := Nat × Value) rfl (fun m => [(0, vp), (4, p4), (5, p5), (6, p6), (7, p7), (8, N j), (9, m.2), (13, N xs.length), (14, N j), (22, N ws.length), (23, N m.1)])
      (fun m h' => Ext h7 h' ∧ m.1 ≤ ws.length ∧ OwnF h' h7.size 26 U m.2 ((addL q ws zs).take m.1)) (fun m => ws.length - m.1) (0, .slice none 0 0))
    · exact subs
    · exact ⟨Ext.refl _, Nat.zero_le _, OwnF.nil _ _ _ _⟩
    rintro ⟨m, vl⟩ h9 ⟨e9, m1, o9⟩
    dsimp only at e9 m1 o9 ⊢
    refine runJ ?_
    (apply w_condD; exact rfl; exact rfl) <;> intro hm
    · obtain ⟨a, ha⟩ := get_lt hm
      obtain ⟨b, hb⟩ := get_lt (l := zs) (j := m) (by omega)
      have hab := f3 a (List.mem_of_getElem? ha)
      have hbb := f4 b (List.mem_of_getElem? hb)
      have hadd := addL_get (q := q) ha hb
      have htl : (List.take m (addL q ws zs)).length = m := by rw [List.length_take]; omega
      refine runJN ?_
      (apply (r_drawnB (h0 := h7) e9); exact rfl; exact mixed; kernel_rfl)
      refine runJ ?_
      apply (s_call Tryz_ent174 rfl rfl rfl)
      refine (refAdd_spec a b q h9 hab hbb f5).mono ?_
      rintro _ _ ⟨rfl, rfl⟩
      refine ⟨e9, ?_⟩
      refine runJ ?_
      (refine s_app1 (bytes := 8) (addm a b q) o9 e9 rfl rfl rfl rfl rfl rfl rfl rfl rfl (by first | exact rfl | exact congrArg some (congrArg I (by omega))) (fun _ => rfl) rfl rfl (fun _ k => k) (by omega) (by simp only [maxLen]; omega) ?_)
      intro v10 h10 o10 e10 k10 b10
      rw [← take_snoc hadd] at o10
      refine runJ ?_
      apply again_normal (m + 1, v10)
      · exact subs
      · exact ⟨e10, by dsimp only; omega, o10⟩
      · dsimp only; omega
    · obtain rfl : m = ws.length := by omega
      rw [← hal, List.take_length] at o9
      have R9 := R7.ext e9
      have x9 := x7.ext e9
      have e39 := e7.trans e9
      have o9one := o9.sl.one
      have hlen : rows.length + 1 < 1000000 := by omega
      refine runJ ?_
      (refine s_app1V (bytes := 24) ((vl, addL q ws zs)) R9.own e39 rfl rfl rfl rfl rfl rfl rfl rfl rfl (by first | exact rfl | exact congrArg some (congrArg I (by omega))) o9one rfl rfl (fun _ _ => trivial) (by omega) (by simp only [maxLen]; omega) ?_)
      intro v10 h10 o10 e10 k10 b10
      have x10 := x9.only k10 hpv
      refine runJ ?_
      (apply s_storeC; exact rfl; exact rfl; (first | exact rfl | exact SlF.one (by assumption) | exact SlF.one (OwnF.sl (by assumption)) | exact Var.one (by assumption)); exact rfl; exact rfl; exact x10; exact rfl)
      intro h11 x11 k11
      refine ⟨(by first | exact trivial | exact Ext.refl _ | assumption | exact Ext.only (by assumption) _ | exact Only.trans (Ext.only (by assumption) _) (by assumption)), ?_⟩
      have e11 : Ext h3 h11 := k11.oldV e10 b4 (Nat.le_refl _)
      rw [b4] at k11
      have R11 := R9.push (z := h7.size) (o9.base (Nat.le_trans hk4s z7)) (fun k hk => (o9.blk k hk).1) (fun k hk => (R7.own.blk k hk).2) (Nat.lt_of_lt_of_le hb34 z7) e9.1 o10 k10 b10 k11
      refine runJ ?_
      apply again_normal (j + 1, rows ++ [(vl, addL q ws zs)], v10)
      · exact subs
      · exact ⟨e11, Nat.le_trans z7 (Nat.le_trans e9.1 (Nat.le_trans k10.1 k11.1)), hj, x11, R11, by dsimp only; rw [List.length_append]; simp [l7], hMM _ rfl⟩
      · dsimp only; omega
  · have hjn : j = xs.length := by omega
    subst hjn
    have w37 := w6.ext e7
    refine runJ ?_
    (apply s_storeV; exact rfl; exact rfl; exact rfl; exact (OneAll.cons R7.own.sl.one OneAll.nil : OneAll [vR]); exact rfl; exact rfl; exact w37; exact rfl)
    intro h8 x8 k8
    refine ⟨trivial, ?_⟩
    have x8 : Var h8 p6 56 [vR] := x8
    have e8 : Ext h h8 := k8.oldV (E3.trans e7) b3 (e1.trans e2).1
    rw [b3] at k8
    have hb23 : h2.size < h3.size := by obtain ⟨b, hb, hlb⟩ := w6.blk; rw [b3] at hb; cases hb; exact hlb
    refine runJ ?_
    exact finC rfl rfl x8 rfl rfl ⟨e8, _, rows, _, rfl, (R7.low k8 hb23).base E3.1, l7, m7⟩

end Go.Proofs.YtfcmdefigldpnaaGreatDoor


namespace Go.Proofs.YtfcmdefigldpnaaGreatDoor
set_option linter.unusedVariables false
set_option maxRecDepth 8000
open Go Go.Den Go.RowKit Go.Dig


structure Blk (h : Hp) (t v : Value) (B : Option Nat) : Prop where mk ::
  own : v.ownBlock = none ∨ v.ownBlock = B
  neq : B ≠ pblk t
  lt : ∀ b, B = some b → b < h.size
theorem Blk.ne {h : Hp} {t v : Value} {B : Option Nat} (s : Blk h t v B) : v.ownBlock = none ∨ v.ownBlock ≠ pblk t := by
  rcases s.own with e | e
  · exact .inl e
  · exact .inr (by rw [e]; exact s.neq)
theorem Blk.mono {h h' : Hp} {t v : Value} {B : Option Nat} (s : Blk h t v B) (e : h.size ≤ h'.size) : Blk h' t v B := ⟨s.own, s.neq, fun b hb => Nat.lt_of_lt_of_le (s.lt b hb) e⟩
theorem Blk.cut {h : Hp} {t v : Value} {B : Option Nat} {s lo hi : Nat} (k : Blk h t v B) : Blk h t (cutV s v lo hi) B := ⟨by
  cases v with
  | slice a n c =>
    cases a with
    | none => left; simp only [cutV, Option.map_none]; split <;> rfl
    | some a =>
      have e : (cutV s (.slice (some a) n c) lo hi).ownBlock = (Value.slice (some a) n c).ownBlock := by
        simp only [cutV, Option.map_some]
        split
        · rfl
        · simp only [Value.ownBlock, Addr.add]
          try (split <;> rfl)
      rw [e]; exact k.own
  | _ => exact k.own, k.neq, k.lt⟩
def TapeAt (h : Hp) (t : Value) (B : Option Nat) (ds : List Nat) (o : Bool) : Prop := ∃ v, Var h t 87 [v, .bool o] ∧ SlF h U v ds ∧ Blk h t v B ∧ Al 18446744073709551616 ds ∧ ds.length < 4611686018427387904

def Drawn (h : Hp) (t v' : Value) (B : Option Nat) (o : Bool) : List Nat → Prop
  | [] => v' = .tuple #[U 0, .bool false] ∧ TapeAt h t B [] true
  | d :: ds => v' = .tuple #[U d, .bool true] ∧ TapeAt h t B ds o

theorem Tryz_ent150 : Ent Tryz.prog 150 := ent_of Tryz.func150 (by kernel_rfl) rfl
theorem draw_spec (t : Value) (B : Option Nat) (ds : List Nat) (o : Bool) (h : Hp) (s : TapeAt h t B ds o) :
    CallsH Tryz.prog 150 [t] h fun v' h' => Only (pblk t) h h' ∧ Drawn h' t v' B o ds := by
  obtain ⟨v, s1, s2, s3, s4, s5⟩ := s
  (apply enter Tryz.func150 rfl Tryz.ntmps150 rfl)
  refine runH ?_
  (apply w_condD; exact rfl; exact rfl) <;> intro hn
  · have hd : ds = [] := List.eq_nil_of_length_eq_zero hn
    subst hd
    refine runH ?_
    (apply s_storeC; exact rfl; exact rfl; (first | exact rfl | exact SlF.one (by assumption) | exact SlF.one (OwnF.sl (by assumption)) | exact Var.one (by assumption)); exact rfl; exact rfl; exact s1; exact rfl)
    intro h2 t2 k2
    refine ⟨(by first | exact trivial | exact Ext.refl _ | assumption | exact Ext.only (by assumption) _ | exact Only.trans (Ext.only (by assumption) _) (by assumption)), ?_⟩
    refine runH ?_
    refine fin2 rfl rfl rfl ⟨k2, rfl, v, t2, s2.only k2 s3.ne, s3.mono k2.1, s4, s5⟩
  · obtain ⟨d, ds', rfl⟩ : ∃ d ds', ds = d :: ds' := by
      cases ds with
      | nil => exact absurd rfl hn
      | cons d ds' => exact ⟨d, ds', rfl⟩
    have hl : 0 < (d :: ds').length := by simp
    have hl1 : 1 ≤ (d :: ds').length := hl
    have c1 : SlF h U (cutV 1 v 1 (d :: ds').length) ds' := by simpa using s2.cut (lo := 1) (hi := (d :: ds').length) hl1 (Nat.le_refl _)
    refine runH ?_
    (apply s_storeC; exact rfl; exact rfl; (first | exact rfl | exact SlF.one (by assumption) | exact SlF.one (OwnF.sl (by assumption)) | exact Var.one (by assumption)); exact rfl; exact rfl; exact s1; exact rfl)
    intro h2 t2 k2
    refine ⟨(by first | exact trivial | exact Ext.refl _ | assumption | exact Ext.only (by assumption) _ | exact Only.trans (Ext.only (by assumption) _) (by assumption)), ?_⟩
    refine runH ?_
    refine fin2 rfl rfl rfl ⟨k2, rfl, _, t2, c1.only k2 s3.cut.ne, s3.cut.mono k2.1, fun x hx => s4 x (by simp [hx]), by simp only [List.length_cons] at s5; omega⟩

theorem Tryz_ent10 : Ent Tryz.prog 10 := ent_of Tryz.func10 (by kernel_rfl) rfl
theorem new_spec (v : Value) (ds : List Nat) (h : Hp) (s : SlF h U v ds) (hal : Al 18446744073709551616 ds) (hl : ds.length < 1000000) :
    CallsH Tryz.prog 10 [v] h fun v' h' => Ext h h' ∧ ∃ k B, pblk v' = some k ∧ h.size ≤ k ∧ TapeAt h' v' B ds false := by
  (apply enter Tryz.func10 rfl Tryz.ntmps10 rfl)
  refine runH ?_
  apply (s_call Tryz_ent34 rfl rfl rfl)
  refine (clone_spec v ds h s hl).mono ?_
  rintro w h1 ⟨e1, o1⟩
  refine ⟨(by first | exact trivial | exact e1), ?_⟩
  have s1 := o1.sl
  refine runH ?_
  (apply (s_build ([w, .bool false])); exact rfl; exact rfl; exact rfl; (repeat (first | exact CellsAll.nil | (apply CellsAll.cons; (first | exact oneL (by assumption) | exact oneL (SlF.one (by assumption)) | exact oneL (SlF.one (OwnF.sl (by assumption))) | exact oneL (Var.one (by assumption)) | exact rfl)))); exact rfl; exact rfl)
  refine runH ?_
  (apply s_box; exact rfl; exact rfl; exact rfl; exact rfl)
  intro p h2 p2 f2 c2
  (try dsimp only [Value.cells, List.toList_toArray] at p2)
  refine clsI ?_
  refine runH ?_
  refine fin1 rfl rfl ⟨e1.trans f2, _, w.ownBlock, c2, e1.1, w, p2, s1.ext f2, ⟨.inr rfl, ?_, ?_⟩, hal, by omega⟩
  · rw [c2]
    intro e
    have := (OwnF.blk o1 _ e).2; omega
  · intro b hb
    exact Nat.lt_of_lt_of_le (OwnF.blk o1 _ hb).2 f2.1

theorem Tryz_ent151 : Ent Tryz.prog 151 := ent_of Tryz.func151 (by kernel_rfl) rfl
def tern (d : Nat) : Int := ((d &&& 1 : Nat) : Int) - ((d / 2 ^ 1 &&& 1 : Nat) : Int)
def firstT : List Nat → Option (Int × List Nat)
  | [] => none
  | d :: ds => if d &&& 3 = 3 then firstT ds else some (tern d, ds)

theorem Tryz_ent103 : Ent Tryz.prog 103 := ent_of Tryz.func103 (by kernel_rfl) rfl
theorem ternary_spec (t : Value) (B : Option Nat) (ds : List Nat) (o : Bool) (h : Hp) (s : TapeAt h t B ds o) :
    CallsH Tryz.prog 103 [t] h fun v' h' => Only (pblk t) h h' ∧
      match (if o then none else firstT ds) with
      | none => v' = .tuple #[N 0, N 11] ∧ (∃ ds', TapeAt h' t B ds' true) ∧ (o = false → TapeAt h' t B [] true)
      | some (r, ds') => v' = .tuple #[I r, N 0] ∧ -1 ≤ r ∧ r ≤ 1 ∧ TapeAt h' t B ds' false ∧ ds'.length < ds.length := by
  have s0 := s
  obtain ⟨v, s1, s2, s3, s4, s5⟩ := s
  (apply enter Tryz.func103 rfl Tryz.ntmps103 rfl)
  refine runH ?_
  (first | (apply w_seqB; exact rfl; apply w_block; exact rfl) | skip)
  apply (w_loop (σ := List Nat × Bool) rfl (fun p => [(0, t)])
    (fun p h' => Only (pblk t) h h' ∧ TapeAt h' t B p.1 p.2 ∧ p.1.length ≤ ds.length ∧ (o = false → p.2 = true → p.1 = []) ∧ (if o then none else firstT ds) = (if p.2 then none else firstT p.1)) (fun p => if p.2 then 0 else p.1.length + 1) (ds, o))
  · exact subs
  · refine ⟨Only.refl _ _, s0, Nat.le_refl _, fun h1 h2 => ?_, rfl⟩
    rw [h1] at h2; cases h2
  · rintro ⟨ds', o'⟩ h1 ⟨i1, i2, i3, i4, i6⟩
    dsimp only at i2 i3 i4 i6 ⊢
    have i2' := i2
    obtain ⟨v1, t1, t2, t3, t4, t5⟩ := i2
    refine runH ?_
    (apply w_cond; exact rfl; exact rfl) <;> intro ho
    · have ho' : o' = false := by simpa using ho
      subst ho'
      refine runH ?_
      apply (s_call Tryz_ent150 rfl rfl rfl)
      refine (draw_spec t B ds' false h1 i2').mono ?_
      rintro r h2 ⟨k2, D⟩
      refine ⟨trivial, ?_⟩
      have i5 := i1.trans k2
      cases ds' with
      | nil =>
        obtain ⟨rfl, D⟩ := D
        refine runH ?_
        apply again_normal ([], true)
        · exact subs
        · refine ⟨i5, D, i3, fun _ _ => rfl, ?_⟩
          rw [i6]; rfl
        · simp
      | cons d ds' =>
        obtain ⟨rfl, D⟩ := D
        have hd64 : d < 18446744073709551616 := t4 d (by simp)
        refine runH ?_
        (apply w_condD; exact rfl; exact rfl) <;> intro hd
        · have i7 : (if o then none else firstT ds) = some (tern d, ds') := by
            rw [i6]; simp [firstT, hd]
          rw [i7]
          have hb1 : d &&& 1 ≤ 1 := Nat.and_le_right
          have hb2 : d / 2 ^ 1 &&& 1 ≤ 1 := Nat.and_le_right
          refine runH ?_
          refine fin2 rfl rfl rfl ⟨i5, rfl, ?_, ?_, D, ?_⟩
          · unfold tern; omega
          · unfold tern; omega
          · simp only [List.length_cons] at i3; omega
        · refine runH ?_
          apply again_normal (ds', false)
          · exact subs
          · refine ⟨i5, D, ?_, ?_, ?_⟩
            · simp only [List.length_cons] at i3; simp only []; omega
            · intro _ h9; cases h9
            · rw [i6]
              have : d &&& 3 = 3 := Decidable.of_not_not hd
              simp [firstT, this]
          · simp
    · have ho' : o' = true := by simpa using ho
      subst ho'
      have i7 : (if o then none else firstT ds) = none := by rw [i6]; rfl
      rw [i7]
      refine runH ?_
      refine fin2 rfl rfl rfl ⟨i1, rfl, ⟨ds', i2'⟩, fun h0 => by rw [← i4 h0 rfl]; exact i2'⟩

def TapR (h : Hp) (t : Value) (B : Option Nat) (ds : List Nat) (o : Bool) : Prop := ∃ v, Var h t 36 [v, .bool o] ∧ SlF h U v ds ∧ Blk h t v B ∧ Al 18446744073709551616 ds ∧ ds.length < 4611686018427387904
theorem TapR.only {h h' : Hp} {t : Value} {B r : Option Nat} {ds : List Nat} {o : Bool} (s : TapR h t B ds o) (k : Only r h h') (h1 : pblk t ≠ r) (h2 : B ≠ r) : TapR h' t B ds o := by
  obtain ⟨v, s1, s2, s3, s4, s5⟩ := s
  refine ⟨v, s1.only k h1, s2.only k ?_, s3.mono k.1, s4, s5⟩
  rcases s3.own with e | e
  · exact .inl e
  · exact .inr (by rw [e]; exact h2)
theorem TapR.ext {h h' : Hp} {t : Value} {B : Option Nat} {ds : List Nat} {o : Bool} (s : TapR h t B ds o) (k : Ext h h') : TapR h' t B ds o := by
  obtain ⟨v, s1, s2, s3, s4, s5⟩ := s
  exact ⟨v, s1.ext k, s2.ext k, s3.mono k.1, s4, s5⟩
theorem TapR.own {h h' : Hp} {t : Value} {B r : Option Nat} {ds : List Nat} {o : Bool} (s : TapR h t B ds o) (k : Only r h h') {M : Nat} (hp : ∀ j, pblk t = some j → j < M) (hB : ∀ b, B = some b → b < M) (hr : ∀ j, r = some j → M ≤ j) : TapR h' t B ds o := by
  cases r with
  | none => exact s.ext k.ext
  | some j => exact s.only k (fun e => by have := hp j e; have := hr j rfl; omega) (fun e => by have := hB j e; have := hr j rfl; omega)
theorem TapR.pb {h : Hp} {t : Value} {B : Option Nat} {ds : List Nat} {o : Bool} (s : TapR h t B ds o) : ∃ k, pblk t = some k ∧ k < h.size := by
  obtain ⟨v, s1, -⟩ := s
  exact s1.blk
theorem TapR.bl {h : Hp} {t : Value} {B : Option Nat} {ds : List Nat} {o : Bool} (s : TapR h t B ds o) : ∀ b, B = some b → b < h.size := by
  obtain ⟨v, -, -, s3, -⟩ := s
  exact s3.lt
theorem tern_mod (d : Nat) : (d % 4 = 0 → tern d = 0) ∧ (d % 4 = 1 → tern d = 1) ∧ (d % 4 = 2 → tern d = -1) ∧ (d &&& 3 = 3 ↔ d % 4 = 3) := by
  have h3 : d &&& 3 = d % 4 := Nat.and_two_pow_sub_one_eq_mod d 2
  have h1 : d &&& 1 = d % 2 := Nat.and_one_is_mod d
  have h2 : d / 2 ^ 1 &&& 1 = d / 2 % 2 := Nat.and_one_is_mod _
  unfold tern
  rw [h3, h1, h2]
  omega

def firstB (q : Nat) : List Nat → Option (Nat × List Nat)
  | [] => none
  | d :: ds => if d ≤ 18446744073709551615 - 18446744073709551616 % q then some (d % q, ds) else firstB q ds

def rowG {α : Type} (f : List Nat → Option (α × List Nat)) : Nat → List Nat → Option (List α × List Nat)
  | 0, ds => some ([], ds)
  | k + 1, ds => match f ds with
    | none => none
    | some (r, ds1) => match rowG f k ds1 with
      | none => none
      | some (rs, ds2) => some (r :: rs, ds2)
def cutH (h : Hp) (n : Nat) : Hp := h.extract 0 n
theorem cutH_ext {h : Hp} {n : Nat} (hn : n ≤ h.size) : (cutH h n).size = n ∧ Ext (cutH h n) h := by
  have hs : (cutH h n).size = n := by unfold cutH; rw [Array.size_extract]; omega
  refine ⟨hs, by omega, fun k hk => ?_⟩
  unfold cutH
  rw [Array.getElem?_extract]
  rw [hs] at hk
  simp only [Nat.zero_add]
  rw [if_pos (by omega)]
theorem only_own {h h2 h3 : Hp} {r r' : Option Nat} (d : Only r h h2) (k : Only r' h2 h3) (hb : ∀ j, r' = some j → h.size ≤ j) : Only r h h3 :=
  ⟨Nat.le_trans d.1 k.1, fun i hi hn => (k.2 i (Nat.lt_of_lt_of_le hi d.1) (fun e => by have := hb i e.symm; omega)).trans (d.2 i hi hn)⟩
def preG {α : Type} (rs : List α) : Option (List α × List Nat) → Option (List α × List Nat)
  | none => none
  | some (x, y) => some (rs ++ x, y)
theorem preG_nil {α : Type} (Z : Option (List α × List Nat)) : preG [] Z = Z := by cases Z <;> rfl
theorem rowG_step {α : Type} {f : List Nat → Option (α × List Nat)} {Z : Option (List α × List Nat)} {ds' ds1 : List Nat} {rs : List α} {r : α} {m : Nat} (h : Z = preG rs (rowG f (m + 1) ds')) (hf : f ds' = some (r, ds1)) :
    Z = preG (rs ++ [r]) (rowG f m ds1) := by
  rw [h]
  simp only [rowG, hf]
  cases rowG f m ds1 with
  | none => rfl
  | some q => simp [preG]
theorem rowG_fail {α : Type} {f : List Nat → Option (α × List Nat)} {Z : Option (List α × List Nat)} {ds' : List Nat} {rs : List α} {m : Nat} (h : Z = preG rs (rowG f (m + 1) ds')) (hf : f ds' = none) : Z = none := by
  rw [h]
  simp only [rowG, hf, preG]
theorem rowG_zero {α : Type} {f : List Nat → Option (α × List Nat)} {Z : Option (List α × List Nat)} {ds' : List Nat} {rs : List α} (h : Z = preG rs (rowG f 0 ds')) : Z = some (rs, ds') := by
  rw [h]
  simp [rowG, preG]

end Go.Proofs.YtfcmdefigldpnaaGreatDoor

