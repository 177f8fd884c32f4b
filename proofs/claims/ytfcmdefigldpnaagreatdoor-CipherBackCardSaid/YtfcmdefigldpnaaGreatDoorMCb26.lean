/- Texts KeyD to CipA of this work, joined, without what the law does not lean on. -/
import Derived.Test.YtfcmdefigldpnaaGreatDoorMCb25
namespace Go.Proofs.YtfcmdefigldpnaaGreatDoor
set_option linter.unusedVariables false
set_option maxRecDepth 8000
open Go Go.Den Go.RowKit Go.Mth Go.Dig

theorem RowP.base {α : Type} {f : α → Value} {e : TypeId} {h0 h h' : Hp} {t : Value} {B : Option Nat} {v' : Value} {Z : Option (List α × List Nat)} (s : RowP f e h h' t B v' Z) (hz : h0.size ≤ h.size) : RowP f e h0 h' t B v' Z := by
  cases Z with
  | none => exact s
  | some x =>
    obtain ⟨rs, ds⟩ := x
    obtain ⟨u, h1, h2, h3⟩ := s
    exact ⟨u, h1, h2.base hz, h3⟩

theorem Tryz_ent18 : Ent Tryz.prog 18 := ent_of Tryz.func18 (by kernel_rfl) rfl
theorem keysSecret_spec (L t w : Nat) (vq tp : Value) (qs : List Nat) (B : Option Nat) (ds : List Nat) (h : Hp) (TB0 : TB h) (A : ParAt h ⟨((2 ^ L : Nat) : Int), t, vq, qs, (w : Int)⟩) (P : parP ⟨((2 ^ L : Nat) : Int), t, vq, qs, (w : Int)⟩) (hL9 : L ≤ 9) (T : TapeAt h tp B ds false) :
    CallsH Tryz.prog 18 [.agg #[N (2 ^ L), U t, vq, N w], tp] h fun v' h' => Only (pblk tp) h h' ∧ RowP I 2 h h' tp B v' (rowG firstT (2 ^ L) ds) := by
  have CK := fun h T A => check_spec ⟨((2 ^ L : Nat) : Int), t, vq, qs, (w : Int)⟩ h T A
  rw [if_pos P] at CK
  have hp9 : 2 ^ L ≤ 2 ^ 9 := Nat.pow_le_pow_right (by decide) hL9
  have e9 : (2 : Nat) ^ 9 = 512 := by decide
  have hp0 : 0 < 2 ^ L := Nat.two_pow_pos _
  unfold ParD.cells at CK
  dsimp only [List.toArray] at CK
  (apply enter Tryz.func18 rfl Tryz.ntmps18 rfl)
  refine runJ ?_
  (apply s_box; exact rfl; exact rfl; exact rfl; exact rfl)
  intro p4 h1 x1 e1 b1
  (try dsimp only [Value.cells, List.toList_toArray] at x1)
  refine clsI ?_
  refine runJ ?_
  apply (s_call Tryz_ent45 rfl rfl rfl)
  refine (CK h1 (TB0.ext e1) (A.ext e1)).mono ?_
  rintro _ h2 ⟨rfl, e2⟩
  refine ⟨trivial, ?_⟩
  have x2 := x1.ext e2
  have E2 := e1.trans e2
  refine runJ ?_
  apply (s_call Tryz_ent46 rfl rfl rfl)
  refine (ternariesP_spec tp B (2 ^ L) ds h2 (T.ext E2) (by omega) (by omega)).mono ?_
  rintro v h3 ⟨k3, R3⟩
  refine ⟨trivial, ?_⟩
  have R3 := R3.base E2.1
  have K3 := (E2.only (pblk tp)).trans k3
  cases hZ : rowG firstT (2 ^ L) ds with
  | none =>
    rw [hZ] at R3
    obtain ⟨rfl, T3⟩ := R3
    refine runJ ?_
    exact fin2 rfl rfl rfl ⟨K3, rfl, T3⟩
  | some x =>
    obtain ⟨rs, ds'⟩ := x
    rw [hZ] at R3
    obtain ⟨u, rfl, o3, T3⟩ := R3
    refine runJ ?_
    exact fin2 rfl rfl rfl ⟨K3, u, rfl, o3, T3⟩

theorem TB.lt {h : Hp} (s : TB h) : 2 < h.size := by
  obtain ⟨b, o, e, hc⟩ := s
  cases e
  exact cellH_lt (hc 0 _ rfl)
theorem q_isR : ∀ i, i < 3 → ∀ j, j < 4 → (qOf i j).all isRF = true := by decide +kernel
theorem made_isR (a b : Nat) : isR (tPar a) = true ∧ tPar a % (2 * 2 ^ (pI a + 3)) = 1 ∧ tPar a < 1073741824 ∧ ∀ q ∈ qPar a b, q < 1125899906842624 ∧ q % (2 * 2 ^ (pI a + 3)) = 1 ∧ q ≠ tPar a ∧ isR q = true := by
  obtain ⟨q1, q2, q3, q4⟩ := qPar_facts a b
  obtain ⟨t1, t2⟩ := tPar_facts a
  have hi : pI a < 3 := Nat.mod_lt _ (by decide)
  have hj : pJ a < 4 := Nat.mod_lt _ (by decide)
  have hk : pK b < 4 := Nat.mod_lt _ (by decide)
  refine ⟨by rw [isR_fast (by omega)]; exact t_isR _ hi _ hj, t2.qm, by omega, fun q hq => ?_⟩
  obtain ⟨g1, g2, g3⟩ := q2 q hq
  refine ⟨g2, g3.qm, by omega, ?_⟩
  rw [isR_fast (by omega)]
  have := q_isR _ hi _ hk
  exact List.all_eq_true.1 this q (List.mem_of_mem_take hq)

end Go.Proofs.YtfcmdefigldpnaaGreatDoor


namespace Go.Proofs.YtfcmdefigldpnaaGreatDoor
set_option linter.unusedVariables false
set_option maxRecDepth 8000
open Go Go.Mth

def gi (zs : List Int) (p : Nat) : Int := zs.getD p 0
theorem cg_liftm {q : Nat} (hq : 0 < q) (v : Int) : Cg q ((liftm v q : Nat) : Int) v := by
  unfold liftm
  rw [if_neg (by omega)]
  have h1 := Int.emod_nonneg v (b := (q : Int)) (by omega)
  rw [Int.toNat_of_nonneg h1]
  exact Cg.mod _ _
theorem gt_lift {q : Nat} (hq : 0 < q) (zs : List Int) (p : Nat) : Cg q (gt (liftL zs q) p) (gi zs p) := by
  unfold gt gi liftL
  rw [List.getD_eq_getElem?_getD, List.getD_eq_getElem?_getD, List.getElem?_map]
  cases zs[p]? with
  | none => exact Cg.refl _ _
  | some v => exact cg_liftm hq v
theorem dft_add {n : Nat} {w : Int} (f g : Nat → Int) (k : Nat) : dft n w (fun p => f p + g p) k = dft n w f k + dft n w g k := by
  unfold dft
  rw [← sm_add]
  exact sm_congr n fun j _ => Int.add_mul _ _ _
theorem dft_sub {n : Nat} {w : Int} (f g : Nat → Int) (k : Nat) : dft n w (fun p => f p - g p) k = dft n w f k - dft n w g k := by
  unfold dft
  rw [← sm_sub]
  exact sm_congr n fun j _ => Int.sub_mul _ _ _
theorem dft_injF {t : Tbl} (K : TblOk t) {f g : Nat → Int} (h : ∀ k, k < 2 ^ t.L → Cg t.q (dft (2 ^ t.L) t.w f k) (dft (2 ^ t.L) t.w g k)) {p : Nat} (hp : p < 2 ^ t.L) : Cg t.q (f p) (g p) := by
  have h1 := idft_dft K.cw K.cuw K.cp f hp
  have h2 := idft_dft K.cw K.cuw K.cp g hp
  exact h1.symm.trans ((idft_cg (fun j hj => h j hj) p).trans h2)
theorem gt_addL {n q : Nat} (hq : 0 < q) {xs ys : List Nat} (hx : xs.length = n) (hy : ys.length = n) {p : Nat} (hp : p < n) : Cg q (gt (addL q xs ys) p) (gt xs p + gt ys p) := by
  unfold gt addL
  rw [zip_get hx hy hp]
  exact cg_addm hq _ _
theorem gt_subL {n q : Nat} (hq : 0 < q) {xs ys : List Nat} (hx : xs.length = n) (hy : ys.length = n) {p : Nat} (hp : p < n) : Cg q (gt (subL q xs ys) p) (gt xs p - gt ys p) := by
  unfold gt subL
  rw [zip_get hx hy hp]
  exact cg_subm hq _ _
theorem addL_comm (q : Nat) (xs ys : List Nat) : addL q xs ys = addL q ys xs := by
  unfold addL
  rw [List.zipWith_comm]
  congr 1
  funext a b
  unfold addm
  rw [Nat.add_comm]

def noise (n : Nat) (ss es us xs ys : List Int) (p : Nat) : Int := gi xs p + (cnv n (gi ys) (gi ss) p - cnv n (gi es) (gi us) p)

theorem lift_len (zs : List Int) (q : Nat) : (liftL zs q).length = zs.length := by unfold liftL; rw [List.length_map]
theorem hold_cg {t : Tbl} (K : TblOk t) {n q : Nat} (hn : n = 2 ^ t.L) (hqe : q = t.q) {ss es us xs ys zs : List Int} {A b zB zU zC : List Nat}
    (lA : A.length = n) (lS : ss.length = n) (lE : es.length = n) (lU : us.length = n) (lX : xs.length = n) (lY : ys.length = n) (lZ : zs.length = n)
    (hb : HidB n q (liftL ss q) (liftL (List.replicate n 0) q) A es b) (hB : Cnv n q b (liftL us q) zB) (hU : Cnv n q A (liftL us q) zU) (hC : Cnv n q (addL q zU (liftL ys q)) (liftL ss q) zC) :
    ∀ p, p < n → Cg q (gt (addL q zC (addL q (addL q zB (liftL xs q)) (liftL zs q))) p) (gi zs p + noise n ss es us xs ys p) := by
  subst hn hqe
  obtain ⟨zA, hA, rfl⟩ := hb
  have hq : 0 < t.q := by have := K.q1; omega
  have hw := K.cw
  have lN : (liftL (List.replicate (2 ^ t.L) 0) t.q).length = 2 ^ t.L := by rw [lift_len, List.length_replicate]
  have lz := hA.1.1
  have l1 : (addL t.q zA (liftL es t.q)).length = 2 ^ t.L := by rw [addL_len (by rw [lift_len]; omega)]; exact lz
  have l2 : (addL t.q zU (liftL ys t.q)).length = 2 ^ t.L := by rw [addL_len (by rw [lift_len]; have := hU.1.1; omega)]; exact hU.1.1
  have l3 : (addL t.q zB (liftL xs t.q)).length = 2 ^ t.L := by rw [addL_len (by rw [lift_len]; have := hB.1.1; omega)]; exact hB.1.1
  have l4 : (addL t.q (addL t.q zB (liftL xs t.q)) (liftL zs t.q)).length = 2 ^ t.L := by rw [addL_len (by rw [lift_len]; omega)]; exact l3
  have lift : ∀ (vs : List Int) (k : Nat), Cg t.q (dft (2 ^ t.L) t.w (gt (liftL vs t.q)) k) (dft (2 ^ t.L) t.w (gi vs) k) := fun vs k => dft_cg (fun j _ => gt_lift hq vs j) k
  intro p hp
  refine dft_injF K (f := gt _) (g := fun p => gi zs p + noise (2 ^ t.L) ss es us xs ys p) (fun k hk => ?_) hp
  have dN : Cg t.q (dft (2 ^ t.L) t.w (gt (liftL (List.replicate (2 ^ t.L) 0) t.q)) k) 0 := by
    refine (lift _ k).trans (Cg.of_eq ?_)
    unfold dft
    refine Eq.trans (sm_congr _ fun j _ => ?_) (sm_zero (2 ^ t.L))
    unfold gi
    rw [List.getD_eq_getElem?_getD, List.getElem?_replicate]
    split <;> simp
  have dS := lift ss k
  have dE := lift es k
  have dU := lift us k
  have dX := lift xs k
  have dY := lift ys k
  have dZ := lift zs k
  have dA := hA.dft hw k
  have db : Cg t.q (dft (2 ^ t.L) t.w (gt (subL t.q (liftL (List.replicate (2 ^ t.L) 0) t.q) (addL t.q zA (liftL es t.q)))) k) (0 - (dft (2 ^ t.L) t.w (gt A) k * dft (2 ^ t.L) t.w (gi ss) k + dft (2 ^ t.L) t.w (gi es) k)) := by
    refine (dft_cg (fun j hj => gt_subL hq lN l1 hj) k).trans ?_
    rw [dft_sub]
    refine dN.sub ?_
    refine (dft_cg (fun j hj => gt_addL hq lz (by rw [lift_len]; exact lE) hj) k).trans ?_
    rw [dft_add]
    exact (dA.trans ((Cg.refl _ _).mul dS)).add dE
  have dB := (hB.dft hw k).trans (db.mul dU)
  have dUU := (hU.dft hw k).trans ((Cg.refl _ (dft (2 ^ t.L) t.w (gt A) k)).mul dU)
  have d1 : Cg t.q (dft (2 ^ t.L) t.w (gt (addL t.q zU (liftL ys t.q))) k) (dft (2 ^ t.L) t.w (gt A) k * dft (2 ^ t.L) t.w (gi us) k + dft (2 ^ t.L) t.w (gi ys) k) := by
    refine (dft_cg (fun j hj => gt_addL hq hU.1.1 (by rw [lift_len]; exact lY) hj) k).trans ?_
    rw [dft_add]
    exact dUU.add dY
  have dC := (hC.dft hw k).trans (d1.mul dS)
  have d0 : Cg t.q (dft (2 ^ t.L) t.w (gt (addL t.q (addL t.q zB (liftL xs t.q)) (liftL zs t.q))) k) ((0 - (dft (2 ^ t.L) t.w (gt A) k * dft (2 ^ t.L) t.w (gi ss) k + dft (2 ^ t.L) t.w (gi es) k)) * dft (2 ^ t.L) t.w (gi us) k + dft (2 ^ t.L) t.w (gi xs) k + dft (2 ^ t.L) t.w (gi zs) k) := by
    refine (dft_cg (fun j hj => gt_addL hq l3 (by rw [lift_len]; exact lZ) hj) k).trans ?_
    rw [dft_add]
    refine Cg.add ?_ dZ
    refine (dft_cg (fun j hj => gt_addL hq hB.1.1 (by rw [lift_len]; exact lX) hj) k).trans ?_
    rw [dft_add]
    exact dB.add dX
  refine (dft_cg (fun j hj => gt_addL hq hC.1.1 l4 hj) k).trans ?_
  rw [dft_add]
  refine (dC.add d0).trans ?_
  have eN : dft (2 ^ t.L) t.w (fun p => gi zs p + noise (2 ^ t.L) ss es us xs ys p) k = dft (2 ^ t.L) t.w (gi zs) k + (dft (2 ^ t.L) t.w (gi xs) k + (dft (2 ^ t.L) t.w (cnv (2 ^ t.L) (gi ys) (gi ss)) k - dft (2 ^ t.L) t.w (cnv (2 ^ t.L) (gi es) (gi us)) k)) := by
    unfold noise
    rw [dft_add, dft_add, dft_sub]
  rw [eN]
  have f1 := cnv_dft (n := 2 ^ t.L) hw (gi ys) (gi ss) k
  have f2 := cnv_dft (n := 2 ^ t.L) hw (gi es) (gi us) k
  refine Cg.trans ?_ ((Cg.refl _ _).add ((Cg.refl _ _).add (f1.sub f2))).symm
  refine Cg.of_eq ?_
  generalize dft (2 ^ t.L) t.w (gt A) k = a
  generalize dft (2 ^ t.L) t.w (gi ss) k = s
  generalize dft (2 ^ t.L) t.w (gi es) k = e
  generalize dft (2 ^ t.L) t.w (gi us) k = u
  generalize dft (2 ^ t.L) t.w (gi xs) k = x
  generalize dft (2 ^ t.L) t.w (gi ys) k = y
  generalize dft (2 ^ t.L) t.w (gi zs) k = z
  grind

theorem sm_bd {f : Nat → Int} {M : Int} : ∀ n, (∀ j, j < n → -M ≤ f j ∧ f j ≤ M) → -((n : Int) * M) ≤ sm n f ∧ sm n f ≤ (n : Int) * M
  | 0, _ => by simp [sm]
  | n + 1, h => by
    have i := sm_bd n fun j hj => h j (by omega)
    have j := h n (by omega)
    have e : ((n + 1 : Nat) : Int) * M = (n : Int) * M + M := by rw [Int.natCast_add, Int.add_mul]; simp
    simp only [sm]
    rw [e]
    omega
theorem ctr_bd {n : Nat} {X Y : Nat → Int} {M : Int} (hM : 0 ≤ M) (h : ∀ a b, a < n → b < n → -M ≤ X a * Y b ∧ X a * Y b ≤ M) {p a : Nat} (hp : p < n) (ha : a < n) : -M ≤ sm n (fun b => ctr n X Y p a b) ∧ sm n (fun b => ctr n X Y p a b) ≤ M := by
  rcases Nat.lt_or_ge p a with hpa | hpa
  · rw [sm_single (i := p + n - a) n (by omega) fun j hj hne => by unfold ctr; rw [if_neg (by omega), if_neg (by omega)]]
    unfold ctr
    rw [if_neg (by omega), if_pos (by omega)]
    have := h a (p + n - a) ha (by omega)
    omega
  · rw [sm_single (i := p - a) n (by omega) fun j hj hne => by unfold ctr; rw [if_neg (by omega), if_neg (by omega)]]
    unfold ctr
    rw [if_pos (by omega)]
    exact h a (p - a) ha (by omega)
theorem cnv_bd {n : Nat} {X Y : Nat → Int} {M : Int} (hM : 0 ≤ M) (h : ∀ a b, a < n → b < n → -M ≤ X a * Y b ∧ X a * Y b ≤ M) {p : Nat} (hp : p < n) : -((n : Int) * M) ≤ cnv n X Y p ∧ cnv n X Y p ≤ (n : Int) * M :=
  sm_bd n fun a ha => ctr_bd hM h hp ha
theorem mul_tern {x s M : Int} (h1 : -M ≤ x) (h2 : x ≤ M) (hs : s = 0 ∨ s = 1 ∨ s = -1) (hM : 0 ≤ M) : -M ≤ x * s ∧ x * s ≤ M := by
  rcases hs with rfl | rfl | rfl <;> simp <;> omega
theorem gi_mem {zs : List Int} {p : Nat} (hp : p < zs.length) : gi zs p ∈ zs := by
  unfold gi
  rw [List.getD_eq_getElem?_getD, List.getElem?_eq_getElem hp]
  exact List.getElem_mem hp
theorem noise_bd {n w : Nat} {ss es us xs ys : List Int} (lS : ss.length = n) (lE : es.length = n) (lU : us.length = n) (lX : xs.length = n) (lY : ys.length = n)
    (hs : ∀ v ∈ ss, v = 0 ∨ v = 1 ∨ v = -1) (hu : ∀ v ∈ us, v = 0 ∨ v = 1 ∨ v = -1) (he : ∀ v ∈ es, -(w : Int) ≤ v ∧ v ≤ w) (hx : ∀ v ∈ xs, -(w : Int) ≤ v ∧ v ≤ w) (hy : ∀ v ∈ ys, -(w : Int) ≤ v ∧ v ≤ w) {p : Nat} (hp : p < n) :
    -((w * (2 * n + 1) : Nat) : Int) ≤ noise n ss es us xs ys p ∧ noise n ss es us xs ys p ≤ ((w * (2 * n + 1) : Nat) : Int) := by
  have hw : (0 : Int) ≤ w := by omega
  have a := hx _ (gi_mem (zs := xs) (p := p) (by omega))
  have b := cnv_bd (n := n) (X := gi ys) (Y := gi ss) hw (fun a b ha hb => by
    have h1 := hy _ (gi_mem (zs := ys) (p := a) (by omega))
    exact mul_tern h1.1 h1.2 (hs _ (gi_mem (zs := ss) (p := b) (by omega))) hw) hp
  have c := cnv_bd (n := n) (X := gi es) (Y := gi us) hw (fun a b ha hb => by
    have h1 := he _ (gi_mem (zs := es) (p := a) (by omega))
    exact mul_tern h1.1 h1.2 (hu _ (gi_mem (zs := us) (p := b) (by omega))) hw) hp
  unfold noise
  have e : ((w * (2 * n + 1) : Nat) : Int) = (w : Int) + (n : Int) * w + (n : Int) * w := by
    rw [Int.natCast_mul, Int.natCast_add, Int.natCast_mul]
    grind
  rw [e]
  omega

def Cop (qs : List Nat) : Prop := ∀ (i q : Nat), qs[i]? = some q → Nat.gcd (prodL (qs.take i)) q = 1
theorem cg_dvd {q : Nat} {x y : Int} : Cg q x y ↔ (q : Int) ∣ x - y := by
  constructor
  · rintro ⟨k, rfl⟩
    exact ⟨k, by omega⟩
  · rintro ⟨k, hk⟩
    exact ⟨k, by omega⟩
theorem cg_prod {a b : Nat} (h : Nat.gcd a b = 1) {x y : Int} (h1 : Cg a x y) (h2 : Cg b x y) : Cg ((a * b : Nat) : Int) x y := by
  rw [cg_dvd] at *
  have d1 := Int.natAbs_dvd_natAbs.2 h1
  have d2 := Int.natAbs_dvd_natAbs.2 h2
  rw [Int.natAbs_natCast] at d1 d2
  have := Nat.Coprime.mul_dvd_of_dvd_of_dvd h d1 d2
  exact Int.ofNat_dvd_left.2 this
theorem cop_cg {qs : List Nat} (C : Cop qs) {x y : Int} (h : ∀ q ∈ qs, Cg q x y) : Cg ((prodL qs : Nat) : Int) x y := by
  have key : ∀ n, n ≤ qs.length → Cg ((prodL (qs.take n) : Nat) : Int) x y := by
    intro n
    induction n with
    | zero => intro _; exact ⟨x - y, by simp [prodL]; omega⟩
    | succ n ih =>
      intro hn
      obtain ⟨q, hq⟩ : ∃ q, qs[n]? = some q := ⟨_, List.getElem?_eq_getElem (by omega)⟩
      rw [List.take_add_one, hq]
      show Cg ((prodL (qs.take n ++ [q]) : Nat) : Int) x y
      rw [prodL_snoc]
      exact cg_prod (C n q hq) (ih (by omega)) (h q (List.mem_of_getElem? hq))
  have := key qs.length (Nat.le_refl _)
  rwa [List.take_length] at this
theorem cent_uniq {Q v : Nat} {z : Int} (hv : v < Q) (h : Cg Q v z) (h1 : -(Q : Int) < 2 * z) (h2 : 2 * z < Q) : (0 ≤ z ∧ (v : Int) = z ∧ 2 * v < Q) ∨ (z < 0 ∧ (v : Int) = z + Q ∧ Q < 2 * v) := by
  obtain ⟨k, hk⟩ := h
  have hk1 : k < 2 := by
    by_cases hk2 : k < 2
    · exact hk2
    · have : (Q : Int) * 2 ≤ Q * k := Int.mul_le_mul_of_nonneg_left (by omega) (by omega)
      omega
  have hk0 : -1 < k := by
    by_cases hk2 : -1 < k
    · exact hk2
    · have : (Q : Int) * k ≤ Q * (-1) := Int.mul_le_mul_of_nonneg_left (by omega) (by omega)
      omega
  have : k = 0 ∨ k = 1 := by omega
  rcases this with rfl | rfl
  · left; omega
  · right; omega
end Go.Proofs.YtfcmdefigldpnaaGreatDoor


namespace Go.Proofs.YtfcmdefigldpnaaGreatDoor
set_option linter.unusedVariables false
set_option maxRecDepth 8000
open Go Go.Den Go.RowKit Go.Dig Go.Mth

theorem centeredG_spec (g vV vP : Value) (V P : Nat) (z : Int) (B : Nat) (h : Hp) (G : Var h g 216 [vV, vP]) (oV : OwnF h B 26 U vV (dg 18446744073709551616 V)) (sP : SlF h U vP (dg 18446744073709551616 P)) (hlt : V < P) (hz : Cg P V z) (hz1 : -(P : Int) < 2 * z) (hz2 : 2 * z < P) (lP : (dg 18446744073709551616 P).length < 1000000) (lV : (dg 18446744073709551616 V).length < 1000000) (hB : B ≤ h.size) :
    CallsH Tryz.prog 163 [g] h fun v' h' => Ext h h' ∧ ∃ a, v' = .agg #[.bool (decide (z < 0)), a] ∧ OwnF h' B 26 U a (dg 18446744073709551616 z.natAbs) ∧ ∀ j, a.ownBlock = some j → vV.ownBlock = some j ∨ h.size ≤ j := by
  have b64 : (1 : Nat) < 18446744073709551616 := by decide
  have b640 : (0 : Nat) < 18446744073709551616 := by decide
  have hle : V ≤ P := Nat.le_of_lt hlt
  have sV := oV.sl
  have hU := cent_uniq hlt hz hz1 hz2
  (apply enter Tryz.func163 rfl Tryz.ntmps163 rfl)
  refine runJ ?_
  (apply s_alloc; exact rfl; exact rfl; exact rfl)
  intro p h1 x1 e1 b1
  (try dsimp only [Value.cells, List.toList_toArray] at x1)
  refine clsI ?_
  have G1 := G.ext e1
  have sV1 := sV.ext e1
  have sP1 := sP.ext e1
  have F := nsub_spec vP vV _ _ h1 sP1 sV1 (al_dg b640 P) (al_dg b640 V) (by omega) (by omega)
  rw [vl_dg b64, vl_dg b64] at F
  refine runJ ?_
  apply (s_call Tryz_ent192 rfl rfl rfl)
  refine (F).mono ?_
  rintro r h2 ⟨e2, -, hr⟩
  refine ⟨(by first | exact trivial | exact e2), ?_⟩
  obtain ⟨d, rfl, od⟩ := hr hle
  have e12 := e1.trans e2
  have G2 := G1.ext e2
  have x2 := x1.ext e2
  have hdl : (dg 18446744073709551616 (P - V)).length < 4611686018427387904 := by
    have := dg_len (b := 18446744073709551616) (n := P - V) (k := (dg 18446744073709551616 P).length) b64 (Nat.lt_of_le_of_lt (Nat.sub_le _ _) (dg_lt b64 P))
    omega
  have C := cmp_spec d vV _ _ h2 od.sl (sV1.ext e2) (al_dg b640 (P - V)) (al_dg b640 V) hdl (by omega)
  rw [vl_dg b64, vl_dg b64] at C
  refine runJ ?_
  apply (s_call Tryz_ent70 rfl rfl rfl)
  refine (C).mono ?_
  rintro _ _ ⟨rfl, rfl⟩
  refine ⟨trivial, ?_⟩
  refine runJ ?_
  rcases hU with ⟨u1, u2, u3⟩ | ⟨u1, u2, u3⟩
  · have hcn : ¬ cmpI (P - V) V < 0 := by
      unfold cmpI; rw [if_neg (by omega)]; split <;> decide
    (apply w_condF; exact rfl; exact rfl; exact hcn)
    refine runJ ?_
    have v1 : vV.oneCell' = true := sV.one
    (apply (s_build ([.bool false, vV])); exact rfl; exact rfl; exact rfl; (repeat (first | exact CellsAll.nil | (apply CellsAll.cons; (first | exact oneL (by assumption) | exact oneL (SlF.one (by assumption)) | exact oneL (SlF.one (OwnF.sl (by assumption))) | exact oneL (Var.one (by assumption)) | exact rfl)))); exact rfl; exact rfl)
    refine runJ ?_
    apply s_storeV (us := [.bool false, vV]) rfl rfl rfl (OneAll.cons rfl (OneAll.cons v1 OneAll.nil)) rfl rfl x2 rfl
    intro h3 x3 k3
    refine ⟨trivial, ?_⟩
    have e3 := k3.oldV e12 b1 (Nat.le_refl _)
    have n3 : vV.ownBlock = none ∨ vV.ownBlock ≠ pblk p := by
      cases hb : vV.ownBlock with
      | none => exact .inl rfl
      | some j => exact .inr fun e => by rw [b1] at e; cases e; have := (oV.blk _ hb).2; omega
    have o3 := (oV.ext e12).only k3 n3
    refine runJ ?_
    exact finC rfl rfl x3 rfl rfl ⟨e3, vV, by rw [decide_eq_false (by omega)], by rw [show z.natAbs = V by omega]; exact o3, fun j hj => .inl hj⟩
  · have hcn : cmpI (P - V) V < 0 := by
      unfold cmpI; rw [if_pos (by omega)]; decide
    (apply w_condT; exact rfl; exact rfl; exact hcn)
    refine runJ ?_
    have v1 : d.oneCell' = true := od.sl.one
    (apply (s_build ([.bool true, d])); exact rfl; exact rfl; exact rfl; (repeat (first | exact CellsAll.nil | (apply CellsAll.cons; (first | exact oneL (by assumption) | exact oneL (SlF.one (by assumption)) | exact oneL (SlF.one (OwnF.sl (by assumption))) | exact oneL (Var.one (by assumption)) | exact rfl)))); exact rfl; exact rfl)
    refine runJ ?_
    apply s_storeV (us := [.bool true, d]) rfl rfl rfl (OneAll.cons rfl (OneAll.cons v1 OneAll.nil)) rfl rfl x2 rfl
    intro h3 x3 k3
    refine ⟨trivial, ?_⟩
    have e3 := k3.oldV e12 b1 (Nat.le_refl _)
    have n3 : d.ownBlock = none ∨ d.ownBlock ≠ pblk p := by
      cases hb : d.ownBlock with
      | none => exact .inl rfl
      | some j => exact .inr fun e => by rw [b1] at e; cases e; have := (od.blk _ hb).1; have := e1.1; obtain ⟨j, hj, hl⟩ := x1.blk; rw [b1] at hj; cases hj; omega
    have o3 := od.only k3 n3
    refine runJ ?_
    exact finC rfl rfl x3 rfl rfl ⟨e3, d, by rw [decide_eq_true (by omega)], by rw [show z.natAbs = P - V by omega]; exact o3.base (Nat.le_trans hB e1.1), fun j hj => .inr (Nat.le_trans e1.1 (od.blk j hj).1)⟩

set_option maxHeartbeats 2000000 in
theorem wholeG_spec (vr vw : Value) (rs qs : List Nat) (z : Int) (h : Hp) (sr : SlF h U vr rs) (sw : SlF h U vw qs) (hl : rs.length = qs.length) (h0 : 0 < qs.length) (h24 : qs.length ≤ 24) (C : Cop qs) (hq : ∀ q ∈ qs, 1 < q ∧ q < 18446744073709551616) (hr : ∀ (i r q : Nat), rs[i]? = some r → qs[i]? = some q → r < q ∧ Cg q r z) (hz1 : -(prodL qs : Int) < 2 * z) (hz2 : 2 * z < prodL qs) :
    CallsH Tryz.prog 121 [vr, vw] h fun v' h' => Ext h h' ∧ IntOf h' h.size v' z := by
  have b64 : (1 : Nat) < 18446744073709551616 := by decide
  have b640 : (0 : Nat) < 18446744073709551616 := by decide
  have hal : Al 18446744073709551616 qs := fun q h => (hq q h).2
  have hlen : ∀ (V n : Nat), n ≤ qs.length → V ≤ prodL (qs.take n) → (dg 18446744073709551616 V).length ≤ 25 := fun V n hn hV => by
    have h1 := prodL_lt (fun x hx => hal x (List.mem_of_mem_take hx) : Al 18446744073709551616 (qs.take n))
    have h2 : (qs.take n).length = n := by simp; omega
    rw [h2] at h1
    have := dg_len (b := 18446744073709551616) (n := V) (k := n + 1) b64 (Nat.lt_of_le_of_lt hV h1)
    omega
  (apply enter Tryz.func121 rfl Tryz.ntmps121 rfl)
  refine runJ ?_
  (apply s_alloc; exact rfl; exact rfl; exact rfl)
  intro p h1 x1 e1 b1
  (try dsimp only [Value.cells, List.toList_toArray] at x1)
  refine clsI ?_
  refine runJ ?_
  (apply (s_litF (f := U) [1] (fun _ => rfl)); exact rfl; exact rfl; exact rfl; exact rfl; exact rfl; exact rfl; exact rfl; exact rfl; omega)
  intro w h2 o2 e2 b2
  refine clsI ?_
  refine runJ ?_
  (apply (s_build ([.slice none 0 0, w])); exact rfl; exact rfl; exact rfl; (repeat (first | exact CellsAll.nil | (apply CellsAll.cons; (first | exact oneL (by assumption) | exact oneL (SlF.one (by assumption)) | exact oneL (SlF.one (OwnF.sl (by assumption))) | exact oneL (Var.one (by assumption)) | exact rfl)))); exact rfl; exact rfl)
  refine runJ ?_
  (apply s_box; exact rfl; exact rfl; exact rfl; exact rfl)
  intro g h3 g3 e3 b3
  (try dsimp only [Value.cells, List.toList_toArray] at g3)
  refine clsI ?_
  have e13 := (e1.trans e2).trans e3
  have x3 := (x1.ext e2).ext e3
  refine runJ ?_
  (first | (apply w_seqB; exact rfl; apply w_block; exact rfl) | skip)
  apply (w_loop (σ := Nat × Value × Value × Nat × List Nat) rfl (fun j => [(0, vr), (4, p), (5, g), (6, .func (.func 162) #[] #[]), (12, vw), (13, N qs.length), (14, N j.1)])
    (fun j h' => j.1 ≤ qs.length ∧ Only (pblk g) h3 h' ∧ Var h' g 216 [j.2.1, j.2.2.1] ∧ OwnF h' h.size 26 U j.2.1 (dg 18446744073709551616 j.2.2.2.1) ∧ OwnF h' h.size 26 U j.2.2.1 j.2.2.2.2 ∧ (j.2.1.ownBlock = none ∨ j.2.1.ownBlock ≠ pblk g) ∧ (j.2.2.1.ownBlock = none ∨ j.2.2.1.ownBlock ≠ pblk g) ∧ (j.2.1.ownBlock = none ∨ j.2.1.ownBlock ≠ pblk p) ∧
      vl 18446744073709551616 j.2.2.2.2 = prodL (qs.take j.1) ∧ Al 18446744073709551616 j.2.2.2.2 ∧ j.2.2.2.2.length ≤ 25 ∧ (0 < j.1 → j.2.2.2.2 = dg 18446744073709551616 (prodL (qs.take j.1))) ∧ j.2.2.2.1 < prodL (qs.take j.1) ∧ ∀ (i q : Nat), i < j.1 → qs[i]? = some q → Cg q j.2.2.2.1 z) (fun j => qs.length - j.1) (0, .slice none 0 0, w, 0, [1]))
  · exact subs
  · refine ⟨Nat.zero_le _, Only.refl _ _, g3, OwnF.nil _ _ _ _, (o2.ext e3).base e1.1, .inl rfl, .inr ?_, .inl rfl, rfl, Al.cons (by omega) Al.nil, Nat.le_add_left 1 24, fun h => absurd h (Nat.lt_irrefl 0), Nat.one_pos, fun i q hi => absurd hi (Nat.not_lt_zero i)⟩
    rw [b2, b3]
    intro e
    have := Option.some.inj e
    have h1 := o2.blk _ b2
    omega
  rintro ⟨j, vV, vP, V, xsP⟩ h4 ⟨j1, k4, g4, s4, t4, n4, n4', n5, n6, n7, n8, n9, n10, n11⟩
  dsimp only at j1 k4 g4 s4 t4 n4 n4' n5 n6 n7 n8 n9 n10 n11 ⊢
  have e4 : Ext h h4 := k4.oldV e13 b3 (Nat.le_trans e1.1 e2.1)
  have sr4 := sr.ext e4
  have sw4 := sw.ext e4
  have x4 : Var h4 p 124 _ := x3.only k4 (by
    rw [b1, b3]
    intro e
    have h1 := Option.some.inj e
    have h2 := e2.1
    obtain ⟨q, hq, hl⟩ := x1.blk
    rw [b1] at hq
    have h3 := Option.some.inj hq
    omega)
  refine runJ ?_
  (apply w_condD; exact rfl; exact rfl) <;> intro hj
  · obtain ⟨q, hqj⟩ := get_lt hj
    obtain ⟨r, hrj⟩ := get_lt (l := rs) (j := j) (by omega)
    obtain ⟨hq1, hq2⟩ := hq q (List.mem_of_getElem? hqj)
    obtain ⟨hrq, hrz⟩ := hr j r q hrj hqj
    have hpl : h.size < h4.size := by
      obtain ⟨q, hq, hl⟩ := x4.blk
      rw [b1] at hq
      have h3 := Option.some.inj hq
      omega
    have A := gadd_spec g vV vP _ _ r q h4 g4 s4.sl t4.sl (al_dg b640 _) n7 (by have := hlen V j j1 (Nat.le_of_lt n10); omega) (by omega) n4' (by omega) (by omega) hq2
    rw [vl_dg b64, n6] at A
    refine runJ ?_
    refine s_callV rfl Tryz_ent162 rfl rfl rfl ?_
    refine (A).mono ?_
    rintro _ h5 ⟨k5, back, ok, vV', vP', hI, g5, o5, p5⟩
    refine ⟨trivial, ?_⟩
    have hcop := C j q hqj
    obtain rfl : ok = true := by
      cases ok with
      | true => rfl
      | false =>
        rcases (hI.2 rfl).1 with h0 | h0
        · omega
        · refine absurd ?_ h0
          rw [← hcop, Nat.gcd_comm (prodL (qs.take j)) q, Nat.gcd_rec q (prodL (qs.take j))]
    obtain ⟨-, -, hb1, hb2⟩ := hI.1 rfl
    obtain ⟨gb, hgb, hgl⟩ := g4.blk
    have hpr : prodL (qs.take (j + 1)) = prodL (qs.take j) * q := by rw [take_snoc hqj, prodL_snoc]
    have hq0 : 0 < q := by omega
    have ht1 : timesN V (prodL (qs.take j)) r q back < q := mulm_lt hq0
    have hV' : V + prodL (qs.take j) * timesN V (prodL (qs.take j)) r q back < prodL (qs.take (j + 1)) := by
      rw [hpr]
      have : prodL (qs.take j) * (timesN V (prodL (qs.take j)) r q back + 1) ≤ prodL (qs.take j) * q := Nat.mul_le_mul_left _ ht1
      rw [Nat.mul_add] at this
      omega
    have hCg : Cg q ((V + prodL (qs.take j) * timesN V (prodL (qs.take j)) r q back : Nat) : Int) r := by
      rw [Int.natCast_add, Int.natCast_mul]
      unfold timesN
      have c1 := cg_mulm hq0 (subm r (V % q) q) back
      have c2 := cg_subm hq0 r (V % q)
      have c3 : Cg q ((V % q : Nat) : Int) V := by rw [Int.natCast_emod]; exact Cg.mod _ _
      have c4 : Cg q ((prodL (qs.take j) : Nat) * (back : Nat) : Int) 1 := by
        have h1 : ((prodL (qs.take j) % q * back : Nat) : Int) = ((prodL (qs.take j) % q * back / q : Nat) : Int) * q + 1 := by
          have := Nat.div_add_mod (prodL (qs.take j) % q * back) q
          rw [hb2, Nat.mul_comm] at this
          rw [← Int.natCast_mul]
          omega
        have h2 : Cg q ((prodL (qs.take j) % q : Nat) : Int) (prodL (qs.take j) : Nat) := by rw [Int.natCast_emod]; exact Cg.mod _ _
        refine (h2.symm.mul (Cg.refl _ _)).trans ?_
        rw [← Int.natCast_mul, h1]
        exact ⟨_, by rw [Int.mul_comm (q : Int), Int.add_comm]⟩
      have c5 := (Cg.refl (q : Int) ((prodL (qs.take j) : Nat) : Int)).mul (c1.trans ((c2.trans ((Cg.refl _ (r : Int)).sub c3)).mul (Cg.refl _ (back : Int))))
      refine ((Cg.refl _ (V : Int)).add (c5.trans (Cg.of_eq (show _ = ((prodL (qs.take j) : Nat) * (back : Nat) : Int) * ((r : Int) - V) by grind)))).trans ?_
      refine ((Cg.refl _ (V : Int)).add (c4.mul (Cg.refl _ _))).trans (Cg.of_eq (by omega))
    refine runJ ?_
    apply again_normal (j + 1, vV', vP', V + prodL (qs.take j) * timesN V (prodL (qs.take j)) r q back, dg 18446744073709551616 (prodL (qs.take j) * q))
    · exact subs
    · refine ⟨hj, k4.trans k5, g5, o5.base e4.1, p5.base e4.1, o5.neV hgb hgl, p5.neV hgb hgl, o5.neV b1 hpl, ?_, al_dg b640 _, ?_, fun _ => by dsimp only; rw [hpr], hV', fun i q' hi hq' => ?_⟩
      · dsimp only; rw [vl_dg b64, hpr]
      · dsimp only; exact hlen _ (j + 1) hj (by rw [hpr]; exact Nat.le_refl _)
      · dsimp only at hi ⊢
        by_cases hij : i = j
        · subst hij
          rw [hqj] at hq'; cases hq'
          exact hCg.trans hrz
        · have hlt : i < j := by omega
          have hd : q' ∣ prodL (qs.take j) := by
            have key : ∀ n, n ≤ qs.length → i < n → q' ∣ prodL (qs.take n) := by
              intro n
              induction n with
              | zero => intro _ h; omega
              | succ n ih =>
                intro hn hin
                obtain ⟨c, hc⟩ := get_lt (l := qs) (j := n) (by omega)
                rw [take_snoc hc, prodL_snoc]
                by_cases hni : i = n
                · subst hni
                  rw [hc] at hq'; cases hq'
                  exact Nat.dvd_mul_left _ _
                · exact Nat.dvd_trans (ih (by omega) (by omega)) (Nat.dvd_mul_right _ _)
            exact key j j1 hlt
          obtain ⟨c, hc⟩ := hd
          refine Cg.trans ?_ (n11 i q' hlt hq')
          refine ⟨((c * timesN V (prodL (qs.take j)) r q back : Nat) : Int), ?_⟩
          rw [hc]
          rw [← Int.natCast_mul, ← Int.natCast_add, Nat.mul_assoc]
    · dsimp only; omega
  · have : j = qs.length := by omega
    subst this
    rw [List.take_length] at n6 n9 n10
    have n9 := n9 h0
    rw [n9] at t4
    have hcg : Cg ((prodL qs : Nat) : Int) V z := cop_cg C fun q hqm => by
      obtain ⟨i, hi⟩ := List.mem_iff_getElem?.1 hqm
      exact n11 i q (List.getElem?_eq_some_iff.1 hi).1 hi
    refine runJ ?_
    apply (s_call Tryz_ent163 rfl rfl rfl)
    refine (centeredG_spec g vV vP V (prodL qs) z h.size h4 g4 s4 t4.sl n10 hcg hz1 hz2 (by have := hlen (prodL qs) qs.length (Nat.le_refl _) (by rw [List.take_length]; exact Nat.le_refl _); omega) (by have := hlen V qs.length (Nat.le_refl _) (by rw [List.take_length]; exact Nat.le_of_lt n10); omega) e4.1).mono ?_
    rintro _ h5 ⟨e5, a, rfl, oa, ka⟩
    refine ⟨trivial, ?_⟩
    have x5 := x4.ext e5
    have v1 : a.oneCell' = true := oa.sl.one
    refine runJ ?_
    apply s_storeV (us := [.bool (decide (z < 0)), a]) rfl rfl rfl (OneAll.cons rfl (OneAll.cons v1 OneAll.nil)) rfl rfl x5 rfl
    intro h6 x6 k6
    refine ⟨trivial, ?_⟩
    have e6 := k6.oldV (e4.trans e5) b1 (Nat.le_refl _)
    have na : a.ownBlock = none ∨ a.ownBlock ≠ pblk p := by
      cases hb : a.ownBlock with
      | none => exact .inl rfl
      | some k =>
        refine .inr fun e => ?_
        rcases ka k hb with hv | hk
        · rcases n5 with n5 | n5
          · rw [n5] at hv; cases hv
          · exact n5 (hv.trans e)
        · rw [b1] at e; cases e
          obtain ⟨q, hq', hl'⟩ := x4.blk
          rw [b1] at hq'; cases hq'
          omega
    refine runJ ?_
    exact finC rfl rfl x6 rfl rfl ⟨e6, a, rfl, oa.only k6 na⟩
end Go.Proofs.YtfcmdefigldpnaaGreatDoor


namespace Go.Proofs.YtfcmdefigldpnaaGreatDoor
set_option linter.unusedVariables false
set_option maxRecDepth 8000
open Go Go.Den Go.RowKit Go.Mth Go.Dig

theorem Tryz_ent49 : Ent Tryz.prog 49 := ent_of Tryz.func49 (by kernel_rfl) rfl
theorem start_spec (L t w : Nat) (vq : Value) (qs : List Nat) (h : Hp) (TB0 : TB h) (A : ParAt h ⟨((2 ^ L : Nat) : Int), t, vq, qs, (w : Int)⟩) (P : parP ⟨((2 ^ L : Nat) : Int), t, vq, qs, (w : Int)⟩) (hL3 : 3 ≤ L) (hL9 : L ≤ 9) (hQ : ∀ q ∈ qs, QOk L q) :
    CallsH Tryz.prog 49 [.agg #[N (2 ^ L), U t, vq, N w]] h fun v' h' => Ext h h' ∧ ∃ (g : Value) (R : RngD), v' = .tuple #[g, N 0] ∧ RngAt h' g R ∧ RngOk R ∧ R.L = L ∧ R.qs = qs ∧ RngNew h.size g R := by
  have CK := fun h T A => check_spec ⟨((2 ^ L : Nat) : Int), t, vq, qs, (w : Int)⟩ h T A
  rw [if_pos P] at CK
  have hq0 : 0 < qs.length := P.2.2.1.2.2.1
  have hq8 : qs.length ≤ 8 := P.2.2.1.2.2.2
  have hnd : qs.Nodup := P.2.2.1.2.1
  unfold ParD.cells at CK
  dsimp only [List.toArray] at CK
  (apply enter Tryz.func49 rfl Tryz.ntmps49 rfl)
  refine runJ ?_
  (apply s_box; exact rfl; exact rfl; exact rfl; exact rfl)
  intro p1 h1 x1 e1 b1
  (try dsimp only [Value.cells, List.toList_toArray] at x1)
  refine clsI ?_
  refine runJ ?_
  apply (s_call Tryz_ent45 rfl rfl rfl)
  refine (CK h1 (TB0.ext e1) (A.ext e1)).mono ?_
  rintro _ h2 ⟨rfl, e2⟩
  refine ⟨trivial, ?_⟩
  have x2 := x1.ext e2
  have E2 := e1.trans e2
  refine runJ ?_
  apply (s_call Tryz_ent68 rfl rfl rfl)
  refine (ringNewS_spec L vq qs h2 (TB0.ext E2) (A.row.ext E2) (by omega) hL9 hQ hnd hq0 (by omega)).mono ?_
  rintro _ h3 ⟨e3, g, R, rfl, RA, RO, hRL, hRq, RN⟩
  refine ⟨trivial, ?_⟩
  refine runJ ?_
  refine fin2 rfl rfl rfl ⟨E2.trans e3, g, R, rfl, RA, RO, hRL, hRq, ?_⟩
  obtain ⟨⟨k, hk, hk2⟩, n2, n3, n4⟩ := RN
  exact ⟨⟨k, hk, Nat.le_trans E2.1 hk2⟩, fun k hk => Nat.le_trans E2.1 (n2 k hk), fun k hk => Nat.le_trans E2.1 (n3 k hk), fun x hx => (n4 x hx).low E2.1⟩

theorem Tryz_ent105 : Ent Tryz.prog 105 := ent_of Tryz.func105 (by kernel_rfl) rfl
theorem withinU_spec (v : Value) (xs : List Nat) (n t : Nat) (h : Hp) (s : SlF h U v xs) (hl : xs.length = n) (hn : n < 1000000) (hx : ∀ x ∈ xs, x ≤ t) :
    CallsH Tryz.prog 105 [v, N n, U 0, U t] h fun v' h' => v' = .bool true ∧ h = h' := by
  (apply enter Tryz.func105 rfl Tryz.ntmps105 rfl)
  refine runJ ?_
  (first | (apply w_seqB; exact rfl; apply w_block; exact rfl) | skip)
  apply (w_loop (σ := Nat) rfl (fun j => [(0, v), (1, N n), (2, U 0), (3, U t), (11, v), (12, N xs.length), (13, N j)])
    (fun j h' => h = h' ∧ j ≤ xs.length) (fun j => xs.length - j) 0)
  · exact subs
  · exact ⟨rfl, Nat.zero_le _⟩
  rintro j _ ⟨rfl, j1⟩
  refine runJ ?_
  (apply w_condD; exact rfl; exact rfl) <;> intro hj
  · obtain ⟨x, hxj⟩ := get_lt hj
    have hxm := hx x (List.mem_of_getElem? hxj)
    refine runJ ?_
    (apply w_condF; exact rfl; exact rfl; exact (show ¬ t < x by omega))
    refine runJ ?_
    apply again_normal (j + 1)
    · exact subs
    · exact ⟨rfl, hj⟩
    · omega
  refine runJ ?_
  exact fin1 rfl rfl ⟨by rw [decide_eq_true (by omega)], rfl⟩

theorem Tryz_ent160 : Ent Tryz.prog 160 := ent_of Tryz.func160 (by kernel_rfl) rfl
theorem withinI_spec (v : Value) (xs : List Int) (n : Nat) (a b : Int) (h : Hp) (s : SlF h I v xs) (hl : xs.length = n) (hn : n < 1000000) (hx : ∀ x ∈ xs, a ≤ x ∧ x ≤ b) :
    CallsH Tryz.prog 160 [v, N n, I a, I b] h fun v' h' => v' = .bool true ∧ h = h' := by
  (apply enter Tryz.func160 rfl Tryz.ntmps160 rfl)
  refine runJ ?_
  (first | (apply w_seqB; exact rfl; apply w_block; exact rfl) | skip)
  apply (w_loop (σ := Nat) rfl (fun j => [(0, v), (1, N n), (2, I a), (3, I b), (11, v), (12, N xs.length), (13, N j)])
    (fun j h' => h = h' ∧ j ≤ xs.length) (fun j => xs.length - j) 0)
  · exact subs
  · exact ⟨rfl, Nat.zero_le _⟩
  rintro j _ ⟨rfl, j1⟩
  refine runJ ?_
  (apply w_condD; exact rfl; exact rfl) <;> intro hj
  · obtain ⟨x, hxj⟩ := get_lt hj
    have hxm := hx x (List.mem_of_getElem? hxj)
    refine runJ ?_
    (apply s_splitG; exact rfl; exact rfl; exact rfl; exact rfl) <;> intro g1
    · exfalso; omega
    refine runJ ?_
    (apply w_condF; exact rfl; exact rfl; exact (show ¬ b < x by omega))
    refine runJ ?_
    apply again_normal (j + 1)
    · exact subs
    · exact ⟨rfl, hj⟩
    · omega
  refine runJ ?_
  exact fin1 rfl rfl ⟨by rw [decide_eq_true (by omega)], rfl⟩

theorem Tryz_ent50 : Ent Tryz.prog 50 := ent_of Tryz.func50 (by kernel_rfl) rfl
theorem isText_spec (n t w : Nat) (vq v : Value) (xs : List Nat) (h : Hp) (s : SlF h U v xs) (hqo : vq.oneCell' = true) (hf : Fit n t xs) (hn : n < 1000000) (ht : 0 < t) (ht2 : t < 18446744073709551616) :
    CallsH Tryz.prog 50 [.agg #[N n, U t, vq, N w], v] h fun v' h' => v' = .bool true ∧ Ext h h' := by
  (apply enter Tryz.func50 rfl Tryz.ntmps50 rfl)
  refine runJ ?_
  (apply s_box; exact rfl; exact rfl; exact rfl; exact rfl)
  intro p2 h1 x1 e1 b1
  (try dsimp only [Value.cells, List.toList_toArray] at x1)
  refine clsI ?_
  have s1 := s.ext e1
  refine runJ ?_
  apply (s_call Tryz_ent105 rfl rfl rfl)
  refine (withinU_spec v xs n (t - 1) h1 s1 hf.1 hn (fun x hx => by have := hf.2 x hx; omega)).mono ?_
  rintro _ _ ⟨rfl, rfl⟩
  refine ⟨trivial, ?_⟩
  refine runJ ?_
  exact fin1 rfl rfl ⟨rfl, e1⟩
theorem Tryz_ent118 : Ent Tryz.prog 118 := ent_of Tryz.func118 (by kernel_rfl) rfl
theorem isSecC_spec (n t w : Nat) (vq v : Value) (xs : List Int) (h : Hp) (s : SlF h I v xs) (hqo : vq.oneCell' = true) (hS : SecP (n : Int) xs) (hn : n < 1000000) :
    CallsH Tryz.prog 118 [.agg #[N n, U t, vq, N w], v] h fun v' h' => v' = .bool true ∧ Ext h h' := by
  (apply enter Tryz.func118 rfl Tryz.ntmps118 rfl)
  refine runJ ?_
  (apply s_box; exact rfl; exact rfl; exact rfl; exact rfl)
  intro p2 h1 x1 e1 b1
  (try dsimp only [Value.cells, List.toList_toArray] at x1)
  refine clsI ?_
  have s1 := s.ext e1
  refine runJ ?_
  apply (s_call Tryz_ent160 rfl rfl rfl)
  refine (withinI_spec v xs n (-1) 1 h1 s1 (by have := hS.2; omega) hn hS.1).mono ?_
  rintro _ _ ⟨rfl, rfl⟩
  refine ⟨trivial, ?_⟩
  refine runJ ?_
  exact fin1 rfl rfl ⟨rfl, e1⟩

theorem Tryz_ent96 : Ent Tryz.prog 96 := ent_of Tryz.func96 (by kernel_rfl) rfl
set_option maxHeartbeats 1000000 in
theorem level12_spec (g vc : Value) (R : RngD) (ps : List (Value × List (Value × List Nat))) (m : Nat) (h : Hp) (K : RngOk R) (A : RngAt h g R) (sc : SlA h (fun x : Value × List (Value × List Nat) => [x.1]) 1 vc ps) (hl : 2 ≤ ps.length) (hl3 : ps.length ≤ 3) (hp : ∀ x ∈ ps, PolAt h x.1 x.2 ∧ PolOk R x.2 ∧ x.2.length = m + 1) :
    CallsH Tryz.prog 96 [g, .agg #[vc]] h fun v' h' => v' = .tuple #[N m, N 0] ∧ Ext h h' := by
  (apply enter Tryz.func96 rfl Tryz.ntmps96 rfl)
  refine runJ ?_
  (apply s_box; exact rfl; exact rfl; exact rfl; exact rfl)
  intro p3 h1 x1 e1 b1
  (try dsimp only [Value.cells, List.toList_toArray] at x1)
  refine clsI ?_
  have x1 : Var h1 p3 62 [vc] := x1
  have A1 := A.ext e1
  have sc1 := sc.ext e1
  have rv := A.var
  have hg : isPtr g = true := rv.ptr
  refine runJ ?_
  (apply s_splitG; exact rfl; exact rfl; exact rfl; exact rfl) <;> intro g1
  · exfalso; omega
  refine runJ ?_
  (apply w_condF; exact rfl; exact rfl; exact (show ¬ 3 < ps.length by omega))
  refine runJ ?_
  (first | (apply w_seqB; exact rfl; apply w_block; exact rfl) | skip)
  apply (w_loop (σ := Nat × Nat) rfl (fun j => [(0, g), (3, p3), (6, N j.2), (22, vc), (23, N ps.length), (24, N j.1)])
    (fun j h' => Ext h1 h' ∧ j.1 ≤ ps.length ∧ (0 < j.1 → j.2 = m)) (fun j => ps.length - j.1) (0, 0))
  · exact subs
  · exact ⟨Ext.refl _, Nat.zero_le _, fun h => absurd h (Nat.lt_irrefl _)⟩
  rintro ⟨j, f⟩ h2 ⟨e2, j1, j2⟩
  dsimp only at e2 j1 j2 ⊢
  have E2 := e1.trans e2
  have sc2 := sc1.ext e2
  have A2 := A1.ext e2
  have x2 := x1.ext e2
  refine runJ ?_
  (apply w_condD; exact rfl; exact rfl) <;> intro hj
  · obtain ⟨⟨vx, rx⟩, hxj⟩ := get_lt hj
    obtain ⟨Sx, Px, lx⟩ := hp _ (List.mem_of_getElem? hxj)
    dsimp only at Sx Px lx
    have hvx := Sx.row.one
    refine runJ ?_
    (apply s_alloc; exact rfl; exact rfl; exact rfl)
    intro p8 h3 x3 e3 b3
    (try dsimp only [Value.cells, List.toList_toArray] at x3)
    refine clsI ?_
    refine runJ ?_
    (apply s_storeV; exact rfl; exact rfl; exact rfl; exact (OneAll.cons hvx OneAll.nil : OneAll [vx]); exact rfl; exact rfl; exact x3; exact rfl)
    intro h4 x4 k4
    refine ⟨trivial, ?_⟩
    have x4 : Var h4 p8 56 [vx] := x4
    have e24 : Ext h2 h4 := k4.oldV e3 b3 (Nat.le_refl _)
    refine runJ ?_
    apply (s_call Tryz_ent51 rfl rfl rfl)
    refine (level_spec g vx R rx h4 K (A2.ext e24) (Sx.ext (E2.trans e24)) Px).mono ?_
    rintro _ h5 ⟨rfl, e5⟩
    refine ⟨trivial, ?_⟩
    rw [show rx.length - 1 = m by omega]
    refine runJ ?_
    (apply s_splitG; exact rfl; exact rfl; exact rfl; exact rfl) <;> intro g2
    · refine runJ ?_
      have hfm := j2 g2
      (apply w_condF; exact rfl; exact rfl; exact (show ¬ m ≠ f by omega))
      refine runJ ?_
      apply again_normal (j + 1, m)
      · exact subs
      · exact ⟨e2.trans (e24.trans e5), hj, fun _ => rfl⟩
      · dsimp only; omega
    · refine runJ ?_
      apply again_normal (j + 1, m)
      · exact subs
      · exact ⟨e2.trans (e24.trans e5), hj, fun _ => rfl⟩
      · dsimp only; omega
  · have hf := j2 (by omega)
    subst hf
    refine runJ ?_
    exact fin2 rfl rfl rfl ⟨rfl, E2⟩
end Go.Proofs.YtfcmdefigldpnaaGreatDoor

