/- Texts CipD to CipN of this work, joined, without what the law does not lean on. -/
import Derived.Test.YtfcmdefigldpnaaGreatDoorMCb29
namespace Go.Proofs.YtfcmdefigldpnaaGreatDoor
set_option linter.unusedVariables false
set_option maxRecDepth 8000
open Go Go.Den Go.RowKit Go.Mth Go.Dig

def HoldR (n : Nat) (qs : List Nat) (ss : List Int) (c0 c1 : List (List Nat)) (x : List (List Nat)) : Prop := x.length = qs.length ∧ ∀ (i q : Nat) (a b r : List Nat), qs[i]? = some q → c0[i]? = some a → c1[i]? = some b → x[i]? = some r → ∃ zC, Cnv n q b (liftL ss q) zC ∧ r = addL q zC a

theorem Tryz_ent59 : Ent Tryz.prog 59 := ent_of Tryz.func59 (by kernel_rfl) rfl
set_option maxHeartbeats 8000000 in
theorem holdsC_spec (L t w : Nat) (vq vs vc : Value) (qs : List Nat) (ss : List Int) (c0 c1 : Value × List (Value × List Nat)) (h : Hp) (TB0 : TB h) (A : ParAt h ⟨((2 ^ L : Nat) : Int), t, vq, qs, (w : Int)⟩) (P : parP ⟨((2 ^ L : Nat) : Int), t, vq, qs, (w : Int)⟩) (hL3 : 3 ≤ L) (hL9 : L ≤ 9) (hQ : ∀ q ∈ qs, QOk L q)
    (s : SlF h I vs ss) (hS : SecP ((2 ^ L : Nat) : Int) ss) (sc : SlA h (fun x : Value × List (Value × List Nat) => [x.1]) 1 vc [c0, c1])
    (hp : ∀ x ∈ [c0, c1], PolAt h x.1 x.2 ∧ x.2.length = qs.length ∧ ∀ (i q : Nat) (y : Value × List Nat), x.2[i]? = some y → qs[i]? = some q → Fit (2 ^ L) q y.2) :
    CallsH Tryz.prog 59 [.agg #[N (2 ^ L), U t, vq, N w], vs, .agg #[vc]] h fun v' h' => Ext h h' ∧ ∃ vr rows p, v' = .tuple #[.agg #[vr], N (qs.length - 1), N 0] ∧ RowsAt h' h.size p vr rows ∧ HoldR (2 ^ L) qs ss (c0.2.map (·.2)) (c1.2.map (·.2)) (rows.map (·.2))  ∧ ∃ R : RngD, RngOk R ∧ R.L = L ∧ R.qs = qs := by
  have hq0 : 0 < qs.length := P.2.2.1.2.2.1
  have hq8 : qs.length ≤ 8 := P.2.2.1.2.2.2
  have hp9 : 2 ^ L ≤ 2 ^ 9 := Nat.pow_le_pow_right (by decide) hL9
  have e9 : (2 : Nat) ^ 9 = 512 := by decide
  have hqo : vq.oneCell' = true := A.row.one
  have hsb : ∀ x ∈ ss, -9223372036854775808 ≤ x ∧ x < 9223372036854775808 := fun x hx => by have := hS.1 x hx; omega
  have hsl : ss.length = 2 ^ L := by have := hS.2; omega
  obtain ⟨SC0, lc0, fc0⟩ := hp c0 (by simp)
  obtain ⟨SC1, lc1, fc1⟩ := hp c1 (by simp)
  (apply enter Tryz.func59 rfl Tryz.ntmps59 rfl)
  refine runJ ?_
  (apply s_box; exact rfl; exact rfl; exact rfl; exact rfl)
  intro p3 h1 x1 e1 b1
  (try dsimp only [Value.cells, List.toList_toArray] at x1)
  refine clsI ?_
  refine runJ ?_
  (apply s_box; exact rfl; exact rfl; exact rfl; exact rfl)
  intro p5 h2 x2 e2 b2
  (try dsimp only [Value.cells, List.toList_toArray] at x2)
  refine clsI ?_
  have x2 : Var h2 p5 62 [vc] := x2
  refine runJ ?_
  (apply s_alloc; exact rfl; exact rfl; exact rfl)
  intro p6 h3 x3 e3 b3
  (try dsimp only [Value.cells, List.toList_toArray] at x3)
  refine clsI ?_
  have E3 := (e1.trans e2).trans e3
  have x13 := (x1.ext e2).ext e3
  have x23 := x2.ext e3
  refine runJ ?_
  apply (s_call Tryz_ent49 rfl rfl rfl)
  refine (start_spec L t w vq qs h3 (TB0.ext E3) (A.ext E3) P hL3 hL9 hQ).mono ?_
  rintro _ h4 ⟨e4, g, R, rfl, RA, RO, hRL, hRq, RN⟩
  refine ⟨trivial, ?_⟩
  have E4 := E3.trans e4
  have x14 := x13.ext e4
  have x24 := x23.ext e4
  have x34 := x3.ext e4
  have gone : g.oneCell' = true := RA.var.one
  have hpol : ∀ x : Value × List (Value × List Nat), x.2.length = qs.length → (∀ (i q : Nat) (y : Value × List Nat), x.2[i]? = some y → qs[i]? = some q → Fit (2 ^ L) q y.2) → PolOk R x.2 := fun x hl hf => ⟨by omega, by rw [hRq]; omega, fun i q y hy hq => by rw [hRL]; rw [hRq] at hq; exact hf i q y hy hq⟩
  refine runJ ?_
  apply (s_call Tryz_ent96 rfl rfl rfl)
  refine (level12_spec g vc R [c0, c1] (qs.length - 1) h4 RO RA (sc.ext E4) (by simp) (by simp) (fun x hx => ⟨(hp x hx).1.ext E4, hpol x (hp x hx).2.1 (hp x hx).2.2, by have := (hp x hx).2.1; omega⟩)).mono ?_
  rintro _ h5 ⟨rfl, e5⟩
  refine ⟨trivial, ?_⟩
  have E5 := E4.trans e5
  have x15 := x14.ext e5
  have x25 := x24.ext e5
  have x35 := x34.ext e5
  refine runJ ?_
  apply (s_call Tryz_ent118 rfl rfl rfl)
  refine (isSecC_spec (2 ^ L) t w vq vs ss h5 (s.ext E5) hqo hS (by omega)).mono ?_
  rintro _ h6 ⟨rfl, e6⟩
  refine ⟨trivial, ?_⟩
  have E6 := E5.trans e6
  have x16 := x15.ext e6
  have x26 := x25.ext e6
  have x36 := x35.ext e6
  have RA6 := (RA.ext e5).ext e6
  refine runJ ?_
  apply (s_call Tryz_ent55 rfl rfl rfl)
  refine (ringLift_spec g vs R ss (qs.length - 1) h6 RO RA6 (s.ext E6) hsb (by rw [hRL]; exact hsl) (by rw [hRq]; omega)).mono ?_
  rintro _ h7 ⟨e7, vl, rl, pl, rfl, RL, ml⟩
  refine ⟨trivial, ?_⟩
  have E7 := E6.trans e7
  have x17 := x16.ext e7
  have x27 := x26.ext e7
  have x37 := x36.ext e7
  have RA7 := RA6.ext e7
  have hvl := RL.own.sl.one
  have mlr : rl.map (·.2) = qs.map (liftL ss) := by
    rw [ml, hRq, show qs.length - 1 + 1 = qs.length by omega, List.take_length]
  have hlr : rl.length = qs.length := by have := congrArg List.length mlr; rwa [List.length_map, List.length_map] at this
  have mli : ∀ (i q : Nat) (x : Value × List Nat), rl[i]? = some x → qs[i]? = some q → x.2 = liftL ss q := fun i q x hx hq => by
    have h2 := congrArg (fun l => l[i]?) mlr
    simp only [List.getElem?_map, hx, hq, Option.map_some, Option.some.injEq] at h2
    exact h2
  have flr : ∀ (i q : Nat) (y : Value × List Nat), rl[i]? = some y → qs[i]? = some q → Fit (2 ^ L) q y.2 := fun i q y hy hq => by
    rw [mli i q y hy hq]
    have hq1 := (hQ q (List.mem_of_getElem? hq)).q1
    refine ⟨by rw [lift_len]; exact hsl, fun z hz => ?_⟩
    unfold liftL at hz
    obtain ⟨z', -, rfl⟩ := List.mem_map.1 hz
    exact liftm_lt9 (by omega)
  refine runJ ?_
  (apply s_alloc; exact rfl; exact rfl; exact rfl)
  intro p12 h8 x8 e8 b8
  (try dsimp only [Value.cells, List.toList_toArray] at x8)
  refine clsI ?_
  refine runJ ?_
  (apply s_storeV; exact rfl; exact rfl; exact rfl; exact (OneAll.cons hvl OneAll.nil : OneAll [vl]); exact rfl; exact rfl; exact x8; exact rfl)
  intro h9 x9 k9
  refine ⟨trivial, ?_⟩
  have x9 : Var h9 p12 56 [vl] := x9
  have e79 : Ext h7 h9 := k9.oldV e8 b8 (Nat.le_refl _)
  have E9 := E7.trans e79
  have x29 := x27.ext e79
  have x39 := x37.ext e79
  have RL9 := RL.ext e79
  have RA9 := RA7.ext e79
  have sc9 := sc.ext E9
  have hc1 : [c0, c1][1]? = some c1 := rfl
  have hc0 : [c0, c1][0]? = some c0 := rfl
  refine runJ ?_
  refine o_know (t := 57) (u := N 2) rfl rfl ?_
  refine runJ ?_
  (apply s_alloc; exact rfl; exact rfl; exact rfl)
  intro p16 h10 x10 e10 b10
  (try dsimp only [Value.cells, List.toList_toArray] at x10)
  refine clsI ?_
  have hv1 : c1.1.oneCell' = true := SC1.row.one
  refine runJ ?_
  (apply s_storeV; exact rfl; exact rfl; exact rfl; exact (OneAll.cons hv1 OneAll.nil : OneAll [c1.1]); exact rfl; exact rfl; exact x10; exact rfl)
  intro h11 x11 k11
  refine ⟨trivial, ?_⟩
  have x11 : Var h11 p16 56 [c1.1] := x11
  have e911 : Ext h9 h11 := k11.oldV e10 b10 (Nat.le_refl _)
  have E11 := E9.trans e911
  have x211 := x29.ext e911
  have x311 := x39.ext e911
  have x911 := x9.ext e911
  have RL11 := RL9.ext e911
  have RA11 := RA9.ext e911
  have sc11 := sc9.ext e911
  have hs911 : h9.size < h11.size := by obtain ⟨b, hb, hl⟩ := x11.blk; rw [b10] at hb; cases hb; exact hl
  refine runJ ?_
  refine o_know (t := 63) (u := N 2) rfl rfl ?_
  refine runJ ?_
  (first | (apply w_seqB; exact rfl; apply w_block; exact rfl) | skip)
  apply (w_loop (σ := Int × Value × List (Value × List Nat)) rfl (fun j => [(5, p5), (6, p6), (11, N (qs.length - 1)), (12, p12), (14, .func (.func 57) #[g] #[]), (15, .func (.func 56) #[g] #[]), (16, p16), (17, I j.1)])
    (fun j h' => Ext h9 h' ∧ h11.size ≤ h'.size ∧ Var h' p16 56 [j.2.1] ∧ ((j.1 = 0 ∧ j.2 = c1) ∨ (j.1 = -1 ∧ (∃ p, RowsAt h' h9.size p j.2.1 j.2.2) ∧ HoldR (2 ^ L) qs ss (c0.2.map (·.2)) (c1.2.map (·.2)) (j.2.2.map (·.2))))) (fun j => (j.1 + 1).toNat) (0, c1))
  · exact subsX
  · exact ⟨e911, Nat.le_refl _, x11, .inl ⟨rfl, rfl⟩⟩
  rintro ⟨j, v, rs⟩ h12 ⟨e12, z12, x12, hj⟩
  dsimp only at e12 z12 x12 hj ⊢
  refine runJ ?_
  (apply w_condD; exact rfl; exact rfl) <;> intro hjj
  · obtain ⟨hj0, hc⟩ : j = 0 ∧ (v, rs) = c1 := by
      rcases hj with hj | ⟨hj, -⟩
      · exact hj
      · omega
    obtain ⟨rfl, rfl⟩ : v = c1.1 ∧ rs = c1.2 := by rw [← hc]; exact ⟨rfl, rfl⟩
    have E12 := E9.trans e12
    have x912 := x9.ext e12
    have MU := ringMul_spec g c1.1 vl R c1.2 rl h12 RO (RA9.ext e12) (SC1.ext E12) (RL9.ext e12).pol (hpol c1 lc1 fc1) (hpol (vl, rl) hlr flr) (by omega)
    refine w_know (t := 17) (u := N 0) rfl (congrArg I hj0) ?_
    refine runJ ?_
    refine s_callV rfl Tryz_ent56 rfl rfl rfl ?_
    refine (MU).mono ?_
    rintro _ h13 ⟨e13, vm, rm, pm, rfl, RM, lm, mm⟩
    refine ⟨trivial, ?_⟩
    have mm := mul_cnv RO mm
    rw [hRL, hRq] at mm
    have hvm := RM.own.sl.one
    have x1213 := x12.ext e13
    refine runJ ?_
    (apply s_storeV; exact rfl; exact rfl; exact rfl; exact (OneAll.cons hvm OneAll.nil : OneAll [vm]); exact rfl; exact rfl; exact x1213; exact rfl)
    intro h14 x14 k14
    refine ⟨trivial, ?_⟩
    have x14 : Var h14 p16 56 [vm] := x14
    have e914 : Ext h9 h14 := k14.oldV (e12.trans e13) b10 (Nat.le_refl _)
    have E14 := E9.trans e914
    have RM14 := RM.neT x1213 k14
    have x214 := x29.ext e914
    have sc14 := sc9.ext e914
    have n5 : pblk p5 ≠ pblk p16 := by
      obtain ⟨b, hb, hl⟩ := x29.blk
      rw [hb, b10]; intro e; have := Option.some.inj e; omega
    have nvc : vc.ownBlock = none ∨ vc.ownBlock ≠ pblk p16 := by
      have hlt : ∀ b, vc.ownBlock = some b → b < h9.size := (show SlF h9 Prod.fst vc [c0, c1] from sc9.2).lt (by simp)
      rw [b10]
      cases hb : vc.ownBlock with
      | none => exact .inl rfl
      | some b => exact .inr fun e => by have := Option.some.inj e; have := hlt b hb; omega
    have fm : ∀ (i q : Nat) (x : Value × List Nat), rm[i]? = some x → qs[i]? = some q → Fit (2 ^ L) q x.2 := fun i q x hx hqi => by
      have hi := (List.getElem?_eq_some_iff.1 hqi).1
      obtain ⟨xa, hxa⟩ := get_lt (l := c1.2) (j := i) (by omega)
      obtain ⟨xl, hxl⟩ := get_lt (l := rl) (j := i) (by omega)
      exact (mm i q xa xl x hxa hxl hqi hx).1
    have AD := ringAdd_spec g vm c0.1 R rm c0.2 h14 RO (RA9.ext e914) RM14.pol (SC0.ext E14) (hpol (vm, rm) (by dsimp only; omega) fm) (hpol c0 lc0 fc0) (by omega)
    refine runJN ?_
    (apply (r_drawnR (Only (pblk p16) h14) (fun i => Nat.beq i 1)); exact rfl; exact mixed; kernel_rfl; exact Only.refl _ _)
    refine runJ ?_
    refine s_loadV rfl rfl (rd_now rfl (Only.refl _ _) x14) rfl rfl ?_
    refine runJ ?_
    refine s_loadPA (cs := [c0.1]) rfl rfl (rd_cl fun h' k => (sc14.only k nvc).cells hc0) rfl rfl ?_
    refine runJ ?_
    refine s_callV rfl Tryz_ent57 rfl rfl rfl ?_
    refine (AD).mono ?_
    rintro _ h15 ⟨e15, va, rA, rfl, RAd, lad, mad⟩
    refine ⟨(by first | exact trivial | exact e15.only _), ?_⟩
    rw [hRq] at mad
    have hva := RAd.own.sl.one
    have x1415 := x14.ext e15
    refine runJ ?_
    (apply s_storeV; exact rfl; exact rfl; exact rfl; exact (OneAll.cons hva OneAll.nil : OneAll [va]); exact rfl; exact rfl; exact x1415; exact rfl)
    intro h16 x16 k16
    refine ⟨(e15.only _).trans k16, ?_⟩
    have x16' : Var h16 p16 56 [va] := x16
    have e916 : Ext h9 h16 := k16.oldV (e914.trans e15) b10 (Nat.le_refl _)
    have RA16 := RAd.neT x1415 k16
    refine runJ ?_
    apply again_normal (j - 1, va, rA)
    · exact subsX
    · refine ⟨e916, by have := e13.1; have := k14.1; have := e15.1; have := k16.1; omega, x16', .inr ⟨by dsimp only; omega, ⟨_, RA16.base e914.1⟩, ?_⟩⟩
      refine ⟨by rw [List.length_map]; show rA.length = _; omega, fun i q a b r hqi ha hb hr => ?_⟩
      rw [List.getElem?_map] at ha hb hr
      obtain ⟨xa, hxa, rfl⟩ := Option.map_eq_some_iff.1 ha
      obtain ⟨xb, hxb, rfl⟩ := Option.map_eq_some_iff.1 hb
      obtain ⟨xr, hxr, rfl⟩ := Option.map_eq_some_iff.1 hr
      have hi := (List.getElem?_eq_some_iff.1 hqi).1
      obtain ⟨xl, hxl⟩ := get_lt (l := rl) (j := i) (by omega)
      obtain ⟨xm, hxm⟩ := get_lt (l := rm) (j := i) (by omega)
      refine ⟨xm.2, ?_, mad i q xm xa xr hxm hxa hqi hxr⟩
      rw [← mli i q xl hxl hqi]
      exact mm i q xb xl xm hxb hxl hqi hxm
    · dsimp only; omega
  · obtain ⟨hj1, ⟨p, R12⟩, hH⟩ : j = -1 ∧ (∃ p, RowsAt h12 h9.size p v rs) ∧ HoldR (2 ^ L) qs ss (c0.2.map (·.2)) (c1.2.map (·.2)) (rs.map (·.2)) := by
      rcases hj with ⟨hj, -⟩ | hj
      · omega
      · exact hj
    have x312 := x39.ext e12
    have hvv := R12.own.sl.one
    refine runJ ?_
    (apply s_storeV; exact rfl; exact rfl; exact rfl; exact (OneAll.cons hvv OneAll.nil : OneAll [v]); exact rfl; exact rfl; exact x312; exact rfl)
    intro h13 x13' k13
    refine ⟨trivial, ?_⟩
    have x13' : Var h13 p6 56 [v] := x13'
    have E13 : Ext h h13 := k13.oldV (E9.trans e12) b3 (e1.trans e2).1
    refine runJ ?_
    exact finCTT rfl rfl rfl rfl x13' rfl rfl ⟨E13, v, rs, p, rfl, (R12.neT x312 k13).base E9.1, hH, R, RO, hRL, hRq⟩

theorem prodL_pos9 {row : List Nat} (h : ∀ q ∈ row, 1 ≤ q) : 0 < prodL row := by
  have key : ∀ (row : List Nat) (n : Nat), 0 < n → (∀ q ∈ row, 1 ≤ q) → 0 < row.foldl (· * ·) n := by
    intro row
    induction row with
    | nil => intro n hn _; exact hn
    | cons q row ih =>
      intro n hn h
      exact ih (n * q) (Nat.mul_pos hn (h q (by simp))) fun x hx => h x (by simp [hx])
  exact key row 1 (by decide) h
def tellV (Q t : Nat) (z : Int) : Nat := liftm (nearZ (z * t) Q) t
theorem tell_pos {y : Int} {t : Nat} (ht : 0 < t) (hy : ¬ y < 0) : y.natAbs % t = liftm y t := by
  unfold liftm
  rw [if_neg (by omega)]
  obtain ⟨m, rfl⟩ : ∃ m : Nat, y = m := ⟨y.toNat, by omega⟩
  rw [Int.natAbs_natCast, ← Int.natCast_emod, Int.toNat_natCast]
theorem tell_neg {y : Int} {t : Nat} (ht : 0 < t) (hy : y < 0) : subm 0 (y.natAbs % t) t = liftm y t := by
  unfold liftm subm
  rw [if_neg (by omega), if_neg (by omega), Nat.mod_mod, Nat.zero_add]
  obtain ⟨m, rfl⟩ : ∃ m : Nat, y = -(m : Int) := ⟨y.natAbs, by omega⟩
  rw [Int.natAbs_neg, Int.natAbs_natCast]
  have h1 := Nat.mod_lt m ht
  have h2 := Nat.div_add_mod m t
  have e : -(m : Int) = ((t - m % t : Nat) : Int) + t * (-((m / t : Nat) : Int) - 1) := by
    rw [Int.natCast_sub (Nat.le_of_lt h1), Int.mul_sub, Int.mul_neg, ← Int.natCast_mul]
    omega
  rw [e, Int.add_mul_emod_self_left, ← Int.natCast_emod, Int.toNat_natCast]

theorem near_bd {z : Int} {t Q : Nat} (h1 : -(Q : Int) < 2 * z) (h2 : 2 * z < Q) : (nearZ (z * (t : Int)) Q).natAbs ≤ t + 1 := by
  have hQ : (0 : Int) < 2 * (Q : Int) := by omega
  have ht : (0 : Int) ≤ t := by omega
  have a := Int.mul_le_mul_of_nonneg_right (Int.le_of_lt h2) ht
  have b := Int.mul_le_mul_of_nonneg_right (Int.le_of_lt h1) ht
  rw [Int.mul_assoc] at a b
  rw [Int.neg_mul] at b
  unfold nearZ
  have u : (2 * (z * (t : Int)) + (Q : Int)) / (2 * (Q : Int)) ≤ (t : Int) + 1 := by
    refine Int.le_of_lt_add_one ((Int.ediv_lt_iff_lt_mul hQ).2 ?_)
    have e : ((t : Int) + 1 + 1) * (2 * (Q : Int)) = 2 * ((Q : Int) * t) + 4 * Q := by grind
    have := Int.mul_nonneg (show (0 : Int) ≤ Q by omega) ht
    omega
  have l : -((t : Int) + 1) ≤ (2 * (z * (t : Int)) + (Q : Int)) / (2 * (Q : Int)) := by
    refine (Int.le_ediv_iff_mul_le hQ).2 ?_
    have e : -((t : Int) + 1) * (2 * (Q : Int)) = -(2 * ((Q : Int) * t)) - 2 * Q := by grind
    have := Int.mul_nonneg (show (0 : Int) ≤ Q by omega) ht
    omega
  omega

theorem Tryz_ent21 : Ent Tryz.prog 21 := ent_of Tryz.func21 (by kernel_rfl) rfl
set_option maxHeartbeats 8000000 in
theorem tellC_spec (L t w : Nat) (vq vs vc : Value) (qs : List Nat) (ss : List Int) (c0 c1 : Value × List (Value × List Nat)) (zs : List Int) (h : Hp) (TB0 : TB h) (A : ParAt h ⟨((2 ^ L : Nat) : Int), t, vq, qs, (w : Int)⟩) (P : parP ⟨((2 ^ L : Nat) : Int), t, vq, qs, (w : Int)⟩) (hL3 : 3 ≤ L) (hL9 : L ≤ 9) (hQ : ∀ q ∈ qs, QOk L q)
    (s : SlF h I vs ss) (hS : SecP ((2 ^ L : Nat) : Int) ss) (sc : SlA h (fun x : Value × List (Value × List Nat) => [x.1]) 1 vc [c0, c1])
    (hp : ∀ x ∈ [c0, c1], PolAt h x.1 x.2 ∧ x.2.length = qs.length ∧ ∀ (i q : Nat) (y : Value × List Nat), x.2[i]? = some y → qs[i]? = some q → Fit (2 ^ L) q y.2)
    (C : Cop qs) (hH : ∀ (R : RngD), RngOk R → R.L = L → R.qs = qs → ∀ x, HoldR (2 ^ L) qs ss (c0.2.map (·.2)) (c1.2.map (·.2)) x → ResOf (2 ^ L) qs x zs) (hz : ∀ z ∈ zs, -(prodL qs : Int) < 2 * z ∧ 2 * z < prodL qs) (hzl : zs.length = 2 ^ L) :
    CallsH Tryz.prog 21 [.agg #[N (2 ^ L), U t, vq, N w], vs, .agg #[vc]] h fun v' h' => Ext h h' ∧ ∃ vo, v' = .tuple #[vo, N 0] ∧ OwnF h' h.size 26 U vo (zs.map (tellV (prodL qs) t)) := by
  have b64 : (1 : Nat) < 18446744073709551616 := by decide
  have b640 : (0 : Nat) < 18446744073709551616 := by decide
  have hq0 : 0 < qs.length := P.2.2.1.2.2.1
  have hq8 : qs.length ≤ 8 := P.2.2.1.2.2.2
  have hnd : qs.Nodup := P.2.2.1.2.1
  have ht30 : t < 1073741824 := P.2.1.1
  have hp9 : 2 ^ L ≤ 2 ^ 9 := Nat.pow_le_pow_right (by decide) hL9
  have e9 : (2 : Nat) ^ 9 = 512 := by decide
  have ht0 : 0 < t := by
    have := P.2.1.2.1
    dsimp only at this
    rcases Nat.eq_zero_or_pos t with h | h
    · rw [h, Nat.zero_mod] at this; cases this
    · exact h
  have hne : qs ≠ [] := fun e => by rw [e] at hq0; exact absurd hq0 (by decide)
  have hal : Al 18446744073709551616 qs := A.al
  have hR := rightP_of hL3 hQ hnd hq0 (by omega)
  have hqo : vq.oneCell' = true := A.row.one
  have hPl := prodL_lt hal
  generalize hPe : prodL qs = Q at *
  have hQ0 : 0 < Q := by
    rw [← hPe]
    exact prodL_pos9 fun q hq => by have := (hQ q hq).q1; omega
  have lQ : (dg 18446744073709551616 Q).length ≤ 9 := by
    have := dg_len (b := 18446744073709551616) (n := Q) (k := qs.length + 1) b64 hPl
    omega
  (apply enter Tryz.func21 rfl Tryz.ntmps21 rfl)
  refine runJ ?_
  (apply s_box; exact rfl; exact rfl; exact rfl; exact rfl)
  intro p3 h1 x1 e1 b1
  (try dsimp only [Value.cells, List.toList_toArray] at x1)
  refine clsI ?_
  refine runJ ?_
  (apply s_box; exact rfl; exact rfl; exact rfl; exact rfl)
  intro p5 h2 x2 e2 b2
  (try dsimp only [Value.cells, List.toList_toArray] at x2)
  refine clsI ?_
  have x2 : Var h2 p5 62 [vc] := x2
  have E2 := e1.trans e2
  have x12 := x1.ext e2
  refine runJ ?_
  apply (s_call Tryz_ent59 rfl rfl rfl)
  refine (holdsC_spec L t w vq vs vc qs ss c0 c1 h2 (TB0.ext E2) (A.ext E2) P hL3 hL9 hQ (s.ext E2) hS (sc.ext E2) (fun x hx => ⟨(hp x hx).1.ext E2, (hp x hx).2⟩)).mono ?_
  rintro _ h3 ⟨e3, vr, rows, pr, rfl, RW, HR, R, RO, hRL, hRq⟩
  refine ⟨trivial, ?_⟩
  have E3 := E2.trans e3
  have x13 := x12.ext e3
  have hvr := RW.own.sl.one
  refine runJ ?_
  (apply s_alloc; exact rfl; exact rfl; exact rfl)
  intro p8 h4 x4 e4 b4
  (try dsimp only [Value.cells, List.toList_toArray] at x4)
  refine clsI ?_
  refine runJ ?_
  (apply s_storeV; exact rfl; exact rfl; exact rfl; exact (OneAll.cons hvr OneAll.nil : OneAll [vr]); exact rfl; exact rfl; exact x4; exact rfl)
  intro h5 x5 k5
  refine ⟨trivial, ?_⟩
  have x5 : Var h5 p8 56 [vr] := x5
  have e35 : Ext h3 h5 := k5.oldV e4 b4 (Nat.le_refl _)
  have E5 := E3.trans e35
  have x15 := x13.ext e35
  have RW5 := RW.ext e35
  have sq5 : SlF h5 U vq qs := A.row.ext E5
  have c5 := sq5.cut (lo := 0) (hi := qs.length - 1 + 1) (Nat.zero_le _) (by omega)
  rw [List.drop_zero, Nat.sub_zero, List.take_of_length_le (by omega)] at c5
  refine runJ ?_
  apply (s_call Tryz_ent60 rfl rfl rfl)
  refine (cWholes_spec vr _ rows qs (2 ^ L) zs h5 (TB0.ext E5) RW5.pol c5 hR C (by omega) (hH R RO hRL hRq _ HR) (by rw [hPe]; exact hz)).mono ?_
  rintro _ h6 ⟨e6, v11, xs, rfl, I6, mx⟩
  refine ⟨(by first | exact trivial | exact e6), ?_⟩
  have E6 := E5.trans e6
  have x16 := x15.ext e6
  have c6 := c5.ext e6
  have sq6 := sq5.ext e6
  refine runJ ?_
  apply (s_call Tryz_ent61 rfl rfl rfl)
  refine (product_spec _ qs h6 c6 hal (by omega)).mono ?_
  rintro v13 h7 ⟨e7, o7⟩
  refine ⟨trivial, ?_⟩
  rw [if_neg hne, hPe] at o7
  have hxl : xs.length = 2 ^ L := by have := congrArg List.length mx; rw [List.length_map] at this; omega
  have I7 := I6.ext e7
  have sI7 := I7.sla
  refine runJ ?_
  (apply (s_make (f := U) (bytes := 8) (0)); (first | exact isK_c | exact isK_t rfl); (first | exact isK_c | exact isK_t rfl); exact rfl; exact rfl; exact rfl; exact rfl; exact rfl; exact rfl; omega; omega; omega)
  intro vO h8 o8 e8 b8
  refine clsI ?_
  have E8 := (E6.trans e7).trans e8
  have x18 := (x16.ext e7).ext e8
  have I8 := I7.ext e8
  have sI8 := I8.sla
  have o78 := o7.ext e8
  refine runJ ?_
  (first | (apply w_seqB; exact rfl; apply w_block; exact rfl) | skip)
  apply (w_loop (σ := Nat) rfl (fun j => [(3, p3), (11, v11), (13, v13), (14, vO), (49, N xs.length), (50, N j)])
    (fun j h' => Ext h7 h' ∧ h8.size ≤ h'.size ∧ j ≤ xs.length ∧ OwnF h' h7.size 26 U vO ((zs.map (tellV Q t)).take j ++ List.replicate (xs.length - j) 0)) (fun j => xs.length - j) 0)
  · exact subs
  · exact ⟨e8, Nat.le_refl _, Nat.zero_le _, o8⟩
  rintro j h9 ⟨e9', z9, j1, o9⟩
  have E9 := (E6.trans e7).trans e9'
  have x19 := (x16.ext e7).ext e9'
  have I9 := I7.ext e9'
  have sI9 := I9.sla
  have o79 := o7.ext e9'
  have hlz : (zs.map (tellV Q t)).length = xs.length := by rw [List.length_map]; omega
  refine runJ ?_
  (apply w_condD; exact rfl; exact rfl) <;> intro hj
  · obtain ⟨⟨va, z⟩, hxj⟩ := get_lt hj
    have hxm := List.mem_of_getElem? hxj
    have sva := (I9.el _ hxm).sl
    dsimp only at sva
    have hzj : zs[j]? = some z := by rw [← mx, List.getElem?_map, hxj]; rfl
    have hzb := hz z (List.mem_of_getElem? hzj)
    have lz : (dg 18446744073709551616 z.natAbs).length ≤ 9 := by
      have := dg_len (b := 18446744073709551616) (n := z.natAbs) (k := qs.length + 1) b64 (by omega)
      omega
    have hvj : (zs.map (tellV Q t))[j]? = some (tellV Q t z) := by rw [List.getElem?_map, hzj]; rfl
    refine runJN ?_
    refine r_drawnKR (h := h9) (Ext h9) (fun i => Nat.beq i 14) (fun _ => false) Ext (fun _ p g => Var g p 124 [.bool false, .slice none 0 0] ∧ ∃ b, pblk p = some b ∧ h9.size ≤ b) rfl mixed (by kernel_rfl) (fun _ _ e => e) (fun _ _ _ _ a e => ⟨a.1.ext e, a.2⟩) (Ext.refl _) ?_
    refine k_run (j := 6) h9 rfl rfl (by kernel_rfl) (by kernel_rfl) ?_
    refine runJ ?_
    refine ⟨⟨rfl, ?_⟩⟩
    refine k_call rfl rfl rfl rfl Tryz_ent64 rfl ?_
    intro g1 hC1 hD1 hT1
    refine (of_spec t g1 (by omega)).mono ?_
    rintro vT g2 ⟨f2, oT⟩
    refine ⟨hC1.trans f2, .inl ⟨f2, ?_⟩⟩
    refine k_run (j := 8) g2 rfl rfl (by kernel_rfl) (by kernel_rfl) ?_
    refine runJ ?_
    (apply (s_build ([.bool false, vT])); exact rfl; exact rfl; exact rfl; (repeat (first | exact CellsAll.nil | (apply CellsAll.cons; (first | exact oneL (by assumption) | exact oneL (SlF.one (by assumption)) | exact oneL (SlF.one (OwnF.sl (by assumption))) | exact oneL (Var.one (by assumption)) | exact rfl)))); exact rfl; exact rfl)
    refine runJ ?_
    refine ⟨⟨rfl, ?_⟩⟩
    refine k_call rfl rfl rfl rfl Tryz_ent63 rfl ?_
    intro g3 hC3 hD3 hT3
    have lt1 : (dg 18446744073709551616 t).length ≤ 1 := dg_len b64 (by omega)
    have NT := ntimes_spec (decide (z < 0)) false va vT _ _ g3 (sva.ext hC3) (oT.ext hD3).sl (al_dg b640 _) (al_dg b640 _) (by omega) (by omega)
    rw [vl_dg b64, vl_dg b64, iv_nat, show IV false t = (t : Int) from rfl] at NT
    refine NT.mono ?_
    rintro _ g4 ⟨f4, az, rfl, oz⟩
    refine ⟨hC3.trans f4, .inl ⟨f4, ?_⟩⟩
    refine k_run (j := 10) g4 rfl rfl (by kernel_rfl) (by kernel_rfl) ?_
    refine runJ ?_
    refine ⟨⟨rfl, ?_⟩⟩
    refine k_call rfl rfl rfl rfl Tryz_ent62 rfl ?_
    intro g5 hC5 hD5 hT5
    have lzt : (dg 18446744073709551616 (z * (t : Int)).natAbs).length ≤ 10 := by
      have hlt : (z * (t : Int)).natAbs < 18446744073709551616 ^ (qs.length + 1 + 1) := by
        rw [Int.natAbs_mul, Int.natAbs_natCast, Nat.pow_succ _ (qs.length + 1)]
        exact Nat.mul_lt_mul'' (by omega) (by omega)
      have := dg_len (b := 18446744073709551616) (n := (z * (t : Int)).natAbs) (k := qs.length + 1 + 1) b64 hlt
      omega
    have NR := nnear_spec (decide (z * (t : Int) < 0)) az v13 _ _ g5 (oz.ext hD5).sl (o79.sl.ext hC5) (al_dg b640 _) (al_dg b640 _) (by omega) (by omega)
    rw [vl_dg b64, vl_dg b64, iv_nat, if_neg (by omega), if_neg (by omega)] at NR
    refine NR.mono ?_
    rintro _ g6 ⟨f6, _, rfl, ay, rfl, oy⟩
    have hyb := near_bd (t := t) hzb.1 hzb.2
    generalize hY : nearZ (z * (t : Int)) Q = y at *
    refine ⟨hC5.trans f6, .inl ⟨f6, ?_⟩⟩
    have hay := oy.sl.one
    refine k_run (j := 14) g6 rfl rfl (by kernel_rfl) (by kernel_rfl) ?_
    refine runJ ?_
    refine ⟨⟨rfl, ?_⟩⟩
    refine k_alloc rfl rfl rfl rfl rfl (fun g p g' hC x e b => ⟨hC.trans e, x, _, b, hC.1⟩) ?_
    intro p16
    refine k_storeV (p := p16) (u := .agg #[.bool (decide (y < 0)), ay]) (us := [.bool (decide (y < 0)), ay]) (cs := [.bool false, .slice none 0 0]) (fun g => Ext h9 g ∧ Var g p16 124 [.bool (decide (y < 0)), ay] ∧ SlF g U ay (dg 18446744073709551616 y.natAbs)) rfl rfl rfl rfl rfl rfl (OneAll.cons rfl (OneAll.cons hay OneAll.nil)) rfl rfl (by kernel_rfl) (fun _ _ a e => ⟨a.1.trans e, a.2.1.ext e, a.2.2.ext e⟩) (fun g hC hD hT => (hT (14, p16) (by simp)).1) (fun g g' hC hD hT x k => ?_) ?_
    · obtain ⟨xo, b, hb, hbl⟩ := hT (14, p16) (by simp)
      have e' : Ext h9 g' := ext_onlyR hC k fun j hj => by rw [hb] at hj; cases hj; exact hbl
      exact ⟨e', e', x, (oy.ext hD).sl.only k (Own.neT (oy.ext hD) xo rfl)⟩
    refine k_run (j := 17) g6 rfl rfl (by kernel_rfl) (by kernel_rfl) ?_
    refine runJ ?_
    refine ⟨⟨rfl, ?_⟩⟩
    refine k_done rfl ?_
    rintro h10 hC10 ⟨e10, x16', sy⟩ -
    have x110 := x19.ext e10
    have o10 := o9.ext e10
    have lyy : (dg 18446744073709551616 y.natAbs).length < 1099511627776 := by
      have := dg_len (b := 18446744073709551616) (n := y.natAbs) (k := 1) b64 (by omega)
      omega
    have hm64 : y.natAbs % t < 18446744073709551616 := by have := Nat.mod_lt y.natAbs ht0; omega
    have MD := mod_spec ay _ t h10 sy (al_dg b640 _) lyy (by omega)
    rw [vl_dg b64, if_neg (by omega)] at MD
    have hneg : y < 0 → subm 0 (y.natAbs % t) t = liftm y t := tell_neg ht0
    have hpos : ¬ y < 0 → y.natAbs % t = liftm y t := tell_pos ht0
    generalize hre : y.natAbs % t = r at MD hm64 hneg hpos
    have hcl : ((zs.map (tellV Q t)).take j ++ List.replicate (xs.length - j) 0).length = xs.length := by
      rw [List.length_append, List.length_take, List.length_replicate]; omega
    have hset : ((zs.map (tellV Q t)).take j ++ List.replicate (xs.length - j) 0).set j (tellV Q t z) = (zs.map (tellV Q t)).take (j + 1) ++ List.replicate (xs.length - (j + 1)) 0 := by
      rw [take_snoc hvj, show xs.length - j = (xs.length - (j + 1)) + 1 by omega, List.replicate_succ, List.set_append_right _ _ (by rw [List.length_take]; omega), show j - ((zs.map (tellV Q t)).take j).length = 0 by rw [List.length_take]; omega, List.append_assoc]
      rfl
    have hTy : tellV Q t z = liftm y t := by unfold tellV; rw [hY]
    have hvOb : ∀ b, vO.ownBlock = some b → h7.size ≤ b := fun b hb => (o9.blk b hb).1
    have n3 : pblk p3 ≠ vO.ownBlock := by
      obtain ⟨b, hb, hl⟩ := x16.blk
      rw [hb]; intro e; have := hvOb b e.symm; have := e7.1; omega
    refine runJ ?_
    apply (s_call Tryz_ent65 rfl rfl rfl)
    refine (MD).mono ?_
    rintro _ h11 ⟨rfl, e11⟩
    refine ⟨trivial, ?_⟩
    have x111 := x110.ext e11
    have x1611 := x16'.ext e11
    have o11 := o10.ext e11
    generalize hcur : (zs.map (tellV Q t)).take j ++ List.replicate (xs.length - j) 0 = cur at *
    have n16 : pblk p16 ≠ vO.ownBlock := by
      rcases Own.neT o11 x1611 rfl with n | n
      · rw [n]; obtain ⟨b, hb, -⟩ := x1611.blk; rw [hb]; intro e; cases e
      · exact fun e => n e.symm
    refine runJ ?_
    (apply (s_storeF (r)); exact rfl; exact rfl; exact rfl; exact rfl; exact rfl; exact o11; exact rfl; (first | assumption | omega))
    intro h12 o12 k12
    refine clsI ?_
    have x112 := x111.only k12 n3
    have x1612 := x1611.only k12 n16
    have e912 : Ext h7 h12 := ext_onlyR (e9'.trans (e10.trans e11)) k12 hvOb
    have z12 : h8.size ≤ h12.size := by have := e10.1; have := e11.1; have := k12.1; omega
    refine runJ ?_
    (apply w_condD; exact rfl; exact rfl) <;> intro hy
    · have hcj : (cur.set j r)[j]? = some r := List.getElem?_set_self (by omega)
      have o12s := o12.sl
      have hcl2 : (cur.set j r).length = xs.length := by rw [List.length_set]; exact hcl
      refine runJN ?_
      (apply (r_drawnR (Only vO.ownBlock h12) (fun i => Nat.beq i 5)); exact rfl; exact mixed; kernel_rfl; exact Only.refl _ _)
      refine runJ ?_
      refine s_loadG rfl rfl (rd_now rfl (Only.refl _ _) o12s) rfl hcj ?_
      refine runJ ?_
      apply (s_call Tryz_ent66 rfl rfl rfl)
      refine (sub_spec 0 r t h12 (by omega) (by omega) (by omega)).mono ?_
      rintro _ _ ⟨rfl, rfl⟩
      refine ⟨Only.refl _ _, ?_⟩
      refine runJ ?_
      (apply (s_storeF (subm 0 r t)); exact rfl; exact rfl; exact rfl; exact rfl; exact rfl; exact o12; exact rfl; (first | assumption | omega))
      intro h13 o13 k13
      refine ⟨(by first | exact k13 | exact trivial | exact Ext.refl _ | assumption | exact Ext.trans (by assumption) (by assumption)), ?_⟩
      rw [List.set_set, hneg hy, ← hTy, hset] at o13
      refine runJ ?_
      apply again_normal (j + 1)
      · exact subs
      · exact ⟨ext_onlyR e912 k13 hvOb, Nat.le_trans z12 k13.1, hj, o13⟩
      · omega
    · rw [hpos hy, ← hTy, hset] at o12
      refine runJ ?_
      apply again_normal (j + 1)
      · exact subs
      · exact ⟨e912, z12, hj, o12⟩
      · omega
  · have hjl : j = xs.length := by omega
    subst hjl
    rw [Nat.sub_self, List.replicate_zero, List.append_nil, ← hlz, List.take_length] at o9
    refine runJ ?_
    exact fin2 rfl rfl rfl ⟨E9, vO, rfl, o9.base (E6.trans e7).1⟩
end Go.Proofs.YtfcmdefigldpnaaGreatDoor


namespace Go.Proofs.YtfcmdefigldpnaaGreatDoor
set_option linter.unusedVariables false
set_option maxRecDepth 8000
open Go Go.Mth Go.Dig

def copB (qs : List Nat) : Bool := (List.range qs.length).all fun i => Nat.beq (Nat.gcd (prodL (qs.take i)) (qs.getD i 0)) 1
theorem copB_cop {qs : List Nat} (h : copB qs = true) : Cop qs := fun i q hq => by
  have hi := (List.getElem?_eq_some_iff.1 hq).1
  have := List.all_eq_true.1 h i (List.mem_range.2 hi)
  rw [List.getD_eq_getElem?_getD, hq] at this
  exact Nat.eq_of_beq_eq_true this
theorem q_cop : ∀ i, i < 3 → ∀ j, j < 4 → ∀ c, c < 6 → copB ((qOf i j).take c) = true := by decide +kernel
theorem q_big : ∀ i, i < 3 → ∀ j, j < 4 → ∀ c, c < 6 → 2 ≤ c → Nat.ble 281474976710656 (prodL ((qOf i j).take c)) = true := by decide +kernel
theorem made_cop (a b : Nat) : Cop (qPar a b) ∧ 281474976710656 ≤ prodL (qPar a b) := by
  have hi : pI a < 3 := Nat.mod_lt _ (by decide)
  have hk : pK b < 4 := Nat.mod_lt _ (by decide)
  have hc : pC b < 6 ∧ 2 ≤ pC b := by unfold pC; omega
  exact ⟨copB_cop (q_cop _ hi _ hk _ hc.1), Nat.le_of_ble_eq_true (q_big _ hi _ hk _ hc.1 hc.2)⟩

theorem near_back {Q t S r : Nat} {c e : Int} (hQ : Q = S * t + r) (h1 : -(Q : Int) < 2 * (e * t - c * r)) (h2 : 2 * (e * t - c * r) < Q) : nearZ ((c * S + e) * t) Q = c := by
  have hQ0 : (0 : Int) < 2 * (Q : Int) := by omega
  have hQi : (Q : Int) = S * t + r := by rw [hQ, Int.natCast_add, Int.natCast_mul]
  unfold nearZ
  have e1 : 2 * ((c * (S : Int) + e) * (t : Int)) + (Q : Int) = (Q + 2 * (e * t - c * r)) + c * (2 * (Q : Int)) := by
    have : (c * (S : Int) + e) * (t : Int) = c * Q + (e * t - c * r) := by rw [hQi]; grind
    rw [this]
    grind
  rw [e1, Int.add_mul_ediv_right _ _ (by omega), Int.ediv_eq_zero_of_lt (by omega) (by omega), Int.zero_add]
theorem center_odd {x t : Nat} (hx : x < t) (ht : t < 1073741824) (ho : t % 2 = 1) : -((t : Int) - 1) ≤ 2 * centerm x t ∧ 2 * centerm x t ≤ (t : Int) - 1 := by
  unfold centerm
  rw [if_neg (by omega), Nat.mod_eq_of_lt hx]
  split <;> omega
theorem lift_cent9 {x t : Nat} (hx : x < t) (ht : t < 1073741824) : liftm (centerm x t) t = x := by
  unfold liftm centerm
  rw [if_neg (by omega), if_neg (by omega), Nat.mod_eq_of_lt hx]
  split
  · rw [show ((x : Int) - (t : Int)) = (x : Int) + (t : Int) * (-1) by omega, Int.add_mul_emod_self_left, ← Int.natCast_emod, Int.toNat_natCast, Nat.mod_eq_of_lt hx]
  · rw [← Int.natCast_emod, Int.toNat_natCast, Nat.mod_eq_of_lt hx]
theorem tell_back {Q t x : Nat} {e : Int} (hx : x < t) (ht : t < 100000) (ho : t % 2 = 1) (hQ : 281474976710656 ≤ Q) (h1 : -100000 ≤ e) (h2 : e ≤ 100000) :
    tellV Q t (centerm x t * ((Q / t : Nat) : Int) + e) = x ∧ -(Q : Int) < 2 * (centerm x t * ((Q / t : Nat) : Int) + e) ∧ 2 * (centerm x t * ((Q / t : Nat) : Int) + e) < Q := by
  obtain ⟨c1, c2⟩ := center_odd hx (by omega) ho
  have hd := Nat.div_add_mod Q t
  have hm := Nat.mod_lt Q (show 0 < t by omega)
  have hS : 281474976710656 / 100000 ≤ Q / t := by
    refine Nat.le_trans (Nat.div_le_div_right (c := 100000) hQ) (Nat.div_le_div_left (by omega) (by omega))
  generalize hSe : Q / t = S at *
  generalize hre : Q % t = r at *
  have hlc := lift_cent9 hx (show t < 1073741824 by omega)
  generalize centerm x t = c at *
  have hS2 : 2814749767 ≤ S := hS
  have hQe : Q = S * t + r := by rw [Nat.mul_comm]; exact hd.symm
  have a1 : c * r ≤ 100000 * 100000 ∧ -(100000 * 100000) ≤ c * r := by
    have h3 : (c * (r : Int)).natAbs ≤ 100000 * 100000 := by
      rw [Int.natAbs_mul, Int.natAbs_natCast]
      exact Nat.mul_le_mul (by omega) (by omega)
    omega
  have a2 : e * t ≤ 100000 * 100000 ∧ -(100000 * 100000) ≤ e * t := by
    have h3 : (e * (t : Int)).natAbs ≤ 100000 * 100000 := by
      rw [Int.natAbs_mul, Int.natAbs_natCast]
      exact Nat.mul_le_mul (by omega) (by omega)
    omega
  refine ⟨?_, ?_⟩
  · unfold tellV
    rw [near_back hQe (by omega) (by omega)]
    exact hlc
  · have hQi : (Q : Int) = S * t + r := by rw [hQe, Int.natCast_add, Int.natCast_mul]
    have b1 := Int.mul_le_mul_of_nonneg_right c2 (show (0 : Int) ≤ S by omega)
    have b2 := Int.mul_le_mul_of_nonneg_right c1 (show (0 : Int) ≤ S by omega)
    rw [Int.mul_assoc] at b1 b2
    have e1 : ((t : Int) - 1) * S = S * t - S := by grind
    have e2 : -((t : Int) - 1) * S = -(S * t) + S := by grind
    rw [e1] at b1
    rw [e2] at b2
    omega
end Go.Proofs.YtfcmdefigldpnaaGreatDoor


namespace Go.Proofs.YtfcmdefigldpnaaGreatDoor
set_option linter.unusedVariables false
set_option maxRecDepth 8000
open Go Go.Den Go.RowKit Go.Mth Go.Dig

def heldZ (n : Nat) (ss es us xs ys zs : List Int) : List Int := (List.range n).map fun p => gi zs p + noise n ss es us xs ys p
theorem held_gi {n : Nat} {ss es us xs ys zs : List Int} {p : Nat} (hp : p < n) : gi (heldZ n ss es us xs ys zs) p = gi zs p + noise n ss es us xs ys p := by
  unfold heldZ gi
  rw [List.getD_eq_getElem?_getD, List.getElem?_map, List.getElem?_range hp]
  rfl
theorem hold_res {L : Nat} {qs : List Nat} {R : RngD} (K : RngOk R) (hRL : R.L = L) (hRq : R.qs = qs) {ss es us xs ys zs : List Int} {rb ra c0 c1 x : List (List Nat)}
    (lS : ss.length = 2 ^ L) (lE : es.length = 2 ^ L) (lU : us.length = 2 ^ L) (lX : xs.length = 2 ^ L) (lY : ys.length = 2 ^ L) (lZ : zs.length = 2 ^ L) (lrb : rb.length = qs.length) (lra : ra.length = qs.length) (fra : ∀ (i q : Nat) (a : List Nat), qs[i]? = some q → ra[i]? = some a → a.length = 2 ^ L)
    (hb : ∀ (i q : Nat) (ai b : List Nat), qs[i]? = some q → ra[i]? = some ai → rb[i]? = some b → HidB (2 ^ L) q (liftL ss q) (liftL (List.replicate (2 ^ L) 0) q) ai es b)
    (CR : CipR (2 ^ L) qs rb ra us xs ys zs c0 c1) (HR : HoldR (2 ^ L) qs ss c0 c1 x) : ResOf (2 ^ L) qs x (heldZ (2 ^ L) ss es us xs ys zs) := by
  refine ⟨HR.1, by unfold heldZ; rw [List.length_map, List.length_range], fun i q r hr hq => ?_⟩
  have hi := (List.getElem?_eq_some_iff.1 hq).1
  have htl : R.ts.length = R.qs.length := by have := congrArg List.length K.map; rwa [List.length_map] at this
  obtain ⟨t, ht⟩ := get_lt (l := R.ts) (j := i) (by rw [htl, hRq]; exact hi)
  obtain ⟨hk1, hk2, -⟩ := K.ok t (List.mem_of_getElem? ht)
  have tq : t.2.q = q := by
    have := congrArg (fun l => l[i]?) K.map
    simp only [List.getElem?_map, ht, Option.map_some] at this
    rw [hRq, hq] at this
    exact Option.some.inj this
  obtain ⟨b, hbi⟩ := get_lt (l := rb) (j := i) (by omega)
  obtain ⟨a, hai⟩ := get_lt (l := ra) (j := i) (by omega)
  obtain ⟨d0, hd0⟩ := get_lt (l := c0) (j := i) (by rw [CR.l0]; exact hi)
  obtain ⟨d1, hd1⟩ := get_lt (l := c1) (j := i) (by rw [CR.l1]; exact hi)
  obtain ⟨zB, hB, rfl⟩ := CR.r0 i q b d0 hq hbi hd0
  obtain ⟨zU, hU, rfl⟩ := CR.r1 i q a d1 hq hai hd1
  obtain ⟨zC, hC, rfl⟩ := HR.2 i q _ _ r hq hd0 hd1 hr
  have hH := hold_cg hk1 (n := 2 ^ L) (q := q) (by rw [hk2, hRL]) tq.symm (fra i q a hq hai) lS lE lU lX lY lZ (hb i q a b hq hai hbi) hB hU hC
  have hq0 : 0 < q := by rw [← tq]; have := hk1.q1; omega
  refine ⟨addL_fit hq0 hC.1.1 ?_, fun k hk => ?_⟩
  · rw [addL_len (by rw [lift_len, addL_len (by rw [lift_len]; have := hB.1.1; omega)]; have := hB.1.1; omega), addL_len (by rw [lift_len]; have := hB.1.1; omega)]
    exact hB.1.1
  · rw [held_gi hk]
    exact hH k hk
theorem held_tell {n t w Q : Nat} {ms : List Nat} {ss es us xs ys : List Int} (hm : ms.length = n) (hmt : ∀ x ∈ ms, x < t) (ht : t < 100000) (ho : t % 2 = 1) (hQ : 281474976710656 ≤ Q)
    (hb : ∀ p, p < n → -100000 ≤ noise n ss es us xs ys p ∧ noise n ss es us xs ys p ≤ 100000) :
    (heldZ n ss es us xs ys (sprZ (Q / t) t ms)).map (tellV Q t) = ms ∧ ∀ z ∈ heldZ n ss es us xs ys (sprZ (Q / t) t ms), -(Q : Int) < 2 * z ∧ 2 * z < Q := by
  have key : ∀ (p x : Nat), ms[p]? = some x → gi (sprZ (Q / t) t ms) p = centerm x t * ((Q / t : Nat) : Int) := fun p x hx => by
    unfold gi sprZ
    rw [List.getD_eq_getElem?_getD, List.getElem?_map, hx]; rfl
  refine ⟨?_, fun z hz => ?_⟩
  · apply List.ext_getElem?
    intro p
    unfold heldZ
    rw [List.map_map, List.getElem?_map]
    by_cases hp : p < n
    · obtain ⟨x, hx⟩ := get_lt (l := ms) (j := p) (by omega)
      rw [List.getElem?_range hp, hx, Option.map_some]
      simp only [Function.comp]
      rw [key p x hx]
      exact congrArg some (tell_back (hmt x (List.mem_of_getElem? hx)) ht ho hQ (hb p hp).1 (hb p hp).2).1
    · rw [List.getElem?_eq_none_iff.2 (by rw [List.length_range]; omega), List.getElem?_eq_none_iff.2 (by omega)]; rfl
  · unfold heldZ at hz
    obtain ⟨p, hp, rfl⟩ := List.mem_map.1 hz
    have hp := List.mem_range.1 hp
    obtain ⟨x, hx⟩ := get_lt (l := ms) (j := p) (by omega)
    rw [key p x hx]
    exact (tell_back (hmt x (List.mem_of_getElem? hx)) ht ho hQ (hb p hp).1 (hb p hp).2).2
end Go.Proofs.YtfcmdefigldpnaaGreatDoor

