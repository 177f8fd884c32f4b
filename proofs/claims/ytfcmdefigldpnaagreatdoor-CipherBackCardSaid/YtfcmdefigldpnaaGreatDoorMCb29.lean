/- Texts CrpA to CrtE of this work, joined, without what the law does not lean on. -/
import Derived.Test.YtfcmdefigldpnaaGreatDoorMCb28
namespace Go.Proofs.YtfcmdefigldpnaaGreatDoor
set_option linter.unusedVariables false
set_option maxRecDepth 8000
open Go Go.Den Go.RowKit Go.Dig Go.Mth

def Inv6 (qs : List Nat) : Prop := ∀ q ∈ qs, prodL qs / q % q * powm (prodL qs / q % q) (q - 2) q % q = 1
theorem prodL_cons_take {qs : List Nat} {i q : Nat} (h : qs[i]? = some q) {n : Nat} (hn : n ≤ qs.length) (hin : i < n) : q ∣ prodL (qs.take n) := by
  induction n with
  | zero => omega
  | succ n ih =>
    obtain ⟨c, hc⟩ := get_lt (l := qs) (j := n) (by omega)
    rw [take_snoc hc, prodL_snoc]
    by_cases hni : i = n
    · subst hni
      rw [hc] at h; cases h
      exact Nat.dvd_mul_left _ _
    · exact Nat.dvd_trans (ih (by omega) (by omega)) (Nat.dvd_mul_right _ _)
theorem dvd_prodL {qs : List Nat} {i q : Nat} (h : qs[i]? = some q) : q ∣ prodL qs := by
  have := prodL_cons_take h (Nat.le_refl _) (List.getElem?_eq_some_iff.1 h).1
  rwa [List.take_length] at this
theorem cop_lt {qs : List Nat} (C : Cop qs) {i j p q : Nat} (hi : qs[i]? = some p) (hj : qs[j]? = some q) (h : i < j) : Nat.gcd p q = 1 := by
  have h1 := C j q hj
  have h2 := prodL_cons_take hi (Nat.le_of_lt (List.getElem?_eq_some_iff.1 hj).1) h
  exact Nat.eq_one_of_dvd_one (h1 ▸ Nat.gcd_dvd_gcd_of_dvd_left q h2)
theorem cop_ne {qs : List Nat} (C : Cop qs) {i j p q : Nat} (hi : qs[i]? = some p) (hj : qs[j]? = some q) (h : i ≠ j) : Nat.gcd p q = 1 := by
  rcases Nat.lt_or_gt_of_ne h with h | h
  · exact cop_lt C hi hj h
  · rw [Nat.gcd_comm]; exact cop_lt C hj hi h
theorem rest_dvd {qs : List Nat} (C : Cop qs) {i j p q : Nat} (hi : qs[i]? = some p) (hj : qs[j]? = some q) (h : i ≠ j) : p ∣ prodL qs / q := by
  have h1 := dvd_prodL hi
  have h2 := dvd_prodL hj
  have h3 : prodL qs / q * q = prodL qs := Nat.div_mul_cancel h2
  rw [← h3] at h1
  exact Nat.Coprime.dvd_of_dvd_mul_right (cop_ne C hi hj h) h1

theorem Tryz_ent200 : Ent Tryz.prog 200 := ent_of Tryz.func200 (by kernel_rfl) rfl
theorem refCentered6_spec (vV vQ : Value) (V Q : Nat) (z : Int) (h : Hp) (sV : SlF h U vV (dg 18446744073709551616 V)) (sQ : SlF h U vQ (dg 18446744073709551616 Q)) (hlt : V < Q) (hz : Cg Q V z) (hz1 : -(Q : Int) < 2 * z) (hz2 : 2 * z < Q) (lQ : (dg 18446744073709551616 Q).length < 1000000) (lV : (dg 18446744073709551616 V).length < 1000000) :
    CallsH Tryz.prog 200 [vV, vQ] h fun v' h' => Ext h h' ∧ IntOf h' h.size v' z := by
  have b64 : (1 : Nat) < 18446744073709551616 := by decide
  have b640 : (0 : Nat) < 18446744073709551616 := by decide
  have hU := cent_uniq hlt hz hz1 hz2
  have l2 : (dg 18446744073709551616 (V * 2)).length < 1000001 := by
    have h1 := dg_lt b64 V
    have := dg_len (b := 18446744073709551616) (n := V * 2) (k := (dg 18446744073709551616 V).length + 1) b64 (by
      rw [Nat.pow_succ]
      exact Nat.mul_lt_mul_of_lt_of_lt h1 (by decide))
    omega
  (apply enter Tryz.func200 rfl Tryz.ntmps200 rfl)
  refine runJ ?_
  (apply s_alloc; exact rfl; exact rfl; exact rfl)
  intro p h1 x1 e1 b1
  (try dsimp only [Value.cells, List.toList_toArray] at x1)
  refine clsI ?_
  refine runJ ?_
  (apply (s_litF (f := U) [2] (fun _ => rfl)); exact rfl; exact rfl; exact rfl; exact rfl; exact rfl; exact rfl; exact rfl; exact rfl; omega)
  intro w2 h2 o2 e2 b2
  refine clsI ?_
  have E2 := e1.trans e2
  have RM := rmul_spec vV w2 _ [2] h2 (sV.ext E2) o2.sl (al_dg b640 V) (Al.cons (by omega) Al.nil) (by omega) (by simp)
  rw [vl_dg b64, show vl 18446744073709551616 [2] = 2 from rfl] at RM
  refine runJ ?_
  apply (s_call Tryz_ent141 rfl rfl rfl)
  refine (RM).mono ?_
  rintro vm h3 ⟨e3, o3⟩
  refine ⟨trivial, ?_⟩
  have E3 := E2.trans e3
  have RC := rcmp_spec vm vQ _ _ h3 o3.sl (sQ.ext E3) (al_dg b640 _) (al_dg b640 _) (by omega) (by omega)
  rw [vl_dg b64, vl_dg b64] at RC
  refine runJ ?_
  apply (s_call Tryz_ent28 rfl rfl rfl)
  refine (RC).mono ?_
  rintro _ h4 ⟨rfl, e4⟩
  refine ⟨trivial, ?_⟩
  have E4 := E3.trans e4
  have x4 := ((x1.ext e2).ext e3).ext e4
  have sV4 := sV.ext E4
  have sQ4 := sQ.ext E4
  refine runJ ?_
  rcases hU with ⟨u1, u2, u3⟩ | ⟨u1, u2, u3⟩
  · (apply w_condF; exact rfl; exact rfl; exact (show ¬ 0 < cmpI (V * 2) Q by unfold cmpI; rw [if_pos (by omega)]; decide))
    have RW := rwhole_spec false vV _ h4 sV4 (al_dg b640 _) (by omega)
    rw [vl_dg b64] at RW
    refine runJ ?_
    apply (s_call Tryz_ent136 rfl rfl rfl)
    refine (RW).mono ?_
    rintro _ h5 ⟨v5, rfl, e5, o5⟩
    refine ⟨trivial, ?_⟩
    have x5 := x4.ext e5
    have hone := o5.sl.one
    refine runJ ?_
    (apply s_storeV; exact rfl; exact rfl; exact rfl; exact (OneAll.cons rfl (OneAll.cons hone OneAll.nil) : OneAll [.bool (false && decide (V ≠ 0)), v5]); exact rfl; exact rfl; exact x5; exact rfl)
    intro h6 x6 k6
    refine ⟨trivial, ?_⟩
    have e6 : Ext h h6 := k6.oldV (E4.trans e5) b1 (Nat.le_refl _)
    have n5 : v5.ownBlock = none ∨ v5.ownBlock ≠ pblk p := by
      cases hb : v5.ownBlock with
      | none => exact .inl rfl
      | some j => exact .inr fun e => by rw [b1] at e; cases e; have := (o5.blk _ hb).1; have := E4.1; have := e4.1; have := e3.1; have := e2.1; obtain ⟨j, hj, hl⟩ := x1.blk; rw [b1] at hj; cases hj; omega
    refine runJ ?_
    refine finC rfl rfl x6 rfl rfl ⟨e6, ?_⟩
    have := IntOf.of (neg := false) ((o5.only k6 n5).base E4.1)
    rwa [show IV false V = z by unfold IV; simpa using u2] at this
  · (apply w_condT; exact rfl; exact rfl; exact (show 0 < cmpI (V * 2) Q by unfold cmpI; rw [if_neg (by omega), if_pos (by omega)]; decide))
    have RS := rsub_spec vQ vV _ _ h4 sQ4 sV4 (al_dg b640 _) (al_dg b640 _) (by omega) (by omega)
    rw [vl_dg b64, vl_dg b64] at RS
    refine runJ ?_
    apply (s_call Tryz_ent206 rfl rfl rfl)
    refine (RS).mono ?_
    rintro _ h5 ⟨e5, -, g5⟩
    refine ⟨trivial, ?_⟩
    obtain ⟨vd, rfl, o5⟩ := g5 (Nat.le_of_lt hlt)
    have hld : (dg 18446744073709551616 (Q - V)).length < 1000000 := by
      have := dg_len (b := 18446744073709551616) (n := Q - V) (k := (dg 18446744073709551616 Q).length) b64 (Nat.lt_of_le_of_lt (Nat.sub_le _ _) (dg_lt b64 _))
      omega
    have RW := rwhole_spec true vd _ h5 o5.sl (al_dg b640 _) (by omega)
    rw [vl_dg b64] at RW
    refine runJ ?_
    apply (s_call Tryz_ent136 rfl rfl rfl)
    refine (RW).mono ?_
    rintro _ h6 ⟨v6, rfl, e6, o6⟩
    refine ⟨trivial, ?_⟩
    have x6 := (x4.ext e5).ext e6
    have hone := o6.sl.one
    refine runJ ?_
    (apply s_storeV; exact rfl; exact rfl; exact rfl; exact (OneAll.cons rfl (OneAll.cons hone OneAll.nil) : OneAll [.bool (true && decide (Q - V ≠ 0)), v6]); exact rfl; exact rfl; exact x6; exact rfl)
    intro h7 x7 k7
    refine ⟨trivial, ?_⟩
    have e7 : Ext h h7 := k7.oldV ((E4.trans e5).trans e6) b1 (Nat.le_refl _)
    have n6 : v6.ownBlock = none ∨ v6.ownBlock ≠ pblk p := by
      cases hb : v6.ownBlock with
      | none => exact .inl rfl
      | some j => exact .inr fun e => by rw [b1] at e; cases e; have := (o6.blk _ hb).1; have := e5.1; have := e4.1; have := e3.1; have := e2.1; obtain ⟨j, hj, hl⟩ := x1.blk; rw [b1] at hj; cases hj; omega
    refine runJ ?_
    refine finC rfl rfl x7 rfl rfl ⟨e7, ?_⟩
    have := IntOf.of (neg := true) ((o6.only k7 n6).base (E4.trans e5).1)
    rwa [show IV true (Q - V) = z by unfold IV; rw [if_pos rfl]; omega] at this

theorem Tryz_ent180 : Ent Tryz.prog 180 := ent_of Tryz.func180 (by kernel_rfl) rfl
set_option maxHeartbeats 4000000 in
theorem refWhole6_spec (vr vw : Value) (rs qs : List Nat) (z : Int) (h : Hp) (sr : SlF h U vr rs) (sw : SlF h U vw qs) (hl : rs.length = qs.length) (h0 : 0 < qs.length) (h24 : qs.length ≤ 24) (C : Cop qs) (I6 : Inv6 qs) (hq : ∀ q ∈ qs, 2 < q ∧ q < 18446744073709551616) (hr : ∀ (i r q : Nat), rs[i]? = some r → qs[i]? = some q → r < q ∧ Cg q r z) (hz1 : -(prodL qs : Int) < 2 * z) (hz2 : 2 * z < prodL qs) :
    CallsH Tryz.prog 180 [vr, vw] h fun v' h' => Ext h h' ∧ IntOf h' h.size v' z := by
  have b64 : (1 : Nat) < 18446744073709551616 := by decide
  have b640 : (0 : Nat) < 18446744073709551616 := by decide
  have hal : Al 18446744073709551616 qs := fun q h => (hq q h).2
  have hne : qs ≠ [] := fun e => by rw [e] at h0; exact absurd h0 (by decide)
  have hPl := prodL_lt hal
  have hP0 : 0 < prodL qs := by omega
  have hlenQ : ∀ V, V < prodL qs * 18446744073709551616 → (dg 18446744073709551616 V).length ≤ 26 := fun V hV => by
    have h1 : prodL qs * 18446744073709551616 < 18446744073709551616 ^ (qs.length + 1 + 1) := by
      rw [Nat.pow_succ _ (qs.length + 1)]
      exact Nat.mul_lt_mul_of_pos_right hPl (by decide)
    have := dg_len (b := 18446744073709551616) (n := V) (k := qs.length + 1 + 1) b64 (Nat.lt_trans hV h1)
    omega
  have hself : prodL qs < prodL qs * 18446744073709551616 := by
    have : prodL qs * 1 < prodL qs * 18446744073709551616 := Nat.mul_lt_mul_of_pos_left (by decide) hP0
    omega
  (apply enter Tryz.func180 rfl Tryz.ntmps180 rfl)
  refine runJ ?_
  (apply s_alloc; exact rfl; exact rfl; exact rfl)
  intro p h1 x1 e1 b1
  (try dsimp only [Value.cells, List.toList_toArray] at x1)
  refine clsI ?_
  refine runJ ?_
  apply (s_call Tryz_ent89 rfl rfl rfl)
  refine (refProduct_spec vw qs h1 (sw.ext e1) hal (by omega)).mono ?_
  rintro vQ h2 ⟨e2, o2⟩
  refine ⟨trivial, ?_⟩
  rw [if_neg hne] at o2
  refine runJ ?_
  (apply (s_litF (f := U) [] (fun _ => rfl)); exact rfl; exact rfl; exact rfl; exact rfl; exact rfl; exact rfl; exact rfl; exact rfl; omega)
  intro vS0 h3 o3 e3 b3
  refine clsI ?_
  have e23 := e2.trans e3
  have E3 := e1.trans e23
  have x3 := (x1.ext e2).ext e3
  refine runJ ?_
  (first | (apply w_seqB; exact rfl; apply w_block; exact rfl) | skip)
  apply (w_loop (σ := Nat × Value × Nat) rfl (fun j => [(0, vr), (4, p), (5, vQ), (6, j.2.1), (19, vw), (20, N qs.length), (21, N j.1)])
    (fun j h' => Ext h3 h' ∧ j.1 ≤ qs.length ∧ OwnF h' h2.size 26 U j.2.1 (dg 18446744073709551616 j.2.2) ∧ j.2.2 ≤ j.1 * prodL qs ∧ ∀ (i q : Nat), qs[i]? = some q → (i < j.1 → Cg q j.2.2 z) ∧ (j.1 ≤ i → Cg q j.2.2 0)) (fun j => qs.length - j.1) (0, vS0, 0))
  · exact subs
  · exact ⟨Ext.refl _, Nat.zero_le _, o3, Nat.zero_le _, fun i q hi => ⟨fun h => absurd h (Nat.not_lt_zero _), fun _ => Cg.refl _ _⟩⟩
  rintro ⟨j, vS, Sm⟩ h4 ⟨e4, j1, o4, S1, S2⟩
  dsimp only at e4 j1 o4 S1 S2 ⊢
  have E4 := E3.trans e4
  have sr4 := sr.ext E4
  have sw4 := sw.ext E4
  have oQ4 := (o2.ext e3).ext e4
  have hS64 : Sm < prodL qs * 18446744073709551616 := by
    have : j * prodL qs ≤ 24 * prodL qs := Nat.mul_le_mul_right _ (by omega)
    omega
  have lS := hlenQ Sm hS64
  have lQ := hlenQ (prodL qs) hself
  refine runJ ?_
  (apply w_condD; exact rfl; exact rfl) <;> intro hj
  · obtain ⟨q, hqj⟩ := get_lt hj
    obtain ⟨r, hrj⟩ := get_lt (l := rs) (j := j) (by omega)
    have hqm := List.mem_of_getElem? hqj
    obtain ⟨hq2, hq64⟩ := hq q hqm
    obtain ⟨hrq, hrz⟩ := hr j r q hrj hqj
    have hdq := dvd_prodL hqj
    have hrq' : prodL qs / q * q = prodL qs := Nat.div_mul_cancel hdq
    have hi6 := I6 q hqm
    have hq0 : 0 < q := by omega
    have hrl : prodL qs / q ≤ prodL qs := Nat.div_le_self _ _
    generalize hrest : prodL qs / q = rest at *
    have hrm : rest % q < q := Nat.mod_lt _ hq0
    have hpw : powm (rest % q) (q - 2) q < 18446744073709551616 := by
      have : powm (rest % q) (q - 2) q < q := by unfold powm; rw [if_neg (by omega)]; exact Nat.mod_lt _ hq0
      omega
    generalize hbk : powm (rest % q) (q - 2) q = back at *
    have htm : mulm r back q < q := mulm_lt hq0
    refine runJ ?_
    (apply (s_litF (f := U) [q] (fun _ => rfl)); exact rfl; exact rfl; exact rfl; exact rfl; exact rfl; exact rfl; exact rfl; exact rfl; omega)
    intro w5 h5 o5 e5 b5
    refine clsI ?_
    have RD := rdiv_spec vQ w5 _ [q] h5 (oQ4.ext e5).sl o5.sl (al_dg b640 _) (Al.cons hq64 Al.nil) (by omega) (by simp)
    rw [vl_dg b64, show vl 18446744073709551616 [q] = q by simp [vl], hrest] at RD
    refine runJ ?_
    apply (s_call Tryz_ent176 rfl rfl rfl)
    refine (RD).mono ?_
    rintro _ h6 ⟨vq6, vr6, rfl, e6, o6, -⟩
    refine ⟨trivial, ?_⟩
    have e46 := e5.trans e6
    have lR := hlenQ rest (by omega)
    have RO := rmod_spec vq6 _ q h6 o6.sl (al_dg b640 _) (by omega) hq64
    rw [vl_dg b64, if_neg (by omega)] at RO
    refine runJ ?_
    apply (s_call Tryz_ent177 rfl rfl rfl)
    refine (RO).mono ?_
    rintro _ h7 ⟨rfl, e7⟩
    refine ⟨trivial, ?_⟩
    refine runJ ?_
    apply (s_call Tryz_ent181 rfl rfl rfl)
    refine (refPow_spec _ (q - 2) q h7 (by omega) (by omega) hq64).mono ?_
    rintro _ _ ⟨rfl, rfl⟩
    refine ⟨trivial, ?_⟩
    rw [hbk]
    have sr7 := sr4.ext (e46.trans e7)
    refine runJ ?_
    apply (s_call Tryz_ent182 rfl rfl rfl)
    refine (refMul_spec r back q h7 (by omega) hpw hq64).mono ?_
    rintro _ _ ⟨rfl, rfl⟩
    refine ⟨trivial, ?_⟩
    generalize htme : mulm r back q = times at *
    refine runJ ?_
    (apply (s_litF (f := U) [times] (fun _ => rfl)); exact rfl; exact rfl; exact rfl; exact rfl; exact rfl; exact rfl; exact rfl; exact rfl; omega)
    intro w8 h8 o8 e8 b8
    refine clsI ?_
    have RM := rmul_spec vq6 w8 _ [times] h8 ((o6.ext e7).ext e8).sl o8.sl (al_dg b640 _) (Al.cons (by omega) Al.nil) (by omega) (by simp)
    rw [vl_dg b64, show vl 18446744073709551616 [times] = times by simp [vl]] at RM
    have hrt : rest * times < prodL qs := by
      rw [← hrq']
      exact Nat.mul_lt_mul_of_pos_left htm (by
        rcases Nat.eq_zero_or_pos rest with h0 | h0
        · rw [h0, Nat.zero_mul] at hrq'; omega
        · exact h0)
    have lRT := hlenQ (rest * times) (by omega)
    refine runJ ?_
    apply (s_call Tryz_ent141 rfl rfl rfl)
    refine (RM).mono ?_
    rintro vm h9 ⟨e9, o9⟩
    refine ⟨trivial, ?_⟩
    have e49 := ((e46.trans e7).trans e8).trans e9
    have RA := radd_spec vS vm _ _ h9 (o4.ext e49).sl o9.sl (al_dg b640 _) (al_dg b640 _) (by omega) (by omega)
    rw [vl_dg b64, vl_dg b64] at RA
    refine runJ ?_
    apply (s_call Tryz_ent199 rfl rfl rfl)
    refine (RA).mono ?_
    rintro vS' h10 ⟨e10, o10⟩
    refine ⟨trivial, ?_⟩
    have e410 := e49.trans e10
    refine runJ ?_
    apply again_normal (j + 1, vS', Sm + rest * times)
    · exact subs
    · refine ⟨e4.trans e410, hj, o10.base (Nat.le_trans e3.1 (Nat.le_trans e4.1 e49.1)), ?_, fun i c hi => ?_⟩
      · dsimp only
        rw [Nat.add_mul, Nat.one_mul]; omega
      · dsimp only
        obtain ⟨c1, c2⟩ := S2 i c hi
        by_cases hij : i = j
        · subst hij
          rw [hqj] at hi; cases hi
          refine ⟨fun _ => ?_, fun h => by omega⟩
          have h0 := c2 (Nat.le_refl _)
          have k1 : Cg q ((times : Nat) : Int) ((r : Int) * back) := by rw [← htme]; exact cg_mulm hq0 r back
          have k2 : Cg q ((rest : Nat) * (back : Nat) : Int) 1 := by
            have h1 : ((rest % q * back : Nat) : Int) = ((rest % q * back / q : Nat) : Int) * q + 1 := by
              have := Nat.div_add_mod (rest % q * back) q
              rw [hi6, Nat.mul_comm] at this
              rw [← Int.natCast_mul]
              omega
            have h2 : Cg q ((rest % q : Nat) : Int) (rest : Nat) := by rw [Int.natCast_emod]; exact Cg.mod _ _
            refine (h2.symm.mul (Cg.refl _ _)).trans ?_
            rw [← Int.natCast_mul, h1]
            exact ⟨_, by rw [Int.mul_comm (q : Int), Int.add_comm]⟩
          rw [Int.natCast_add, Int.natCast_mul]
          have k3 := (Cg.refl (q : Int) ((rest : Nat) : Int)).mul k1
          have k4 := k3.trans ((Cg.of_eq (show ((rest : Nat) : Int) * ((r : Int) * back) = ((rest : Nat) * (back : Nat) : Int) * r by grind)).trans (k2.mul (Cg.refl _ (r : Int))))
          exact (h0.add k4).trans ((Cg.of_eq (by omega)).trans hrz)
        · have hd := rest_dvd C hi hqj hij
          rw [hrest] at hd
          obtain ⟨c', hc'⟩ := hd
          have k0 : Cg c ((Sm + rest * times : Nat) : Int) Sm := ⟨((c' * times : Nat) : Int), by rw [hc', ← Int.natCast_mul, ← Int.natCast_add, Nat.mul_assoc]⟩
          exact ⟨fun h => k0.trans (c1 (by omega)), fun h => k0.trans (c2 (by omega))⟩
    · dsimp only; omega
  · have hjl : j = qs.length := by omega
    subst hjl
    have RD := rdiv_spec vS vQ _ _ h4 o4.sl oQ4.sl (al_dg b640 _) (al_dg b640 _) (by omega) (by omega)
    rw [vl_dg b64, vl_dg b64] at RD
    simp only [if_neg (show ¬ prodL qs = 0 by omega)] at RD
    refine runJ ?_
    apply (s_call Tryz_ent176 rfl rfl rfl)
    refine (RD).mono ?_
    rintro _ h5 ⟨vq5, vr5, rfl, e5, -, o5⟩
    refine ⟨trivial, ?_⟩
    have hlt : Sm % prodL qs < prodL qs := Nat.mod_lt _ hP0
    have lV := hlenQ (Sm % prodL qs) (by omega)
    have hcg : Cg ((prodL qs : Nat) : Int) ((Sm % prodL qs : Nat) : Int) z := cop_cg C fun q hqm => by
      obtain ⟨i, hi⟩ := List.mem_iff_getElem?.1 hqm
      have h1 := (S2 i q hi).1 (List.getElem?_eq_some_iff.1 hi).1
      obtain ⟨c, hc⟩ := dvd_prodL hi
      refine Cg.trans ⟨-((c * (Sm / prodL qs) : Nat) : Int), ?_⟩ h1
      have h2 := Nat.div_add_mod Sm (prodL qs)
      have h3 : prodL qs * (Sm / prodL qs) = q * (c * (Sm / prodL qs)) := by rw [← Nat.mul_assoc, ← hc]
      rw [h3] at h2
      rw [Int.mul_neg, ← Int.natCast_mul]
      omega
    refine runJ ?_
    apply (s_call Tryz_ent200 rfl rfl rfl)
    refine (refCentered6_spec vr5 vQ _ (prodL qs) z h5 o5.sl (oQ4.ext e5).sl hlt hcg hz1 hz2 (by omega) (by omega)).mono ?_
    rintro _ h6 ⟨e6, a, rfl, oa⟩
    refine ⟨trivial, ?_⟩
    have x6 := ((x3.ext e4).ext e5).ext e6
    have hone := oa.sl.one
    refine runJ ?_
    (apply s_storeV; exact rfl; exact rfl; exact rfl; exact (OneAll.cons rfl (OneAll.cons hone OneAll.nil) : OneAll [.bool (decide (z < 0)), a]); exact rfl; exact rfl; exact x6; exact rfl)
    intro h7 x7 k7
    refine ⟨trivial, ?_⟩
    have E6 := (E4.trans e5).trans e6
    have e7 : Ext h h7 := k7.oldV E6 b1 (Nat.le_refl _)
    have na : a.ownBlock = none ∨ a.ownBlock ≠ pblk p := by
      cases hb : a.ownBlock with
      | none => exact .inl rfl
      | some j => exact .inr fun e => by rw [b1] at e; cases e; have := (oa.blk _ hb).1; have := e5.1; have := e4.1; have := e23.1; obtain ⟨j, hj, hl⟩ := x1.blk; rw [b1] at hj; cases hj; omega
    refine runJ ?_
    exact finC rfl rfl x7 rfl rfl ⟨e7, a, rfl, (oa.only k7 na).base (E4.trans e5).1⟩

theorem Tryz_ent179 : Ent Tryz.prog 179 := ent_of Tryz.func179 (by kernel_rfl) rfl
set_option maxHeartbeats 1000000 in
theorem refRow6_spec (v : Value) (qs : List Nat) (h : Hp) (s : SlF h U v qs) (h0 : 0 < qs.length) (h24 : qs.length ≤ 24) (hq : ∀ q ∈ qs, 3 ≤ q ∧ q < 2305843009213693952 ∧ isR q = true) (hnd : qs.Nodup) :
    CallsH Tryz.prog 179 [v] h fun v' h' => v' = .bool true ∧ Ext h h' := by
  (apply enter Tryz.func179 rfl Tryz.ntmps179 rfl)
  refine runJ ?_
  (apply s_splitG; exact rfl; exact rfl; exact rfl; exact rfl) <;> intro g1
  · exfalso; omega
  refine runJ ?_
  (apply w_condD; exact rfl; exact rfl) <;> intro g2
  · exfalso; omega
  refine runJ ?_
  (first | (apply w_seqB; exact rfl; apply w_block; exact rfl) | skip)
  apply (w_loop (σ := Nat) rfl (fun j => [(0, v), (15, v), (16, N qs.length), (17, N j)])
    (fun j h' => Ext h h' ∧ j ≤ qs.length) (fun j => qs.length - j) 0)
  · exact subs
  · exact ⟨Ext.refl _, Nat.zero_le _⟩
  rintro j h3 ⟨e3, j1⟩
  have s3 := s.ext e3
  refine runJ ?_
  (apply w_condD; exact rfl; exact rfl) <;> intro hj
  · obtain ⟨q, hqj⟩ := get_lt hj
    have hqm := List.mem_of_getElem? hqj
    obtain ⟨q1, q2, q3⟩ := hq q hqm
    refine runJ ?_
    (apply s_splitG; exact rfl; exact rfl; exact rfl; exact rfl) <;> intro g1
    · exfalso; omega
    refine runJ ?_
    (apply s_splitG; exact rfl; exact rfl; exact rfl; exact rfl) <;> intro g2
    · exfalso; omega
    refine runJ ?_
    apply (s_call Tryz_ent81 rfl rfl rfl)
    refine (refIs_spec q h3 (by omega)).mono ?_
    rintro _ h4 ⟨rfl, e4⟩
    refine ⟨trivial, ?_⟩
    rw [q3]
    have s4 := s3.ext e4
    have c1 := s4.cut (lo := 0) (hi := j) (Nat.zero_le _) j1
    rw [List.drop_zero, Nat.sub_zero] at c1
    have hll : (qs.take j).length = j := by rw [List.length_take]; omega
    refine runJ ?_
    (first | (apply w_seqB; exact rfl; apply w_block; exact rfl) | skip)
    apply (w_loop (σ := Nat) rfl (fun k => [(0, v), (4, U q), (15, v), (16, N qs.length), (17, N j), (35, cutV 1 v 0 j), (36, N (qs.take j).length), (37, N k)])
      (fun k h' => h4 = h' ∧ k ≤ j) (fun k => j - k) 0)
    · exact subs
    · exact ⟨rfl, Nat.zero_le _⟩
    rintro k h' ⟨rfl, k1⟩
    refine runJ ?_
    (apply w_condD; exact rfl; exact rfl) <;> intro hk
    · obtain ⟨c, hc⟩ := get_lt (l := qs.take j) (j := k) (by omega)
      have hcq : ¬ c = q := fun e => by
        rw [e, List.getElem?_take, if_pos (by omega)] at hc
        obtain ⟨h1, h1'⟩ := List.getElem?_eq_some_iff.1 hc
        obtain ⟨h2, h2'⟩ := List.getElem?_eq_some_iff.1 hqj
        have := (List.getElem_inj hnd).1 (h1'.trans h2'.symm)
        omega
      refine runJ ?_
      (apply w_condF; exact rfl; exact rfl; exact hcq)
      refine runJ ?_
      apply again_normal (k + 1)
      · exact subs
      · exact ⟨rfl, by omega⟩
      · omega
    · refine runJ ?_
      apply again_normal (j + 1)
      · exact subs
      · exact ⟨e3.trans e4, hj⟩
      · omega
  · refine runJ ?_
    exact fin1 rfl rfl ⟨rfl, e3⟩

def ResOf (n : Nat) (qs : List Nat) (rows : List (List Nat)) (zs : List Int) : Prop := rows.length = qs.length ∧ zs.length = n ∧ ∀ (i q : Nat) (x : List Nat), rows[i]? = some x → qs[i]? = some q → Fit n q x ∧ ∀ k, k < n → Cg q (gt x k) (gi zs k)
theorem IntsAt.push {h4 h5 : Hp} {B z : Nat} {v v5 a : Value} {xs : List (Value × Int)} {zz : Int} (S : IntsAt h4 B v xs) (oa : OwnF h4 B 26 U a (dg 18446744073709551616 zz.natAbs)) (ha : ∀ k, a.ownBlock = some k → z ≤ k) (hv : ∀ k, v.ownBlock = some k → k < z)
    (o5 : Own h5 B 124 2 v5 (xs.length + 1) (xs.flatMap intC ++ intC (a, zz))) (k5 : Only v.ownBlock h4 h5) (b5 : v5.ownBlock = v.ownBlock ∨ ∃ b, v5.ownBlock = some b ∧ h4.size ≤ b) : IntsAt h5 B v5 (xs ++ [(a, zz)]) := by
  have na : a.ownBlock = none ∨ a.ownBlock ≠ v.ownBlock := by
    cases hb : a.ownBlock with
    | none => exact .inl rfl
    | some k => exact .inr fun e => by have := ha _ hb; have := hv _ e.symm; omega
  have n5 : ∀ y : Value, (∀ k, y.ownBlock = some k → k < h4.size) → (y.ownBlock = none ∨ y.ownBlock ≠ v.ownBlock) → y.ownBlock = none ∨ y.ownBlock ≠ v5.ownBlock := fun y hy hn => by
    rcases b5 with b5 | ⟨b, hb, hbl⟩
    · rw [b5]; exact hn
    · rw [hb]
      cases hyb : y.ownBlock with
      | none => exact .inl rfl
      | some k => exact .inr fun e => by cases e; have := hy _ hyb; omega
  refine ⟨by rw [List.length_append, List.flatMap_append]; exact o5, fun x hx => ?_, fun x hx => ?_⟩
  · rcases List.mem_append.1 hx with hx | hx
    · exact (S.el x hx).only k5 (S.ne x hx)
    · rw [List.mem_singleton.1 hx]; exact oa.only k5 na
  · rcases List.mem_append.1 hx with hx | hx
    · exact n5 _ (fun k hk => ((S.el x hx).blk k hk).2) (S.ne x hx)
    · rw [List.mem_singleton.1 hx]; exact n5 _ (fun k hk => (oa.blk k hk).2) na

theorem Tryz_ent139 : Ent Tryz.prog 139 := ent_of Tryz.func139 (by kernel_rfl) rfl
set_option maxHeartbeats 4000000 in
theorem refWholes6_spec (va vq : Value) (rows : List (Value × List Nat)) (qs : List Nat) (n : Nat) (zs : List Int) (h : Hp) (S : PolAt h va rows) (sq : SlF h U vq qs) (h0 : 0 < qs.length) (h24 : qs.length ≤ 24) (hq : ∀ q ∈ qs, 3 ≤ q ∧ q < 2305843009213693952 ∧ isR q = true) (hnd : qs.Nodup) (C : Cop qs) (I6 : Inv6 qs) (hn : n ≤ 4096)
    (hR : ResOf n qs (rows.map (·.2)) zs) (hz : ∀ z ∈ zs, -(prodL qs : Int) < 2 * z ∧ 2 * z < prodL qs) :
    CallsH Tryz.prog 139 [.agg #[va], vq] h fun v' h' => Ext h h' ∧ ∃ v xs, v' = .tuple #[v, N 0] ∧ IntsAt h' h.size v xs ∧ xs.map (·.2) = zs := by
  obtain ⟨hrl, hzl, hrf⟩ := hR
  rw [List.length_map] at hrl
  have hrow : ∀ (i : Nat) (x : Value × List Nat), rows[i]? = some x → ∃ q, qs[i]? = some q ∧ q ∈ qs ∧ Fit n q x.2 ∧ ∀ k, k < n → Cg q (gt x.2 k) (gi zs k) := fun i x hx => by
    have hi := (List.getElem?_eq_some_iff.1 hx).1
    obtain ⟨q, hqi⟩ := get_lt (l := qs) (j := i) (by omega)
    obtain ⟨a, b⟩ := hrf i q x.2 (by rw [List.getElem?_map, hx]; rfl) hqi
    exact ⟨q, hqi, List.mem_of_getElem? hqi, a, b⟩
  obtain ⟨x0, hx0⟩ := get_lt (l := rows) (j := 0) (by omega)
  obtain ⟨q0, hq0, -, hf0, -⟩ := hrow 0 x0 hx0
  have hx0l := hf0.1
  have sx0 := S.el _ (List.mem_of_getElem? hx0)
  have hq64 : ∀ q ∈ qs, 2 < q ∧ q < 18446744073709551616 := fun q h => by have := hq q h; omega
  (apply enter Tryz.func139 rfl Tryz.ntmps139 rfl)
  refine runJ ?_
  (apply s_box; exact rfl; exact rfl; exact rfl; exact rfl)
  intro p2 h1 x1 e1 b1
  (try dsimp only [Value.cells, List.toList_toArray] at x1)
  refine clsI ?_
  have x1 : Var h1 p2 56 [va] := x1
  refine runJ ?_
  apply (s_call Tryz_ent179 rfl rfl rfl)
  refine (refRow6_spec vq qs h1 (sq.ext e1) h0 h24 hq hnd).mono ?_
  rintro _ h2 ⟨rfl, e2⟩
  refine ⟨trivial, ?_⟩
  have E2 := e1.trans e2
  have x2 := x1.ext e2
  have sR2 := S.row.ext E2
  have sq2 := sq.ext E2
  refine runJ ?_
  (apply w_condF; exact rfl; exact rfl; exact (show ¬ rows.length ≠ qs.length by omega))
  refine runJ ?_
  (first | (apply w_seqB; exact rfl; apply w_block; exact rfl) | skip)
  apply (w_loop (σ := Nat) rfl (fun j => [(1, vq), (2, p2), (24, va), (25, N rows.length), (26, N j)])
    (fun j h' => h2 = h' ∧ j ≤ rows.length) (fun j => rows.length - j) 0)
  · exact subs
  · exact ⟨rfl, Nat.zero_le _⟩
  rintro j h' ⟨rfl, j1⟩
  refine runJ ?_
  (apply w_condD; exact rfl; exact rfl) <;> intro hj
  · obtain ⟨⟨vx, ws⟩, hxj⟩ := get_lt hj
    obtain ⟨q, hqj, hqm, hfx, -⟩ := hrow j _ hxj
    have sx2 := (S.el _ (List.mem_of_getElem? hxj)).ext E2
    have sx02 := sx0.ext E2
    have hwl := hfx.1
    dsimp only at sx2 hfx hwl
    have hb := hq q hqm
    refine runJ ?_
    (apply w_condF; exact rfl; exact rfl; exact (show ¬ ws.length ≠ x0.2.length by omega))
    refine runJ ?_
    (first | (apply w_seqB; exact rfl; apply w_block; exact rfl) | skip)
    apply (w_loop (σ := Nat) rfl (fun k => [(1, vq), (2, p2), (6, N j), (24, va), (25, N rows.length), (26, N j), (39, vx), (40, N ws.length), (41, N k)])
      (fun k h' => h2 = h' ∧ k ≤ ws.length) (fun k => ws.length - k) 0)
    · exact subs
    · exact ⟨rfl, Nat.zero_le _⟩
    rintro k h' ⟨rfl, k1⟩
    refine runJ ?_
    (apply w_condD; exact rfl; exact rfl) <;> intro hk
    · obtain ⟨y, hyk⟩ := get_lt hk
      have hyq := hfx.2 y (List.mem_of_getElem? hyk)
      refine runJ ?_
      (apply w_condF; exact rfl; exact rfl; exact (show ¬ q ≤ y by omega))
      refine runJ ?_
      apply again_normal (k + 1)
      · exact subs
      · exact ⟨rfl, hk⟩
      · omega
    · refine runJ ?_
      apply again_normal (j + 1)
      · exact subs
      · exact ⟨rfl, hj⟩
      · omega
  have sx02 := sx0.ext E2
  refine runJ ?_
  rw [hx0l]
  (first | (apply w_seqB; exact rfl; apply w_block; exact rfl) | skip)
  apply (w_loop (σ := Nat × Value × List (Value × Int)) rfl (fun j => [(1, vq), (2, p2), (10, j.2.1), (57, N n), (58, N j.1)])
    (fun j h' => Ext h2 h' ∧ j.1 ≤ n ∧ IntsAt h' h2.size j.2.1 j.2.2 ∧ j.2.2.map (·.2) = zs.take j.1) (fun j => n - j.1) (0, .slice none 0 0, []))
  · exact subs
  · exact ⟨Ext.refl _, Nat.zero_le _, ⟨Own.nil _ _ _ _, fun x hx => absurd hx List.not_mem_nil, fun x hx => absurd hx List.not_mem_nil⟩, rfl⟩
  rintro ⟨k, vO, xs⟩ h3 ⟨e3, k1, I3, m3⟩
  dsimp only at e3 k1 I3 m3 ⊢
  have E3 := E2.trans e3
  have x3 := x2.ext e3
  have sq3 := sq.ext E3
  have sR3 := S.row.ext E3
  have hxl : xs.length = k := by
    have := congrArg List.length m3
    rw [List.length_map, List.length_take] at this
    omega
  refine runJ ?_
  (apply w_condD; exact rfl; exact rfl) <;> intro hk
  · obtain ⟨z, hzk⟩ := get_lt (l := zs) (j := k) (by omega)
    have hzm := hz z (List.mem_of_getElem? hzk)
    have hgz : gi zs k = z := by unfold gi; rw [List.getD_eq_getElem?_getD, hzk]; rfl
    refine runJ ?_
    (first | (apply w_seqB; exact rfl; apply w_block; exact rfl) | skip)
    apply (w_loop (σ := Nat × Value) rfl (fun i => [(1, vq), (2, p2), (10, vO), (11, N k), (12, i.2), (57, N n), (58, N k), (61, vq), (62, N qs.length), (63, N i.1)])
      (fun i h' => Ext h3 h' ∧ i.1 ≤ qs.length ∧ OwnF h' h3.size 26 U i.2 ((rows.take i.1).map fun x => x.2.getD k 0)) (fun i => qs.length - i.1) (0, .slice none 0 0))
    · exact subs
    · exact ⟨Ext.refl _, Nat.zero_le _, OwnF.nil _ _ _ _⟩
    rintro ⟨i, vr⟩ h4 ⟨e4, i1, o4⟩
    dsimp only at e4 i1 o4 ⊢
    have E4 := E3.trans e4
    have x4 := x3.ext e4
    have sR4 := S.row.ext E4
    refine runJ ?_
    (apply w_condD; exact rfl; exact rfl) <;> intro hi
    · obtain ⟨⟨vx, ws⟩, hxi⟩ := get_lt (l := rows) (j := i) (by omega)
      obtain ⟨q, hqi, hqm, hfx, -⟩ := hrow i _ hxi
      have sx4 := (S.el _ (List.mem_of_getElem? hxi)).ext E4
      have hwl := hfx.1
      dsimp only at sx4 hfx hwl
      obtain ⟨y, hyk⟩ := get_lt (l := ws) (j := k) (by omega)
      have hll : ((rows.take i).map fun x => x.2.getD k 0).length = i := by rw [List.length_map, List.length_take]; omega
      refine runJ ?_
      (refine s_app1 (bytes := 8) (y) o4 e4 rfl rfl rfl rfl rfl rfl rfl rfl rfl (by first | exact rfl | exact congrArg some (congrArg I (by omega))) (fun _ => rfl) rfl rfl (fun _ _ => trivial) (by omega) (by simp only [maxLen]; omega) ?_)
      intro v5 h5 o5 e5 k5 b5
      refine runJ ?_
      apply again_normal (i + 1, v5)
      · exact subs
      · refine ⟨e5, hi, ?_⟩
        dsimp only
        have : (rows.take (i + 1)).map (fun x => x.2.getD k 0) = (rows.take i).map (fun x => x.2.getD k 0) ++ [y] := by
          rw [take_snoc hxi, List.map_append]
          simp [List.getD_eq_getElem?_getD, hyk]
        rw [this]
        exact o5
      · dsimp only; omega
    · have hil : i = qs.length := by omega
      subst hil
      rw [← hrl, List.take_length] at o4
      have I4 := I3.ext e4
      have sq4 := sq.ext E4
      have RW := refWhole6_spec vr vq _ qs z h4 o4.sl sq4 (by rw [List.length_map]; exact hrl) h0 h24 C I6 hq64 (fun i r q hr hqi => by
        rw [List.getElem?_map] at hr
        obtain ⟨x, hx, rfl⟩ := Option.map_eq_some_iff.1 hr
        obtain ⟨q', hq', -, hf, hc⟩ := hrow i x hx
        rw [hqi] at hq'; cases hq'
        have := hc k (by omega)
        rw [hgz] at this
        obtain ⟨y, hy⟩ := get_lt (l := x.2) (j := k) (by have := hf.1; omega)
        refine ⟨?_, this⟩
        rw [List.getD_eq_getElem?_getD, hy]
        exact hf.2 y (List.mem_of_getElem? hy)) hzm.1 hzm.2
      refine runJ ?_
      apply (s_call Tryz_ent180 rfl rfl rfl)
      refine (RW).mono ?_
      rintro _ h5 ⟨e5, a, rfl, oa⟩
      refine ⟨trivial, ?_⟩
      have hza := oa.sl.one
      have I5 := I4.ext e5
      refine runJ ?_
      (apply (s_litC (s := 2) ([.bool (decide (z < 0)), a])); exact rfl; (repeat (first | exact CellsAll.nil | (apply CellsAll.cons; (first | exact oneL (by assumption) | exact oneL (SlF.one (by assumption)) | exact oneL (SlF.one (OwnF.sl (by assumption))) | exact oneL (Var.one (by assumption)) | exact rfl)))); exact rfl; exact rfl; exact rfl; exact rfl; exact rfl; exact rfl; exact rfl; exact rfl; exact rfl; exact rfl)
      intro vl h6 o6 e6 b6
      refine clsI ?_
      have I6' := I5.ext e6
      have oa6 := oa.ext e6
      have e36 := (e4.trans e5).trans e6
      refine runJ ?_
      (apply (s_append (s := 2) (bytes := 32) (B := h2.size) (m := xs.length) (k' := 1)); exact rfl; exact rfl; exact rfl; exact rfl; exact rfl; exact (by decide); exact rfl; exact rfl; exact I6'.own; exact o6.sl; exact rfl; exact (fun u hu => by
        rcases List.mem_cons.1 hu with rfl | hu
        · rfl
        rw [List.mem_singleton.1 hu]; exact hza); exact (Nat.le_trans e3.1 e36.1); (simp only [maxLen]; omega); omega)
      intro v7 h7 o7 k7 b7
      refine ⟨trivial, ?_⟩
      have I7 := I6'.push (z := h4.size) (oa6.base (Nat.le_trans e3.1 e4.1)) (fun k hk => (oa6.blk k hk).1) (fun k hk => Nat.lt_of_lt_of_le (I3.own.blk k hk).2 e4.1) o7 k7 b7
      have e7 : Ext h2 h7 := ext_onlyR (e3.trans e36) k7 fun k hk => (I6'.own.blk k hk).1
      refine runJ ?_
      apply again_normal (k + 1, v7, xs ++ [(a, z)])
      · exact subs
      · refine ⟨e7, hk, I7, ?_⟩
        dsimp only
        rw [List.map_append, m3, take_snoc hzk]; rfl
      · dsimp only; omega
  · have hkn : k = n := by omega
    rw [hkn, ← hzl, List.take_length] at m3
    refine runJ ?_
    exact fin2 rfl rfl rfl ⟨E3, vO, xs, rfl, I3.base E2.1, m3⟩

theorem Tryz_ent120 : Ent Tryz.prog 120 := ent_of Tryz.func120 (by kernel_rfl) rfl
theorem wholes1_spec (x q i : Nat) (p3 p6 vq : Value) (qs : List Nat) (h : Hp) (P3 : Var h p3 22 [vq]) (P6 : Var h p6 3 [N i]) (s : SlF h U vq qs) (hi : qs[i]? = some q) :
    CallsH Tryz.prog 120 [U x, p3, p6] h fun v' h' => v' = .bool (decide (q ≤ x)) ∧ h = h' := by
  (apply enter Tryz.func120 rfl Tryz.ntmps120 rfl)
  refine runJ ?_
  exact fin1 rfl rfl ⟨rfl, rfl⟩
theorem indexFuncW_spec (v p3 p6 vq : Value) (xs : List Nat) (q i : Nat) (qs : List Nat) (h : Hp) (s : SlF h U v xs) (P3 : Var h p3 22 [vq]) (P6 : Var h p6 3 [N i]) (sq : SlF h U vq qs) (hi : qs[i]? = some q) (hx : ∀ x ∈ xs, x < q) (hl : xs.length < 1000000) :
    CallsH Tryz.prog 152 [v, .func (.func 120) #[] #[p3, p6]] h fun v' h' => v' = I (-1) ∧ h = h' := by
  (apply enter Tryz.func152 rfl Tryz.ntmps152 rfl)
  refine runJ ?_
  (first | (apply w_seqB; exact rfl; apply w_block; exact rfl) | skip)
  apply (w_loop (σ := Nat) rfl (fun j => [(0, v), (1, .func (.func 120) #[] #[p3, p6]), (6, v), (7, N xs.length), (8, N j)])
    (fun j h' => h = h' ∧ j ≤ xs.length) (fun j => xs.length - j) 0)
  · exact subs
  · exact ⟨rfl, Nat.zero_le _⟩
  rintro j h' ⟨rfl, j1⟩
  refine runJ ?_
  (apply w_condD; exact rfl; exact rfl) <;> intro hj
  · obtain ⟨x, hxj⟩ := get_lt hj
    have hxq := hx x (List.mem_of_getElem? hxj)
    have LV := wholes1_spec x q i p3 p6 vq qs h P3 P6 sq hi
    rw [decide_eq_false (show ¬ q ≤ x by omega)] at LV
    refine runJ ?_
    refine s_callV rfl Tryz_ent120 rfl rfl rfl ?_
    refine (LV).mono ?_
    rintro _ _ ⟨rfl, rfl⟩
    refine ⟨trivial, ?_⟩
    refine runJ ?_
    apply again_normal (j + 1)
    · exact subs
    · exact ⟨rfl, hj⟩
    · omega
  · refine runJ ?_
    exact fin1 rfl rfl ⟨rfl, rfl⟩
theorem containsFuncW_spec (v p3 p6 vq : Value) (xs : List Nat) (q i : Nat) (qs : List Nat) (h : Hp) (s : SlF h U v xs) (P3 : Var h p3 22 [vq]) (P6 : Var h p6 3 [N i]) (sq : SlF h U vq qs) (hi : qs[i]? = some q) (hx : ∀ x ∈ xs, x < q) (hl : xs.length < 1000000) :
    CallsH Tryz.prog 106 [v, .func (.func 120) #[] #[p3, p6]] h fun v' h' => v' = .bool false ∧ h = h' := by
  (apply enter Tryz.func106 rfl Tryz.ntmps106 rfl)
  refine runJ ?_
  apply (s_call Tryz_ent152 rfl rfl rfl)
  refine (indexFuncW_spec v p3 p6 vq xs q i qs h s P3 P6 sq hi hx hl).mono ?_
  rintro _ _ ⟨rfl, rfl⟩
  refine ⟨trivial, ?_⟩
  refine runJ ?_
  exact fin1 rfl rfl ⟨rfl, rfl⟩

theorem Tryz_ent60 : Ent Tryz.prog 60 := ent_of Tryz.func60 (by kernel_rfl) rfl
set_option maxHeartbeats 4000000 in
theorem cWholes_spec (va vq : Value) (rows : List (Value × List Nat)) (qs : List Nat) (n : Nat) (zs : List Int) (h : Hp) (TB0 : TB h) (S : PolAt h va rows) (sq : SlF h U vq qs) (hr : rightP qs) (C : Cop qs) (hn : n ≤ 4096)
    (hR : ResOf n qs (rows.map (·.2)) zs) (hz : ∀ z ∈ zs, -(prodL qs : Int) < 2 * z ∧ 2 * z < prodL qs) :
    CallsH Tryz.prog 60 [.agg #[va], vq] h fun v' h' => Ext h h' ∧ ∃ v xs, v' = .tuple #[v, N 0] ∧ IntsAt h' h.size v xs ∧ xs.map (·.2) = zs := by
  have hq := hr.1
  have h0 := hr.2.2.1
  have h24 := hr.2.2.2
  have hal : Al 18446744073709551616 qs := fun q h => by have := hq q h; omega
  obtain ⟨hrl, hzl, hrf⟩ := hR
  rw [List.length_map] at hrl
  have hrow : ∀ (i : Nat) (x : Value × List Nat), rows[i]? = some x → ∃ q, qs[i]? = some q ∧ q ∈ qs ∧ Fit n q x.2 ∧ ∀ k, k < n → Cg q (gt x.2 k) (gi zs k) := fun i x hx => by
    have hi := (List.getElem?_eq_some_iff.1 hx).1
    obtain ⟨q, hqi⟩ := get_lt (l := qs) (j := i) (by omega)
    obtain ⟨a, b⟩ := hrf i q x.2 (by rw [List.getElem?_map, hx]; rfl) hqi
    exact ⟨q, hqi, List.mem_of_getElem? hqi, a, b⟩
  obtain ⟨x0, hx0⟩ := get_lt (l := rows) (j := 0) (by omega)
  obtain ⟨q0, hq0, -, hf0, -⟩ := hrow 0 x0 hx0
  have hx0l := hf0.1
  have sx0 := S.el _ (List.mem_of_getElem? hx0)
  have hq64 : ∀ q ∈ qs, 1 < q ∧ q < 18446744073709551616 := fun q h => by have := hq q h; omega
  have hvqo := sq.one
  (apply enter Tryz.func60 rfl Tryz.ntmps60 rfl)
  refine runJ ?_
  (apply s_box; exact rfl; exact rfl; exact rfl; exact rfl)
  intro p2 h1 x1 e1 b1
  (try dsimp only [Value.cells, List.toList_toArray] at x1)
  refine clsI ?_
  have x1 : Var h1 p2 56 [va] := x1
  refine runJ ?_
  (apply s_box; exact rfl; exact rfl; exact rfl; exact rfl)
  intro p3 h2 x2 e2 b2
  (try dsimp only [Value.cells, List.toList_toArray] at x2)
  refine clsI ?_
  have x2 : Var h2 p3 22 [vq] := by rw [← oneL hvqo]; exact x2
  have E2 := e1.trans e2
  have x12 := x1.ext e2
  have RS := right_spec vq qs h2 (TB0.ext E2) (sq.ext E2) hal (by omega)
  rw [decide_eq_true hr] at RS
  refine runJ ?_
  apply (s_call Tryz_ent119 rfl rfl rfl)
  refine (RS).mono ?_
  rintro _ h3 ⟨rfl, e3⟩
  refine ⟨trivial, ?_⟩
  have E3 := E2.trans e3
  have x13 := x12.ext e3
  have x23 := x2.ext e3
  have sR3 := S.row.ext E3
  have sq3 := sq.ext E3
  refine runJ ?_
  rw [decide_eq_false (show ¬ rows.length ≠ qs.length by omega)]
  refine runJ ?_
  (first | (apply w_seqB; exact rfl; apply w_block; exact rfl) | skip)
  apply (w_loop (σ := Nat) rfl (fun j => [(2, p2), (3, p3), (24, va), (25, N rows.length), (26, N j)])
    (fun j h' => Ext h3 h' ∧ j ≤ rows.length) (fun j => rows.length - j) 0)
  · exact subs
  · exact ⟨Ext.refl _, Nat.zero_le _⟩
  rintro j h4 ⟨e4, j1⟩
  have E4 := E3.trans e4
  have x14 := x13.ext e4
  have x24 := x23.ext e4
  have sR4 := S.row.ext E4
  have sq4 := sq.ext E4
  have sx04 := sx0.ext E4
  refine runJ ?_
  (apply w_condD; exact rfl; exact rfl) <;> intro hj
  · obtain ⟨⟨vx, ws⟩, hxj⟩ := get_lt hj
    obtain ⟨q, hqj, hqm, hfx, -⟩ := hrow j _ hxj
    have sx4 := (S.el _ (List.mem_of_getElem? hxj)).ext E4
    have hwl := hfx.1
    dsimp only at sx4 hfx hwl
    refine runJ ?_
    (apply s_alloc; exact rfl; exact rfl; exact rfl)
    intro p6 h5 x5 e5 b5
    (try dsimp only [Value.cells, List.toList_toArray] at x5)
    refine clsI ?_
    refine runJ ?_
    (apply s_storeV; exact rfl; exact rfl; exact rfl; exact (OneAll.cons rfl OneAll.nil : OneAll [N j]); exact rfl; exact rfl; exact x5; exact rfl)
    intro h6 x6 k6
    refine ⟨trivial, ?_⟩
    have x6 : Var h6 p6 3 [N j] := x6
    have e46 : Ext h4 h6 := k6.oldV e5 b5 (Nat.le_refl _)
    have x16 := x14.ext e46
    have x26 := x24.ext e46
    have sR6 := sR4.ext e46
    have sx6 := sx4.ext e46
    have sx06 := sx04.ext e46
    have sq6 := sq4.ext e46
    refine runJ ?_
    (apply s_splitG; exact rfl; exact rfl; exact rfl; exact rfl) <;> intro g1
    · exfalso; omega
    refine runJ ?_
    apply (s_call Tryz_ent106 rfl rfl rfl)
    refine (containsFuncW_spec vx p3 p6 vq ws q j qs h6 sx6 x26 x6 sq6 hqj hfx.2 (by omega)).mono ?_
    rintro _ _ ⟨rfl, rfl⟩
    refine ⟨trivial, ?_⟩
    refine runJ ?_
    apply again_normal (j + 1)
    · exact subs
    · exact ⟨e4.trans e46, hj⟩
    · omega
  refine runJ ?_
  refine s_makeS (f := intC) (s := 2) (bytes := 32) ((.slice none 0 0, 0) : Value × Int) (isK_t rfl) (isK_t rfl) rfl rfl rfl (fun _ => rfl) (by decide) rfl rfl (Nat.le_refl _) (by omega) (by omega) ?_
  intro vI h5 o5 e5 b5
  refine ⟨trivial, ?_⟩
  rw [hx0l] at o5
  have x15 := x14.ext e5
  have x25 := x24.ext e5
  have sq5 := sq4.ext e5
  have sR5 := sR4.ext e5
  have hs45 : h4.size < h5.size := (o5.blk _ b5).2
  refine runJ ?_
  (apply (s_make (f := U) (bytes := 8) (0)); (first | exact isK_c | exact isK_t rfl); (first | exact isK_c | exact isK_t rfl); exact rfl; exact rfl; exact rfl; exact rfl; exact rfl; exact rfl; omega; omega; omega)
  intro vr h6 o6 e6 b6
  refine clsI ?_
  have e46 := e5.trans e6
  have x16 := x15.ext e6
  have x26 := x25.ext e6
  have o5' := o5.ext e6
  have hs56 : h5.size < h6.size := (o6.blk _ b6).2
  have sI6 : SlA h6 intC 2 vI (List.replicate n ((.slice none 0 0, 0) : Value × Int)) := ⟨fun _ => rfl, o5'.sl⟩
  refine runJ ?_
  rw [List.length_replicate]
  (first | (apply w_seqB; exact rfl; apply w_block; exact rfl) | skip)
  apply (w_loop (σ := Nat × List (Value × Int) × List Nat) rfl (fun j => [(2, p2), (3, p3), (8, vI), (9, vr), (55, N n), (56, N j.1)])
    (fun j h' => Ext h4 h' ∧ h6.size ≤ h'.size ∧ j.1 ≤ n ∧ j.2.1.length = n ∧ IntsAt h' h4.size vI j.2.1 ∧ (∀ x ∈ j.2.1, x.1.ownBlock = none ∨ x.1.ownBlock ≠ vr.ownBlock) ∧ OwnF h' h5.size 26 U vr j.2.2 ∧ j.2.2.length = qs.length ∧ j.2.1.map (·.2) = zs.take j.1 ++ List.replicate (n - j.1) 0) (fun j => n - j.1) (0, List.replicate n (.slice none 0 0, 0), List.replicate qs.length 0))
  · exact subs
  · refine ⟨e46, Nat.le_refl _, Nat.zero_le _, List.length_replicate, ⟨o5', fun x hx => ?_, fun x hx => ?_⟩, fun x hx => ?_, o6, List.length_replicate, by simp⟩
    · rw [(List.mem_replicate.1 hx).2]; exact OwnF.nil _ _ _ _
    · rw [(List.mem_replicate.1 hx).2]; exact .inl rfl
    · rw [(List.mem_replicate.1 hx).2]; exact .inl rfl
  rintro ⟨k, xs, rr⟩ h7 ⟨e7, z7, k1, l7, I7, n7, o7, lr7, m7⟩
  dsimp only at e7 z7 k1 l7 I7 n7 o7 lr7 m7 ⊢
  have E7 := E4.trans e7
  have x17 := x14.ext e7
  have x27 := x24.ext e7
  have sq7 := sq4.ext e7
  have hvr : ∀ b, vr.ownBlock = some b → h5.size ≤ b := fun b hb => (o7.blk b hb).1
  have nIr : vI.ownBlock = none ∨ vI.ownBlock ≠ vr.ownBlock := by rw [b5, b6]; exact .inr fun e => by have := Option.some.inj e; omega
  have nrI : vr.ownBlock = none ∨ vr.ownBlock ≠ vI.ownBlock := by rw [b5, b6]; exact .inr fun e => by have := Option.some.inj e; omega
  refine runJ ?_
  (apply w_condD; exact rfl; exact rfl) <;> intro hk
  · obtain ⟨z, hzk⟩ := get_lt (l := zs) (j := k) (by omega)
    have hzm := hz z (List.mem_of_getElem? hzk)
    have hgz : gi zs k = z := by unfold gi; rw [List.getD_eq_getElem?_getD, hzk]; rfl
    refine runJ ?_
    (first | (apply w_seqB; exact rfl; apply w_block; exact rfl) | skip)
    apply (w_loop (σ := Nat × List Nat) rfl (fun i => [(2, p2), (3, p3), (8, vI), (9, vr), (10, N k), (55, N n), (56, N k), (60, N qs.length), (61, N i.1)])
      (fun i h' => Only vr.ownBlock h7 h' ∧ i.1 ≤ qs.length ∧ OwnF h' h5.size 26 U vr i.2 ∧ i.2.length = qs.length ∧ i.2.take i.1 = (rows.take i.1).map fun x => x.2.getD k 0) (fun i => qs.length - i.1) (0, rr))
    · exact subs
    · exact ⟨Only.refl _ _, Nat.zero_le _, o7, lr7, rfl⟩
    rintro ⟨i, r8⟩ h8 ⟨k8, i1, o8, l8, m8⟩
    dsimp only at k8 i1 o8 l8 m8 ⊢
    have hvr4 : ∀ b, vr.ownBlock = some b → h4.size ≤ b := fun b hb => Nat.le_trans e5.1 (hvr b hb)
    have e8 : Ext h4 h8 := ext_onlyR e7 k8 hvr4
    have E8 := E4.trans e8
    have x18 := x14.ext e8
    have x28 := x24.ext e8
    have sq8 := sq4.ext e8
    have sR8 := S.row.ext E8
    refine runJ ?_
    (apply w_condD; exact rfl; exact rfl) <;> intro hi
    · obtain ⟨⟨vx, ws⟩, hxi⟩ := get_lt (l := rows) (j := i) (by omega)
      obtain ⟨q, hqi, hqm, hfx, -⟩ := hrow i _ hxi
      have sx8 := (S.el _ (List.mem_of_getElem? hxi)).ext E8
      have hwl := hfx.1
      dsimp only at sx8 hfx hwl
      obtain ⟨y, hyk⟩ := get_lt (l := ws) (j := k) (by omega)
      refine runJ ?_
      (apply (s_storeF (y)); exact rfl; exact rfl; exact rfl; exact rfl; exact rfl; exact o8; exact rfl; (first | assumption | omega))
      intro h9 o9 k9
      refine clsI ?_
      refine runJ ?_
      apply again_normal (i + 1, r8.set i y)
      · exact subs
      · refine ⟨k8.trans k9, hi, o9, by dsimp only; rw [List.length_set]; exact l8, ?_⟩
        dsimp only
        obtain ⟨c, hc⟩ := get_lt (l := r8) (j := i) (by omega)
        have hs : (r8.set i y)[i]? = some y := List.getElem?_set_self (by omega)
        rw [take_snoc hs, List.take_set_of_le (Nat.le_refl _), m8, take_snoc hxi, List.map_append]
        simp [List.getD_eq_getElem?_getD, hyk]
      · dsimp only; omega
    · have hil : i = qs.length := by omega
      subst hil
      have hr8 : r8 = rows.map fun x => x.2.getD k 0 := by
        have h1 : r8.take qs.length = r8 := List.take_of_length_le (by omega)
        have h2 : rows.take qs.length = rows := List.take_of_length_le (by omega)
        rw [h1, h2] at m8
        exact m8
      have I8 : IntsAt h8 h4.size vI xs := ⟨I7.own.only k8 nIr, fun x hx => (I7.el x hx).only k8 (n7 x hx), I7.ne⟩
      have RW := wholeG_spec vr vq r8 qs z h8 o8.sl sq8 (by omega) h0 h24 C hq64 (fun i r q hr hqi => by
        rw [hr8, List.getElem?_map] at hr
        obtain ⟨x, hx, rfl⟩ := Option.map_eq_some_iff.1 hr
        obtain ⟨q', hq', -, hf, hc⟩ := hrow i x hx
        rw [hqi] at hq'; cases hq'
        have := hc k (by omega)
        rw [hgz] at this
        obtain ⟨y, hy⟩ := get_lt (l := x.2) (j := k) (by have := hf.1; omega)
        refine ⟨?_, this⟩
        rw [List.getD_eq_getElem?_getD, hy]
        exact hf.2 y (List.mem_of_getElem? hy)) hzm.1 hzm.2
      refine runJ ?_
      apply (s_call Tryz_ent121 rfl rfl rfl)
      refine (RW).mono ?_
      rintro _ h9 ⟨e9, a, rfl, oa⟩
      refine ⟨trivial, ?_⟩
      have hza := oa.sl.one
      have I9 := I8.ext e9
      have oI9 := I9.own
      have sI9 := I9.sla
      have o9 := o8.ext e9
      obtain ⟨y0, hy0⟩ := get_lt (l := xs) (j := k) (by omega)
      refine runJ ?_
      (apply (s_storeS (f := intC) (s := 2) (j := k) ((a, z) : Value × Int)); exact rfl; exact rfl; exact rfl; exact rfl; exact rfl; exact (fun _ => rfl); exact (by decide); exact oI9; exact (fun u hu => by
        rcases List.mem_cons.1 hu with rfl | hu
        · rfl
        rw [List.mem_singleton.1 hu]; exact hza); omega)
      intro h10 o10 k10
      refine ⟨trivial, ?_⟩
      have hbI : ∀ k, vI.ownBlock = some k → h4.size ≤ k := fun k hk => (I9.own.blk k hk).1
      have hbI2 : ∀ k, vI.ownBlock = some k → k < h8.size := fun k hk => (I8.own.blk k hk).2
      have e10 : Ext h4 h10 := ext_onlyR (e8.trans e9) k10 hbI
      have na : a.ownBlock = none ∨ a.ownBlock ≠ vI.ownBlock := by
        cases hb : a.ownBlock with
        | none => exact .inl rfl
        | some k => exact .inr fun e => by have := (oa.blk _ hb).1; have := hbI2 _ e.symm; omega
      have nar : a.ownBlock = none ∨ a.ownBlock ≠ vr.ownBlock := by
        cases hb : a.ownBlock with
        | none => exact .inl rfl
        | some k => exact .inr fun e => by have := (oa.blk _ hb).1; have := (o8.blk _ e.symm).2; omega
      refine runJ ?_
      apply again_normal (k + 1, xs.set k (a, z), r8)
      · exact subs
      · refine ⟨e10, Nat.le_trans z7 (Nat.le_trans k8.1 (Nat.le_trans e9.1 k10.1)), hk, by dsimp only; rw [List.length_set]; exact l7, ⟨o10, fun x hx => ?_, fun x hx => ?_⟩, fun x hx => ?_, o9.only k10 nrI, l8, ?_⟩
        · rcases List.mem_or_eq_of_mem_set hx with hx | rfl
          · exact (I9.el x hx).only k10 (I9.ne x hx)
          · exact (oa.base e8.1).only k10 na
        · rcases List.mem_or_eq_of_mem_set hx with hx | rfl
          · exact I9.ne x hx
          · exact na
        · rcases List.mem_or_eq_of_mem_set hx with hx | rfl
          · exact n7 x hx
          · exact nar
        · dsimp only
          rw [List.map_set, m7, take_snoc hzk, show n - k = (n - (k + 1)) + 1 by omega, List.replicate_succ, List.set_append_right _ _ (by rw [List.length_take]; omega), show k - (zs.take k).length = 0 by rw [List.length_take]; omega]
          simp
      · dsimp only; omega
  · have hkn : k = n := by omega
    subst hkn
    rw [Nat.sub_self, List.replicate_zero, List.append_nil, ← hzl, List.take_length] at m7
    refine runJ ?_
    exact fin2 rfl rfl rfl ⟨E7, vI, xs, rfl, I7.base E4.1, m7⟩
end Go.Proofs.YtfcmdefigldpnaaGreatDoor

