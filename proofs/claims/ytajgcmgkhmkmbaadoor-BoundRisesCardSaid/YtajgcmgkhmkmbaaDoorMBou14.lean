/- Texts NatH to NatJ of this work, joined: each says in its own head what it proves, and of which condition. -/
import Derived.Test.YtajgcmgkhmkmbaaDoorMBou13
/- Naturals: long division of package nat, by contracts: shifted, byWord, digit. No condition. -/
namespace Go.Proofs.YtajgcmgkhmkmbaaDoor
set_option linter.unusedVariables false
set_option maxRecDepth 8000
open Go Go.Den Go.RowKit Go.Dig

theorem shl_word {w s : Nat} (hw : w < 18446744073709551616) (hs : s ≤ 64) : w * 2 ^ s / 18446744073709551616 = w / 2 ^ (64 - s) := by
  have e : (18446744073709551616 : Nat) = 2 ^ (64 - s) * 2 ^ s := by rw [← Nat.pow_add, show 64 - s + s = 64 by omega]
  rw [e, Nat.mul_div_mul_right _ _ (Nat.pow_pos (by omega))]
theorem shl_low {w s : Nat} (hs : s ≤ 64) : w * 2 ^ s % 18446744073709551616 = w % 2 ^ (64 - s) * 2 ^ s := by
  have e : (18446744073709551616 : Nat) = 2 ^ (64 - s) * 2 ^ s := by rw [← Nat.pow_add, show 64 - s + s = 64 by omega]
  rw [e, Nat.mul_mod_mul_right]
theorem shl_or {w s o : Nat} (hs : s ≤ 64) (ho : o < 2 ^ s) : o ||| w * 2 ^ s % 18446744073709551616 = o + w * 2 ^ s % 18446744073709551616 := by
  rw [shl_low hs, Nat.or_comm, Num.or_add ho, Nat.add_comm]
theorem shl_hi {w s : Nat} (hw : w < 18446744073709551616) (hs : s ≤ 64) : w / 2 ^ (64 - s) < 2 ^ s := by
  rw [Nat.div_lt_iff_lt_mul (Nat.pow_pos (by omega)), ← Nat.pow_add, show s + (64 - s) = 64 by omega]; exact hw
theorem shl_sum {w s o : Nat} (hs : s ≤ 64) (ho : o < 2 ^ s) : o + w * 2 ^ s % 18446744073709551616 < 18446744073709551616 := by
  have e : (18446744073709551616 : Nat) = 2 ^ (64 - s) * 2 ^ s := by rw [← Nat.pow_add, show 64 - s + s = 64 by omega]
  have h1 : w % 2 ^ (64 - s) < 2 ^ (64 - s) := Nat.mod_lt _ (Nat.pow_pos (by omega))
  have h2 : (w % 2 ^ (64 - s) + 1) * 2 ^ s ≤ 2 ^ (64 - s) * 2 ^ s := Nat.mul_le_mul_right _ h1
  rw [shl_low hs]
  rw [← e, Nat.add_mul, Nat.one_mul] at h2
  omega
theorem shr_or {x y s : Nat} (hx : x < 18446744073709551616) (hs : s ≤ 64) : x / 2 ^ s ||| y * 2 ^ (64 - s) % 18446744073709551616 = x / 2 ^ s + y % 2 ^ s * 2 ^ (64 - s) ∧ x / 2 ^ s + y % 2 ^ s * 2 ^ (64 - s) < 18446744073709551616 := by
  have h1 : x / 2 ^ s < 2 ^ (64 - s) := by
    rw [Nat.div_lt_iff_lt_mul (Nat.pow_pos (by omega)), ← Nat.pow_add, show 64 - s + s = 64 by omega]; exact hx
  have h2 := shl_or (w := y) (s := 64 - s) (by omega) h1
  have h3 := shl_sum (w := y) (s := 64 - s) (by omega) h1
  have h4 := shl_low (w := y) (s := 64 - s) (by omega)
  rw [show 64 - (64 - s) = s by omega] at h4
  rw [h4] at h2 h3 ⊢
  exact ⟨h2, h3⟩

theorem Tryd_ent73 : Ent Tryd.prog 73 := ent_of Tryd.func73 (by kernel_rfl) rfl
set_option maxHeartbeats 800000 in
theorem shifted_spec (va : Value) (xs : List Nat) (s : Nat) (h : Hp) (ha : SlF h U va xs) (hx : Al 18446744073709551616 xs) (hl : xs.length < 1099511627776) (hs : s < 64) :
    CallsH Tryd.prog 73 [va, U s] h fun v' h' => ∃ os, Ext h h' ∧ OwnF h' h.size 31 U v' os ∧ os.length = xs.length + 1 ∧ Al 18446744073709551616 os ∧ vl 18446744073709551616 os = vl 18446744073709551616 xs * 2 ^ s ∧ os.getD xs.length 0 < 2 ^ s := by
  have hp0 : 0 < 2 ^ s := Nat.pow_pos (by omega)
  (apply enter Tryd.func73 rfl Tryd.ntmps73 rfl)
  refine runM ?_
  (apply (s_make (f := U) (bytes := 8) (0)); (first | exact isK_c | exact isK_t rfl); (first | exact isK_c | exact isK_t rfl); exact rfl; exact rfl; exact rfl; exact rfl; exact rfl; exact rfl; omega; omega; omega)
  intro out h1 o1 e1 b1
  refine ⟨(by first | exact trivial | exact Ext.refl _ | assumption | exact Ext.trans (by assumption) (by assumption)), ?_⟩
  refine runM ?_
  (first | (apply w_seqB; exact rfl; apply w_block; exact rfl) | skip)
  apply (w_loop (σ := Nat × List Nat) rfl (fun p => [(1, U s), (12, va), (13, N xs.length), (14, N p.1), (5, out)])
    (fun p h' => Ext h h' ∧ OwnF h' h.size 31 U out p.2 ∧ p.2.length = xs.length + 1 ∧ p.1 ≤ xs.length ∧ Al 18446744073709551616 p.2 ∧
      pv 18446744073709551616 p.2 p.1 + 18446744073709551616 ^ p.1 * p.2.getD p.1 0 = pv 18446744073709551616 xs p.1 * 2 ^ s ∧ p.2.getD p.1 0 < 2 ^ s) (fun p => xs.length - p.1) (0, List.replicate (xs.length + 1) 0))
  · exact (Sub.cons rfl (Sub.cons rfl (Sub.cons rfl (Sub.cons rfl (Sub.cons rfl (Sub.nil _))))))
  · refine ⟨e1, o1, by simp, Nat.zero_le _, Al.replicate (by omega) _, ?_, ?_⟩
    · simp [pv, List.replicate_succ]
    · simpa [List.replicate_succ] using hp0
  · rintro ⟨i, os⟩ h' ⟨e, o, i1, i2, i3, i4, i5⟩
    dsimp only at e o i1 i2 i3 i4 i5 ⊢
    have ha' := ha.ext e
    refine runM ?_
    (apply w_condD; exact rfl; exact rfl) <;> intro hi
    · have hw := hx.getD (by omega) i
      have ho := i3.getD (by omega) i
      have hor := shl_or (w := xs.getD i 0) (s := s) (by omega) i5
      have hsum := shl_sum (w := xs.getD i 0) (s := s) (by omega) i5
      have hhi := shl_hi hw (s := s) (by omega)
      have hdv := shl_word hw (s := s) (by omega)
      have hmd := Num.modW (xs.getD i 0 * 2 ^ s)
      have hst := shl_step (b := 18446744073709551616) (w := xs.getD i 0) i4 rfl (Nat.mod_add_div _ _).symm
      have hlw : xs.getD i 0 / 2 ^ (64 - s) < 18446744073709551616 := Nat.lt_of_le_of_lt (Nat.div_le_self _ _) hw
      refine runM ?_
      rw [hor]
      rw [hdv] at hst
      generalize hw1 : os.getD i 0 + xs.getD i 0 * 2 ^ s % 18446744073709551616 = w1 at *
      generalize hw2 : xs.getD i 0 / 2 ^ (64 - s) = w2 at *
      (apply (s_storeF (w1)); exact rfl; exact rfl; exact rfl; exact rfl; exact rfl; exact o; exact rfl; (first | assumption | omega))
      intro h2 o2 k2
      refine ⟨(by first | exact trivial | exact Ext.refl _ | assumption | exact Ext.trans (by assumption) (by assumption)), ?_⟩
      have e2 := o.old k2 e (Nat.le_refl _)
      have hl2 : (os.set i w1).length = xs.length + 1 := by simp [i1]
      refine runM ?_
      rw [hw2]
      (apply (s_storeF (w2)); exact rfl; exact rfl; exact rfl; exact rfl; exact rfl; exact o2; exact rfl; (first | assumption | omega))
      intro h3 o3 k3
      refine ⟨(by first | exact trivial | exact Ext.refl _ | assumption | exact Ext.trans (by assumption) (by assumption)), ?_⟩
      have e3 := o2.old k3 e2 (Nat.le_refl _)
      refine runM ?_
      apply again_normal (i + 1, (os.set i w1).set (i + 1) w2)
      · exact (Sub.cons rfl (Sub.cons rfl (Sub.cons rfl (Sub.cons rfl (Sub.cons rfl (Sub.nil _))))))
      · refine ⟨e3, o3, by simp [i1], hi, (i3.set hsum _).set hlw _, ?_, ?_⟩
        · simp only []
          rw [getD_set_self (by simp; omega)]
          simp only [pv]
          rw [pv_set (by omega), pv_set (Nat.le_refl _), getD_set_other (by omega), getD_set_self (by omega), Nat.pow_succ]
          exact hst
        · simp only []
          rw [getD_set_self (by simp; omega)]; exact hhi
      · simp only []; omega
    · have hie : i = xs.length := by omega
      subst hie
      refine runM ?_
      refine fin1 rfl rfl ⟨os, e, o, i1, i3, ?_, i5⟩
      rw [← pv_full (xs := os) (k := xs.length + 1) (by omega), pv, i4, pv_full (Nat.le_refl _)]

theorem Tryd_ent71 : Ent Tryd.prog 71 := ent_of Tryd.func71 (by kernel_rfl) rfl
set_option maxHeartbeats 800000 in
theorem byWord_spec (va : Value) (xs : List Nat) (w : Nat) (h : Hp) (ha : SlF h U va xs) (hx : Al 18446744073709551616 xs) (hl : xs.length < 1099511627776) (hw0 : 0 < w) (hw : w < 18446744073709551616) :
    CallsH Tryd.prog 71 [va, U w] h fun v' h' => ∃ q, v' = .tuple #[q, U (vl 18446744073709551616 xs % w)] ∧ Ext h h' ∧ OwnF h' h.size 31 U q (dg 18446744073709551616 (vl 18446744073709551616 xs / w)) := by
  (apply enter Tryd.func71 rfl Tryd.ntmps71 rfl)
  refine runM ?_
  (apply (s_make (f := U) (bytes := 8) (0)); (first | exact isK_c | exact isK_t rfl); (first | exact isK_c | exact isK_t rfl); exact rfl; exact rfl; exact rfl; exact rfl; exact rfl; exact rfl; omega; omega; omega)
  intro out h1 o1 e1 b1
  refine ⟨(by first | exact trivial | exact Ext.refl _ | assumption | exact Ext.trans (by assumption) (by assumption)), ?_⟩
  refine runM ?_
  (first | (apply w_seqB; exact rfl; apply w_block; exact rfl) | skip)
  apply (w_loop (σ := Nat × Nat × List Nat) rfl (fun p => [(0, va), (1, U w), (6, out), (7, U p.2.1), (8, I ((p.1 : Int) - 1))])
    (fun p h' => Ext h h' ∧ OwnF h' h.size 31 U out p.2.2 ∧ p.2.2.length = xs.length ∧ p.1 ≤ xs.length ∧ Al 18446744073709551616 p.2.2 ∧ p.2.1 < w ∧
      vl 18446744073709551616 (xs.drop p.1) = vl 18446744073709551616 (p.2.2.drop p.1) * w + p.2.1) (fun p => p.1) (xs.length, 0, List.replicate xs.length 0))
  · exact (Sub.cons rfl (Sub.cons rfl (Sub.cons rfl (Sub.cons rfl (Sub.cons rfl (Sub.nil _))))))
  · refine ⟨e1, o1, by simp, Nat.le_refl _, Al.replicate (by omega) _, hw0, ?_⟩
    simp [List.drop_of_length_le, vl]
  · rintro ⟨k, r, os⟩ h' ⟨e, o, i1, i2, i3, i4, i5⟩
    dsimp only at e o i1 i2 i3 i4 i5 ⊢
    have ha' := ha.ext e
    refine runM ?_
    (apply w_condD; exact rfl; exact rfl) <;> intro hk
    · obtain ⟨i, rfl⟩ : ∃ i, k = i + 1 := ⟨k - 1, by omega⟩
      (apply w_know (t := 8) (u := N (i)) rfl (congrArg I (by omega)))
      have hxi := hx.getD (by omega) i
      refine runM ?_
      generalize hxd : xs.getD i 0 = x at *
      apply (s_call Tryd_ent86 rfl rfl rfl)
      refine (div64_spec r x w h' i4 hxi hw).mono ?_
      rintro _ _ ⟨rfl, rfl⟩
      refine ⟨(by first | exact trivial | exact Ext.refl _ | assumption | exact Ext.trans (by assumption) (by assumption)), ?_⟩
      have hdm := Nat.div_add_mod (r * 18446744073709551616 + x) w
      have hml : (r * 18446744073709551616 + x) % w < w := Nat.mod_lt _ hw0
      have hql : (r * 18446744073709551616 + x) / w < 18446744073709551616 := Num.digit_lt hxi i4
      generalize (r * 18446744073709551616 + x) / w = q at *
      generalize (r * 18446744073709551616 + x) % w = r' at *
      refine runM ?_
      (apply (s_storeF (q)); exact rfl; exact rfl; exact rfl; exact rfl; exact rfl; exact o; exact rfl; (first | assumption | omega))
      intro h2 o2 k2
      refine ⟨(by first | exact trivial | exact Ext.refl _ | assumption | exact Ext.trans (by assumption) (by assumption)), ?_⟩
      have e2 := o.old k2 e (Nat.le_refl _)
      refine runM ?_
      apply again_normal (i, r', os.set i q)
      · exact (Sub.cons rfl (Sub.cons rfl (Sub.cons rfl (Sub.cons rfl (Sub.cons rfl (Sub.nil _))))))
      · refine ⟨e2, o2, by simp [i1], by simp only []; omega, i3.set hql _, hml, ?_⟩
        simp only []
        rw [List.drop_eq_getElem_cons (by omega : i < xs.length), List.drop_eq_getElem_cons (by simp; omega : i < (os.set i q).length)]
        simp only [vl, List.getElem_set_self, i5]
        rw [List.drop_set_of_lt (by omega)]
        have hx' : xs[i] = x := by rw [← hxd]; simp [show i < xs.length by omega]
        rw [hx', Nat.add_mul, Nat.mul_add, Nat.mul_comm q w, Nat.mul_assoc]
        omega
      · exact Nat.lt_succ_self i
    · have hk0 : k = 0 := by omega
      subst hk0
      simp only [List.drop_zero] at i5
      refine runM ?_
      apply (s_call Tryd_ent70 rfl rfl rfl)
      refine (norm_spec out _ h' o.sl (by omega)).mono ?_
      rintro v3 _ ⟨rfl, s3, o3⟩
      refine ⟨(by first | exact trivial | exact Ext.refl _ | assumption | exact Ext.trans (by assumption) (by assumption)), ?_⟩
      have hq : vl 18446744073709551616 os = vl 18446744073709551616 xs / w := by
        rw [i5, Nat.mul_comm, Nat.mul_add_div hw0, Nat.div_eq_of_lt i4, Nat.add_zero]
      have hr : r = vl 18446744073709551616 xs % w := by
        rw [i5, Nat.mul_comm, Nat.mul_add_mod, Nat.mod_eq_of_lt i4]
      refine runM ?_
      refine fin2 rfl rfl rfl ⟨v3, by rw [hr], e, ?_⟩
      have := o3 _ _ o
      rw [nrm_eq (by omega) i3, hq] at this
      exact this
end Go.Proofs.YtajgcmgkhmkmbaaDoor

/- Naturals: a digit of long division of package nat, by contract. No condition. -/
namespace Go.Proofs.YtajgcmgkhmkmbaaDoor
set_option linter.unusedVariables false
set_option maxRecDepth 8000
open Go Go.Den Go.RowKit Go.Dig

section
variable {P : Program} {n : Nat} {Q : Post} {l : Fr} {h : Hp} {ops : List Oper} {Ch : Hp → Prop} {E : Nat → Bool} {i : Nat} {t : TypeId} {x y : Operand}
/-- A window of a row of the call's own. -/
theorem win_sl {α : Type} {f : α → Value} {B : Nat} {e : TypeId} {v vx : Value} {pre ws post : List α} (ho : OwnF h B e f v (pre ++ ws ++ post)) (hv : vx = cutV 1 v pre.length (pre.length + ws.length)) : SlF h f vx ws := by
  have := ho.sl.cut (lo := pre.length) (hi := pre.length + ws.length) (by omega) (by simp)
  rw [hv]
  simpa using this
theorem win_ptr {α : Type} {f : α → Value} {B : Nat} {e : TypeId} {v vx : Value} {pre ws post : List α} (ho : OwnF h B e f v (pre ++ ws ++ post)) (hv : vx = cutV 1 v pre.length (pre.length + ws.length)) {j : Nat} (hj : j < ws.length) : ptrAt vx j = ptrAt v (pre.length + j) := by
  obtain ⟨hl, ⟨rfl, hn⟩ | ⟨g, cap, cur, rfl, hB, hg, hc, hm, hs, ht⟩⟩ := ho
  · simp only [List.length_append] at hn; omega
  · subst hv
    simp only [List.length_append] at hc
    simp [cutV, show cap ≠ pre.length by omega, ptrAt, Addr.add_lit]
theorem s_storeW {α : Type} {f : α → Value} {v vx u : Value} {j B : Nat} {pre ws post : List α} {e : TypeId} (u' : α) (ho : OwnF h B e f v (pre ++ ws ++ post)) (hv : vx = cutV 1 v pre.length (pre.length + ws.length)) (hx : ev l x = some (ptrAt vx j)) (hy : ev l y = some u) (hu : f u' = u) (ht : (P.info? t).map (·.size) = some 1) (hE : E i = true) (h1 : u.oneCell' = true) (hj : j < ws.length)
    (k : ∀ h', OwnF h' B e f v (pre ++ ws.set j u' ++ post) → Only v.ownBlock h h' → Ch h' ∧ S P n ops Ch E Q (i + 1) l h') : O0 P n ops Ch E Q i (.store t x y) l h :=
  s_storeF u' (by rw [hx, win_ptr ho hv hj]) hy hu ht hE ho h1 (by simp; omega) fun h' g1 g2 => k h' (by
    rw [List.append_assoc, List.set_append_right _ _ (by omega), Nat.add_sub_cancel_left, List.set_append_left _ _ hj, ← List.append_assoc] at g1
    exact g1) g2
end

/-- One word of what is taken away. -/
theorem sub_word {g y c x bo : Nat} (hg : g < 18446744073709551616) (hy : y < 18446744073709551616) (hc : c < 18446744073709551616) (hx : x < 18446744073709551616) (hb : bo ≤ 1) :
    g * y / 18446744073709551616 + (g * y % 18446744073709551616 + c) / 18446744073709551616 < 18446744073709551616 ∧
    (x + 18446744073709551616 - (g * y % 18446744073709551616 + c) % 18446744073709551616 - bo) % 18446744073709551616 < 18446744073709551616 ∧
    (if x < (g * y % 18446744073709551616 + c) % 18446744073709551616 + bo then 1 else 0) ≤ 1 ∧
    (x + 18446744073709551616 - (g * y % 18446744073709551616 + c) % 18446744073709551616 - bo) % 18446744073709551616 + g * y + c + bo =
      x + 18446744073709551616 * (if x < (g * y % 18446744073709551616 + c) % 18446744073709551616 + bo then 1 else 0) + 18446744073709551616 * (g * y / 18446744073709551616 + (g * y % 18446744073709551616 + c) / 18446744073709551616) := by
  have hgy : g * y ≤ 18446744073709551615 * 18446744073709551615 := Nat.mul_le_mul (by omega) (by omega)
  generalize g * y = p at *
  refine ⟨by omega, by omega, by split <;> omega, ?_⟩
  split <;> omega
theorem sub_word2 {c x bo : Nat} (hc : c < 18446744073709551616) (hx : x < 18446744073709551616) (hb : bo ≤ 1) :
    (x + 18446744073709551616 - c - bo) % 18446744073709551616 < 18446744073709551616 ∧ (if x < c + bo then 1 else 0) ≤ 1 ∧
    (x + 18446744073709551616 - c - bo) % 18446744073709551616 + c + bo = x + 18446744073709551616 * (if x < c + bo then 1 else 0) := by
  refine ⟨by omega, by split <;> omega, ?_⟩
  split <;> omega

theorem Tryd_ent74 : Ent Tryd.prog 74 := ent_of Tryd.func74 (by kernel_rfl) rfl
set_option maxHeartbeats 4000000 in
theorem digit_spec (x0 vx vy : Value) (pre ws0 post ys : List Nat) (n B : Nat) (h : Hp) (ho : OwnF h B 31 U x0 (pre ++ ws0 ++ post)) (hvx : vx = cutV 1 x0 pre.length (pre.length + ws0.length)) (hy : SlF h U vy ys) (hne : vy.ownBlock = none ∨ vy.ownBlock ≠ x0.ownBlock)
    (hw : Al 18446744073709551616 ws0) (hya : Al 18446744073709551616 ys) (hwl : ws0.length = n + 3) (hyl : ys.length = n + 2) (hn : n < 1099511627776) (h0 : 0 < ys.getD (n + 1) 0) (hlt : vl 18446744073709551616 ws0 < vl 18446744073709551616 ys * 18446744073709551616) :
    CallsH Tryd.prog 74 [vx, vy] h fun v' h' => v' = U (vl 18446744073709551616 ws0 / vl 18446744073709551616 ys) ∧ Only x0.ownBlock h h' ∧ ∃ ws, ws.length = n + 3 ∧ Al 18446744073709551616 ws ∧ vl 18446744073709551616 ws = vl 18446744073709551616 ws0 % vl 18446744073709551616 ys ∧ OwnF h' B 31 U x0 (pre ++ ws ++ post) := by
  obtain ⟨gf1, gf2⟩ := guess_facts (b := 18446744073709551616) (by omega) hw hwl hyl h0
  have sx := win_sl ho hvx
  have hY0 : 0 < vl 18446744073709551616 ys := by omega
  have hql : vl 18446744073709551616 ws0 / vl 18446744073709551616 ys < 18446744073709551616 := (Nat.div_lt_iff_lt_mul hY0).2 (by rw [Nat.mul_comm]; exact hlt)
  generalize hX : vl 18446744073709551616 ws0 = X at *
  generalize hY : vl 18446744073709551616 ys = Y at *
  generalize hq : X / Y = q at *
  (apply enter Tryd.func74 rfl Tryd.ntmps74 rfl)
  refine runM ?_
  rw [hyl, show n + 2 - 1 = n + 1 from rfl]
  have hyt := hya.getD (by omega) (n + 1)
  have hy2 := hya.getD (by omega) n
  have hx2 := hw.getD (by omega) n
  have hx1 := hw.getD (by omega) (n + 1)
  apply (w_tcut (σ := Nat) (fun g => [(0, vx), (1, vy), (5, N (n + 2)), (6, U g)]) (fun g h' => h = h' ∧ q ≤ g ∧ g < 18446744073709551616))
  · (apply w_condD; exact rfl; exact rfl) <;> intro hc
    · generalize hyd : ys.getD (n + 1) 0 = yt at *
      generalize hxd1 : ws0.getD (n + 1) 0 = x1 at *
      generalize hxd2 : ws0.getD (n + 2) 0 = x2 at *
      refine runM ?_
      rw [show n + 2 - 1 = n + 1 from rfl, hyd, hxd1, hxd2]
      apply (s_call Tryd_ent86 rfl rfl rfl)
      refine (div64_spec x2 x1 yt h hc hx1 hyt).mono ?_
      rintro _ _ ⟨rfl, rfl⟩
      refine ⟨(by first | exact trivial | exact Ext.refl _ | assumption | exact Ext.trans (by assumption) (by assumption)), ?_⟩
      have hdm := Nat.div_add_mod (x2 * 18446744073709551616 + x1) yt
      have hml : (x2 * 18446744073709551616 + x1) % yt < yt := Nat.mod_lt _ (by omega)
      have hql2 : (x2 * 18446744073709551616 + x1) / yt < 18446744073709551616 := Num.digit_lt hx1 hc
      rw [Nat.mul_comm] at hdm
      generalize hX2 : x2 * 18446744073709551616 + x1 = X2 at *
      generalize X2 / yt = g0 at *
      generalize X2 % yt = r0 at *
      refine runM ?_
      (first | (apply w_seqB; exact rfl; apply w_block; exact rfl) | skip)
      apply (w_loop (σ := Nat × Nat) rfl (fun p => [(0, vx), (1, vy), (5, N (n + 2)), (6, U p.1), (7, U p.2)])
        (fun p h' => h = h' ∧ q ≤ p.1 ∧ p.1 < 18446744073709551616 ∧ p.1 * yt + p.2 = X2 ∧ p.2 < 18446744073709551616) (fun p => p.1) (g0, r0))
      · exact (Sub.cons rfl (Sub.cons rfl (Sub.cons rfl (Sub.cons rfl (Sub.cons rfl (Sub.nil _))))))
      · exact ⟨rfl, gf1, hql2, hdm, by simp only []; omega⟩
      · rintro ⟨g, r⟩ _ ⟨rfl, i1, i2, i3, i4⟩
        dsimp only at i1 i2 i3 i4 ⊢
        refine runM ?_
        rw [show n + 2 - 2 = n from rfl]
        generalize hyd2 : ys.getD n 0 = y2 at *
        apply (s_call Tryd_ent82 rfl rfl rfl)
        refine (mul64_spec g y2 h i2 hy2).mono ?_
        rintro _ _ ⟨rfl, rfl⟩
        refine ⟨(by first | exact trivial | exact Ext.refl _ | assumption | exact Ext.trans (by assumption) (by assumption)), ?_⟩
        have hgy := Nat.div_add_mod (g * y2) 18446744073709551616
        have hgm := Nat.mod_lt (g * y2) (show 0 < 18446744073709551616 by omega)
        have gf := gf2 g r i3
        generalize g * y2 = gy at *
        generalize gy / 18446744073709551616 = gh at *
        generalize gy % 18446744073709551616 = gl at *
        have hsxl : n + 2 - 2 < ws0.length := by omega
        refine runM ?_
        (apply s_splitG; exact rfl; exact rfl; exact rfl; exact rfl) <;> intro c1
        · refine runM ?_
          apply cut_normal g
          · exact (Sub.cons rfl (Sub.cons rfl (Sub.cons rfl (Sub.cons rfl (Sub.nil _)))))
          · exact ⟨rfl, i1, i2⟩
        · refine runM ?_
          (apply s_splitG; exact rfl; exact rfl; exact rfl; exact rfl) <;> intro c2
          · refine runM ?_
            rw [show n + 2 - 2 = n from rfl]
            (apply w_condD; exact rfl; exact rfl) <;> intro c3
            · refine runM ?_
              apply cut_normal g
              · exact (Sub.cons rfl (Sub.cons rfl (Sub.cons rfl (Sub.cons rfl (Sub.nil _)))))
              · exact ⟨rfl, i1, i2⟩
            · have hgt : q < g := gf (by omega)
              have hg1 : 1 ≤ g := by omega
              have hmul : (g - 1) * yt + (r + yt) = X2 := by
                rw [← i3, Nat.sub_mul, Nat.one_mul]
                have := Nat.mul_le_mul_right yt hg1
                rw [Nat.one_mul] at this
                omega
              have hyl2 : n + 2 - 1 < ys.length := by omega
              refine runM ?_
              by_cases hov : r + yt < 18446744073709551616
              · rw [show n + 2 - 1 = n + 1 from rfl, hyd]
                refine runM ?_
                rw [show n + 2 - 1 = n + 1 from rfl, hyd]
                (apply w_condF; exact rfl; exact rfl; exact (by omega))
                refine runM ?_
                apply again_normal (g - 1, r + yt)
                · exact (Sub.cons rfl (Sub.cons rfl (Sub.cons rfl (Sub.cons rfl (Sub.cons rfl (Sub.nil _))))))
                · exact ⟨rfl, by simp only []; omega, by simp only []; omega, hmul, hov⟩
                · simp only []; omega
              · rw [show n + 2 - 1 = n + 1 from rfl, hyd]
                (apply s_addUw; (first | exact isK_c | exact isK_t rfl); (first | exact isK_c | exact isK_t rfl); exact rfl)
                refine runM ?_
                rw [show n + 2 - 1 = n + 1 from rfl, hyd]
                (apply w_condT; exact rfl; exact rfl; exact (by omega))
                refine runM ?_
                apply cut_normal (g - 1)
                · exact (Sub.cons rfl (Sub.cons rfl (Sub.cons rfl (Sub.cons rfl (Sub.nil _)))))
                · exact ⟨rfl, by omega, by omega⟩
          · have hgt : q < g := gf (by omega)
            have hg1 : 1 ≤ g := by omega
            have hmul : (g - 1) * yt + (r + yt) = X2 := by
              rw [← i3, Nat.sub_mul, Nat.one_mul]
              have := Nat.mul_le_mul_right yt hg1
              rw [Nat.one_mul] at this
              omega
            have hyl2 : n + 2 - 1 < ys.length := by omega
            refine runM ?_
            by_cases hov : r + yt < 18446744073709551616
            · rw [show n + 2 - 1 = n + 1 from rfl, hyd]
              refine runM ?_
              rw [show n + 2 - 1 = n + 1 from rfl, hyd]
              (apply w_condF; exact rfl; exact rfl; exact (by omega))
              refine runM ?_
              apply again_normal (g - 1, r + yt)
              · exact (Sub.cons rfl (Sub.cons rfl (Sub.cons rfl (Sub.cons rfl (Sub.cons rfl (Sub.nil _))))))
              · exact ⟨rfl, by simp only []; omega, by simp only []; omega, hmul, hov⟩
              · simp only []; omega
            · rw [show n + 2 - 1 = n + 1 from rfl, hyd]
              (apply s_addUw; (first | exact isK_c | exact isK_t rfl); (first | exact isK_c | exact isK_t rfl); exact rfl)
              refine runM ?_
              rw [show n + 2 - 1 = n + 1 from rfl, hyd]
              (apply w_condT; exact rfl; exact rfl; exact (by omega))
              refine runM ?_
              apply cut_normal (g - 1)
              · exact (Sub.cons rfl (Sub.cons rfl (Sub.cons rfl (Sub.cons rfl (Sub.nil _)))))
              · exact ⟨rfl, by omega, by omega⟩
    · refine runM ?_
      apply cut_normal 18446744073709551615
      · exact (Sub.cons rfl (Sub.cons rfl (Sub.cons rfl (Sub.cons rfl (Sub.nil _)))))
      · exact ⟨rfl, by omega, by omega⟩
  · rintro g0 _ ⟨rfl, hge, hg⟩
    clear gf1 gf2 hyt hy2 hx2 hx1
    refine runM ?_
    rw [hyl]
    (first | (apply w_seqB; exact rfl; apply w_block; exact rfl) | skip)
    apply (w_loop (σ := Nat × Nat × Nat × List Nat) rfl (fun p => [(0, vx), (1, vy), (5, N (n + 2)), (6, U g0), (92, vy), (93, N (n + 2)), (94, N p.1), (10, U p.2.1), (11, U p.2.2.1)])
      (fun p h' => OwnF h' B 31 U x0 (pre ++ p.2.2.2 ++ post) ∧ Only x0.ownBlock h h' ∧ p.2.2.2.length = n + 3 ∧ p.1 ≤ n + 2 ∧ Al 18446744073709551616 p.2.2.2 ∧ p.2.1 < 18446744073709551616 ∧ p.2.2.1 ≤ 1 ∧
        pv 18446744073709551616 p.2.2.2 p.1 + g0 * pv 18446744073709551616 ys p.1 = pv 18446744073709551616 ws0 p.1 + 18446744073709551616 ^ p.1 * (p.2.2.1 + p.2.1) ∧ ∀ j, p.1 ≤ j → p.2.2.2.getD j 0 = ws0.getD j 0) (fun p => n + 2 - p.1) (0, 0, 0, ws0))
    · exact (Sub.cons rfl (Sub.cons rfl (Sub.cons rfl (Sub.cons rfl (Sub.cons rfl (Sub.cons rfl (Sub.cons rfl (Sub.cons rfl (Sub.cons rfl (Sub.nil _))))))))))
    · exact ⟨ho, Only.refl _ _, hwl, by simp only []; omega, hw, by simp only []; omega, by simp only []; omega, by simp [pv], fun _ _ => rfl⟩
    · rintro ⟨i, c, bo, ws⟩ h1 ⟨o1, k1, i1, i2, i3, i4, i5, i6, i7⟩
      dsimp only at o1 k1 i1 i2 i3 i4 i5 i6 i7 ⊢
      have hy1 := hy.only k1 hne
      have sx1 := win_sl o1 (hvx.trans (by rw [hwl, i1]))
      refine runM ?_
      (apply w_condD; exact rfl; exact rfl) <;> intro hi
      · have hyi := hya.getD (by omega) i
        have hwi := i3.getD (by omega) i
        have hoe := i7 i (Nat.le_refl _)
        refine runM ?_
        generalize hyd : ys.getD i 0 = y at *
        apply (s_call Tryd_ent82 rfl rfl rfl)
        refine (mul64_spec g0 y h1 hg hyi).mono ?_
        rintro _ _ ⟨rfl, rfl⟩
        refine ⟨(by first | exact trivial | exact Ext.refl _ | assumption | exact Ext.trans (by assumption) (by assumption)), ?_⟩
        have hsb := sub_word hg hyi i4 hwi i5
        have hgy := Nat.mod_lt (g0 * y) (show 0 < 18446744073709551616 by omega)
        obtain ⟨hs1, hs2, hs3, hs4⟩ := hsb
        generalize g0 * y / 18446744073709551616 = gh at *
        generalize g0 * y % 18446744073709551616 = gl at *
        refine runM ?_
        apply (s_extern (add64_run gl c 0 (by omega) hgy i4) rfl rfl)
        simp only [Nat.add_zero]
        have hlo := Nat.mod_lt (gl + c) (show 0 < 18446744073709551616 by omega)
        generalize (gl + c) % 18446744073709551616 = lo at *
        generalize (gl + c) / 18446744073709551616 = d at *
        refine runM ?_
        apply (s_extern (sub64_run _ lo bo i5) rfl rfl)
        generalize hxw : (ws.getD i 0 + 18446744073709551616 - lo - bo) % 18446744073709551616 = xw at *
        generalize (if ws.getD i 0 < lo + bo then 1 else 0) = bw at *
        refine runM ?_
        (apply (s_storeW (xw) o1 (hvx.trans (by rw [hwl, i1]))); exact rfl; exact rfl; exact rfl; exact rfl; exact rfl; exact rfl; (first | assumption | omega))
        intro h2 o2 k2
        refine ⟨(by first | exact trivial | exact Ext.refl _ | assumption | exact Ext.trans (by assumption) (by assumption)), ?_⟩
        refine runM ?_
        apply again_normal (i + 1, gh + d, bw, ws.set i xw)
        · exact (Sub.cons rfl (Sub.cons rfl (Sub.cons rfl (Sub.cons rfl (Sub.cons rfl (Sub.cons rfl (Sub.cons rfl (Sub.cons rfl (Sub.cons rfl (Sub.nil _))))))))))
        · refine ⟨o2, k1.trans k2, by simp [i1], hi, i3.set hs2 _, hs1, hs3, ?_, fun j hj => ?_⟩
          · simp only [pv]
            rw [pv_set (Nat.le_refl _), getD_set_self (by omega), Nat.pow_succ, hyd, ← hoe]
            exact Dig.sub_step i6 hs4
          · simp only [] at hj ⊢
            rw [getD_set_other (by omega)]; exact i7 j (by omega)
        · simp only []; omega
      · obtain rfl : i = n + 2 := by omega
        have hwi := i3.getD (by omega) (n + 2)
        have hoe := i7 (n + 2) (Nat.le_refl _)
        obtain ⟨hs2, hs3, hs4⟩ := sub_word2 i4 hwi i5
        have hlast := sub_last i6 hs4
        rw [pv_full (xs := ys) (by omega), hY] at hlast
        refine runM ?_
        apply (s_extern (sub64_run _ c bo i5) rfl rfl)
        generalize hxw : (ws.getD (n + 2) 0 + 18446744073709551616 - c - bo) % 18446744073709551616 = xw at *
        generalize (if ws.getD (n + 2) 0 < c + bo then 1 else 0) = bw at *
        refine runM ?_
        (apply (s_storeW (xw) o1 (hvx.trans (by rw [hwl, i1]))); exact rfl; exact rfl; exact rfl; exact rfl; exact rfl; exact rfl; (first | assumption | omega))
        intro h2 o2 k2
        refine ⟨(by first | exact trivial | exact Ext.refl _ | assumption | exact Ext.trans (by assumption) (by assumption)), ?_⟩
        have hP : pv 18446744073709551616 ws0 (n + 2) + 18446744073709551616 ^ (n + 2) * ws.getD (n + 2) 0 = X := by
          rw [hoe, ← hX, ← pv_full (xs := ws0) (k := n + 3) (by omega)]; rfl
        have hZ : pv 18446744073709551616 ws (n + 2) + 18446744073709551616 ^ (n + 2) * xw = vl 18446744073709551616 (ws.set (n + 2) xw) := by
          rw [← pv_full (xs := ws.set (n + 2) xw) (k := n + 3) (by simp; omega)]
          show _ = pv 18446744073709551616 (ws.set (n + 2) xw) (n + 2) + 18446744073709551616 ^ (n + 2) * (ws.set (n + 2) xw).getD (n + 2) 0
          rw [pv_set (Nat.le_refl _), getD_set_self (by omega)]
        rw [hP, hZ, ← Nat.pow_succ] at hlast
        have k2 := k1.trans k2
        have a2 : Al 18446744073709551616 (ws.set (n + 2) xw) := i3.set hs2 _
        have l2 : (ws.set (n + 2) xw).length = n + 3 := by simp [i1]
        clear hP hZ hs4 hxw hoe hwi i6 i7 sx1 hy1 k1 o1 i3 i1
        generalize ws.set (n + 2) xw = zs at *
        refine runM ?_
        (first | (apply w_seqB; exact rfl; apply w_block; exact rfl) | skip)
        apply (w_loop (σ := Nat × Nat × List Nat) rfl (fun p => [(0, vx), (1, vy), (5, N (n + 2)), (6, U p.1), (11, U p.2.1)])
          (fun p h' => OwnF h' B 31 U x0 (pre ++ p.2.2 ++ post) ∧ Only x0.ownBlock h h' ∧ p.2.2.length = n + 3 ∧ Al 18446744073709551616 p.2.2 ∧ p.1 < 18446744073709551616 ∧ p.2.1 ≤ 1 ∧ q ≤ p.1 ∧
            vl 18446744073709551616 p.2.2 + p.1 * Y = X + 18446744073709551616 ^ (n + 3) * p.2.1) (fun p => p.1) (g0, bw, zs))
        · exact (Sub.cons rfl (Sub.cons rfl (Sub.cons rfl (Sub.cons rfl (Sub.cons rfl (Sub.nil _))))))
        · exact ⟨o2, k2, l2, a2, hg, hs3, hge, hlast⟩
        · rintro ⟨g, bo, zs⟩ h3 ⟨o3, k3, i1, i2, i3, i4, i5, i6⟩
          dsimp only at o3 k3 i1 i2 i3 i4 i5 i6 ⊢
          refine runM ?_
          (apply w_condD; exact rfl; exact rfl) <;> intro hb
          · obtain rfl : bo = 1 := by omega
            have hvl := vl_lt i2
            rw [i1] at hvl
            have hgt := back_lt i6 hvl hY0
            rw [hq] at hgt
            have hg1 : 1 ≤ g := by omega
            have hy3 := hy.only k3 hne
            refine runM ?_
            rw [hyl]
            (first | (apply w_seqB; exact rfl; apply w_block; exact rfl) | skip)
            apply (w_loop (σ := Nat × Nat × List Nat) rfl (fun p => [(0, vx), (1, vy), (5, N (n + 2)), (6, U (g - 1)), (11, U 1), (145, vy), (146, N (n + 2)), (147, N p.1), (10, U p.2.1)])
              (fun p h' => OwnF h' B 31 U x0 (pre ++ p.2.2 ++ post) ∧ Only x0.ownBlock h h' ∧ p.2.2.length = n + 3 ∧ p.1 ≤ n + 2 ∧ Al 18446744073709551616 p.2.2 ∧ p.2.1 ≤ 1 ∧
                pv 18446744073709551616 p.2.2 p.1 + 18446744073709551616 ^ p.1 * p.2.1 = pv 18446744073709551616 zs p.1 + pv 18446744073709551616 ys p.1 ∧ ∀ j, p.1 ≤ j → p.2.2.getD j 0 = zs.getD j 0) (fun p => n + 2 - p.1) (0, 0, zs))
            · exact (Sub.cons rfl (Sub.cons rfl (Sub.cons rfl (Sub.cons rfl (Sub.cons rfl (Sub.cons rfl (Sub.cons rfl (Sub.cons rfl (Sub.cons rfl (Sub.nil _))))))))))
            · exact ⟨o3, k3, i1, by simp only []; omega, i2, by simp only []; omega, by simp [pv], fun _ _ => rfl⟩
            · rintro ⟨i, c, ws⟩ h4 ⟨o4, k4, j1, j2, j3, j4, j5, j6⟩
              dsimp only at o4 k4 j1 j2 j3 j4 j5 j6 ⊢
              have hy4 := hy.only k4 hne
              have sx4 := win_sl o4 (hvx.trans (by rw [hwl, j1]))
              refine runM ?_
              (apply w_condD; exact rfl; exact rfl) <;> intro hi
              · have hyi := hya.getD (by omega) i
                have hwi := j3.getD (by omega) i
                have hoe := j6 i (Nat.le_refl _)
                have hst := add_step (b := 18446744073709551616) (x := ws.getD i 0) (y := ys.getD i 0) j5
                refine runM ?_
                generalize hyd : ys.getD i 0 = y at *
                apply (s_extern (add64_run (ws.getD i 0) y c j4 hwi hyi) rfl rfl)
                have hs2 := Num.modW (ws.getD i 0 + y + c)
                have hs3 : (ws.getD i 0 + y + c) / 18446744073709551616 ≤ 1 := by omega
                generalize (ws.getD i 0 + y + c) % 18446744073709551616 = xw at *
                generalize (ws.getD i 0 + y + c) / 18446744073709551616 = c' at *
                refine runM ?_
                (apply (s_storeW (xw) o4 (hvx.trans (by rw [hwl, j1]))); exact rfl; exact rfl; exact rfl; exact rfl; exact rfl; exact rfl; (first | assumption | omega))
                intro h5 o5 k5
                refine ⟨(by first | exact trivial | exact Ext.refl _ | assumption | exact Ext.trans (by assumption) (by assumption)), ?_⟩
                refine runM ?_
                apply again_normal (i + 1, c', ws.set i xw)
                · exact (Sub.cons rfl (Sub.cons rfl (Sub.cons rfl (Sub.cons rfl (Sub.cons rfl (Sub.cons rfl (Sub.cons rfl (Sub.cons rfl (Sub.cons rfl (Sub.nil _))))))))))
                · refine ⟨o5, k4.trans k5, by simp [j1], hi, j3.set hs2 _, hs3, ?_, fun j hj => ?_⟩
                  · simp only [pv]
                    rw [pv_set (Nat.le_refl _), getD_set_self (by omega), Nat.pow_succ, hyd, ← hoe]
                    exact hst
                  · simp only [] at hj ⊢
                    rw [getD_set_other (by omega)]; exact j6 j (by omega)
                · simp only []; omega
              · obtain rfl : i = n + 2 := by omega
                have hwi := j3.getD (by omega) (n + 2)
                have hoe := j6 (n + 2) (Nat.le_refl _)
                have hst := add_step (b := 18446744073709551616) (x := ws.getD (n + 2) 0) (y := 0) j5
                rw [pv_full (xs := ys) (by omega), hY, Nat.mul_zero, Nat.add_zero Y] at hst
                refine runM ?_
                apply (s_extern (add64_run (ws.getD (n + 2) 0) 0 c j4 hwi (by omega)) rfl rfl)
                have hs2 := Num.modW (ws.getD (n + 2) 0 + 0 + c)
                have hs3 : (ws.getD (n + 2) 0 + 0 + c) / 18446744073709551616 ≤ 1 := by omega
                generalize (ws.getD (n + 2) 0 + 0 + c) % 18446744073709551616 = xw at *
                generalize (ws.getD (n + 2) 0 + 0 + c) / 18446744073709551616 = c' at *
                refine runM ?_
                (apply (s_storeW (xw) o4 (hvx.trans (by rw [hwl, j1]))); exact rfl; exact rfl; exact rfl; exact rfl; exact rfl; exact rfl; (first | assumption | omega))
                intro h5 o5 k5
                refine ⟨(by first | exact trivial | exact Ext.refl _ | assumption | exact Ext.trans (by assumption) (by assumption)), ?_⟩
                have hP : pv 18446744073709551616 zs (n + 2) + 18446744073709551616 ^ (n + 2) * ws.getD (n + 2) 0 = vl 18446744073709551616 zs := by
                  rw [hoe, ← pv_full (xs := zs) (k := n + 3) (by omega)]; rfl
                have hZ : pv 18446744073709551616 ws (n + 2) + 18446744073709551616 ^ (n + 2) * xw = vl 18446744073709551616 (ws.set (n + 2) xw) := by
                  rw [← pv_full (xs := ws.set (n + 2) xw) (k := n + 3) (by simp; omega)]
                  show _ = pv 18446744073709551616 (ws.set (n + 2) xw) (n + 2) + 18446744073709551616 ^ (n + 2) * (ws.set (n + 2) xw).getD (n + 2) 0
                  rw [pv_set (Nat.le_refl _), getD_set_self (by omega)]
                rw [hP, hZ, ← Nat.pow_succ] at hst
                have hbk := back_step i6 hst hs3 hg1
                refine runM ?_
                apply again_normal (g - 1, 1 - c', ws.set (n + 2) xw)
                · exact (Sub.cons rfl (Sub.cons rfl (Sub.cons rfl (Sub.cons rfl (Sub.cons rfl (Sub.nil _))))))
                · exact ⟨o5, k4.trans k5, by simp [j1], j3.set hs2 _, by simp only []; omega, by simp only []; omega, by simp only []; omega, hbk⟩
                · simp only []; omega
          · obtain rfl : bo = 0 := by omega
            rw [← hq] at i5
            obtain ⟨f1, f2⟩ := digit_end i6 i5 hY0
            refine runM ?_
            exact fin1 rfl rfl ⟨by rw [f1, hq], k3, zs, i1, i2, f2, o3⟩
end Go.Proofs.YtajgcmgkhmkmbaaDoor

/- Naturals: a word, a number of bits, long division and the rest by a word of package nat, by contracts. No condition. -/
namespace Go.Proofs.YtajgcmgkhmkmbaaDoor
set_option linter.unusedVariables false
set_option maxRecDepth 8000
open Go Go.Den Go.RowKit Go.Dig

theorem Tryd_ent43 : Ent Tryd.prog 43 := ent_of Tryd.func43 (by kernel_rfl) rfl
theorem of_spec (w : Nat) (h : Hp) (hw : w < 18446744073709551616) :
    CallsH Tryd.prog 43 [U w] h fun v' h' => Ext h h' ∧ OwnF h' h.size 31 U v' (dg 18446744073709551616 w) := by
  (apply enter Tryd.func43 rfl Tryd.ntmps43 rfl)
  refine runM ?_
  (apply (s_litF (f := U) [w] (fun _ => rfl)); exact rfl; exact rfl; exact rfl; exact rfl; exact rfl; exact rfl; exact rfl; exact rfl; omega)
  intro v1 h1 o1 e1 b1
  refine ⟨(by first | exact trivial | exact Ext.refl _ | assumption | exact Ext.trans (by assumption) (by assumption)), ?_⟩
  refine runM ?_
  apply (s_call Tryd_ent70 rfl rfl rfl)
  refine (norm_spec v1 [w] h1 o1.sl (by simp)).mono ?_
  rintro v3 _ ⟨rfl, s3, o3⟩
  refine ⟨(by first | exact trivial | exact Ext.refl _ | assumption | exact Ext.trans (by assumption) (by assumption)), ?_⟩
  refine runM ?_
  refine fin1 rfl rfl ⟨e1, ?_⟩
  have := o3 _ _ o1
  rw [nrm_eq (b := 18446744073709551616) (by omega) (Al.cons hw Al.nil)] at this
  simpa [vl] using this

theorem Tryd_ent44 : Ent Tryd.prog 44 := ent_of Tryd.func44 (by kernel_rfl) rfl
theorem mod_spec (va : Value) (xs : List Nat) (w : Nat) (h : Hp) (ha : SlF h U va xs) (hx : Al 18446744073709551616 xs) (hl : xs.length < 1099511627776) (hw : w < 18446744073709551616) :
    CallsH Tryd.prog 44 [va, U w] h fun v' h' => v' = U (if w = 0 then 0 else vl 18446744073709551616 xs % w) ∧ Ext h h' := by
  (apply enter Tryd.func44 rfl Tryd.ntmps44 rfl)
  refine runM ?_
  (apply w_condD; exact rfl; exact rfl) <;> intro h0
  · refine runM ?_
    exact fin1 rfl rfl ⟨by rw [if_pos h0], Ext.refl h⟩
  · refine runM ?_
    apply (s_call Tryd_ent71 rfl rfl rfl)
    refine (byWord_spec va xs w h ha hx hl (by omega) hw).mono ?_
    rintro _ h1 ⟨q, rfl, e1, o1⟩
    refine ⟨(by first | exact trivial | exact Ext.refl _ | assumption | exact Ext.trans (by assumption) (by assumption)), ?_⟩
    refine runM ?_
    exact fin1 rfl rfl ⟨by rw [if_neg h0], e1⟩

theorem Tryd_ent87 : Ent Tryd.prog 87 := ent_of Tryd.func87 (by kernel_rfl) rfl
theorem len64_spec (x : Nat) (h : Hp) (hx : x < 18446744073709551616) :
    CallsH Tryd.prog 87 [U x] h fun v h' => v = N (Lib.bitLen x) ∧ h = h' :=
  callsH_same fun w => Tryd.bits_Len64 x w (by omega) (by omega)

theorem Tryd_ent78 : Ent Tryd.prog 78 := ent_of Tryd.func78 (by kernel_rfl) rfl
theorem bits_spec (va : Value) (xs0 : List Nat) (h : Hp) (ha0 : SlF h U va xs0) (hx0 : Al 18446744073709551616 xs0) (hl0 : xs0.length < 1099511627776) :
    CallsH Tryd.prog 78 [va] h fun v' h' => v' = N (nb (vl 18446744073709551616 xs0)) ∧ h = h' := by
  (apply enter Tryd.func78 rfl Tryd.ntmps78 rfl)
  refine runM ?_
  apply (s_call Tryd_ent70 rfl rfl rfl)
  refine (norm_spec va xs0 h ha0 (by omega)).mono ?_
  rintro v1 _ ⟨rfl, ha, -⟩
  refine ⟨(by first | exact trivial | exact Ext.refl _ | assumption | exact Ext.trans (by assumption) (by assumption)), ?_⟩
  rw [← vl_nrm xs0]
  have hx : Al 18446744073709551616 (nrm xs0) := by rw [nrm_pre]; exact hx0.take _
  have hxn := nrm_nrm xs0
  have hlx := nrm_len xs0
  have hl : (nrm xs0).length < 1099511627776 := by omega
  clear hlx
  generalize nrm xs0 = xs at *
  refine runM ?_
  (apply w_condD; exact rfl; exact rfl) <;> intro h0
  · refine runM ?_
    have : xs = [] := List.eq_nil_of_length_eq_zero h0
    subst this
    exact fin1 rfl rfl ⟨rfl, rfl⟩
  · obtain ⟨m, hm⟩ : ∃ m, xs.length = m + 1 := ⟨xs.length - 1, by omega⟩
    have htop : xs.getD m 0 ≠ 0 := by
      have h1 := nrm_eq (b := 18446744073709551616) (by omega) hx
      rw [hxn] at h1
      intro hz
      have h2 : vl 18446744073709551616 xs = pv 18446744073709551616 xs m := by
        rw [← pv_full (k := m + 1) (xs := xs) (by omega), pv, hz, Nat.mul_zero, Nat.add_zero]
      have h3 := pv_lt hx (by omega) m
      rw [← h2] at h3
      have h4 := dg_len (b := 18446744073709551616) (by omega) h3
      rw [← h1] at h4
      omega
    have htw := hx.getD (by omega) m
    obtain ⟨g1, g2, g3, g4⟩ := bitLen_spec 64 _ htw (by omega) htop
    have hnb := nb_top (k := 64) (by rfl) hx hm (j := Lib.bitLen (xs.getD m 0) - 1) g3 (by rw [Nat.sub_add_cancel g1]; exact g4)
    rw [hnb]
    refine runM ?_
    rw [hm, Nat.add_sub_cancel]
    apply (s_call Tryd_ent87 rfl rfl rfl)
    refine (len64_spec (xs.getD m 0) h htw).mono ?_
    rintro _ _ ⟨rfl, rfl⟩
    refine ⟨(by first | exact trivial | exact Ext.refl _ | assumption | exact Ext.trans (by assumption) (by assumption)), ?_⟩
    generalize Lib.bitLen (xs.getD m 0) = bl at *
    refine runM ?_
    exact fin1 rfl rfl ⟨congrArg I (by omega), rfl⟩
end Go.Proofs.YtajgcmgkhmkmbaaDoor
