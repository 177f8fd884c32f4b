/- Texts CipB to DnrA of this work, joined, without what the law does not lean on. -/
import Derived.Test.YtfcmdefigldpnaaGreatDoorMCb26
namespace Go.Proofs.YtfcmdefigldpnaaGreatDoor
set_option linter.unusedVariables false
set_option maxRecDepth 8000
open Go Go.Den Go.RowKit Go.Mth Go.Dig

abbrev intC (x : Value × Int) : List Value := [.bool (decide (x.2 < 0)), x.1]
structure IntsAt (h : Hp) (B : Nat) (v : Value) (xs : List (Value × Int)) : Prop where mk ::
  own : Own h B 124 2 v xs.length (xs.flatMap intC)
  el : ∀ x ∈ xs, OwnF h B 26 U x.1 (dg 18446744073709551616 x.2.natAbs)
  ne : ∀ x ∈ xs, x.1.ownBlock = none ∨ x.1.ownBlock ≠ v.ownBlock
section
variable {h h' : Hp} {B : Nat} {v : Value} {xs : List (Value × Int)}
theorem IntsAt.ext (s : IntsAt h B v xs) (e : Ext h h') : IntsAt h' B v xs := ⟨s.own.ext e, fun x hx => (s.el x hx).ext e, s.ne⟩
theorem IntsAt.base {B' : Nat} (s : IntsAt h B v xs) (e : B' ≤ B) : IntsAt h B' v xs := ⟨s.own.base e, fun x hx => (s.el x hx).base e, s.ne⟩
theorem IntsAt.sla (s : IntsAt h B v xs) : SlA h intC 2 v xs := ⟨fun _ => rfl, s.own.sl⟩
end
theorem iv_nat (z : Int) : IV (decide (z < 0)) z.natAbs = z := by
  unfold IV
  by_cases h : z < 0
  · rw [decide_eq_true h, if_pos rfl]; omega
  · rw [decide_eq_false h, if_neg (by simp)]; omega

theorem Tryz_ent117 : Ent Tryz.prog 117 := ent_of Tryz.func117 (by kernel_rfl) rfl
set_option maxHeartbeats 4000000 in
theorem elementP_spec (vv vq : Value) (zs : List (Value × Int)) (qs : List Nat) (B : Nat) (h : Hp) (TB0 : TB h) (s : SlA h intC 2 vv zs) (el : ∀ x ∈ zs, SlF h U x.1 (dg 18446744073709551616 x.2.natAbs)) (hz : ∀ x ∈ zs, (dg 18446744073709551616 x.2.natAbs).length < 1000000) (sq : SlF h U vq qs) (hr : rightP qs) (n : Nat) (hl : zs.length = n) (h0 : 0 < n) (hn : n ≤ 4096) :
    CallsH Tryz.prog 117 [vv, vq] h fun v' h' => Ext h h' ∧ ∃ vr rows p, v' = .tuple #[.agg #[vr], N 0] ∧ RowsAt h' h.size p vr rows ∧ rows.map (·.2) = qs.map (liftL (zs.map (·.2))) := by
  have hq3 := hr.1
  have h24 := hr.2.2.2
  have hal : Al 18446744073709551616 qs := fun q h => by have := hq3 q h; omega
  (apply enter Tryz.func117 rfl Tryz.ntmps117 rfl)
  refine runJ ?_
  (apply s_alloc; exact rfl; exact rfl; exact rfl)
  intro p6 h1 x1 e1 b1
  (try dsimp only [Value.cells, List.toList_toArray] at x1)
  refine clsI ?_
  refine runJ ?_
  have RS := right_spec vq qs h1 (TB0.ext e1) (sq.ext e1) hal (by omega)
  rw [decide_eq_true hr] at RS
  apply (s_call Tryz_ent119 rfl rfl rfl)
  refine (RS).mono ?_
  rintro _ h2 ⟨rfl, e2⟩
  refine ⟨trivial, ?_⟩
  refine runJ ?_
  subst hl
  rw [decide_eq_false (show ¬ zs.length = 0 by omega)]
  refine runJ ?_
  (apply (s_build ([.slice none 0 0])); exact rfl; exact rfl; exact rfl; (repeat (first | exact CellsAll.nil | (apply CellsAll.cons; (first | exact oneL (by assumption) | exact oneL (SlF.one (by assumption)) | exact oneL (SlF.one (OwnF.sl (by assumption))) | exact oneL (Var.one (by assumption)) | exact rfl)))); exact rfl; exact rfl)
  refine runJ ?_
  (apply s_alloc; exact rfl; exact rfl; exact rfl)
  intro p8 h3 x3 e3 b3
  (try dsimp only [Value.cells, List.toList_toArray] at x3)
  refine clsI ?_
  refine runJ ?_
  (apply s_storeV; exact rfl; exact rfl; exact rfl; (repeat (first | exact OneAll.nil | (apply OneAll.cons; (first | exact rfl | exact SlF.one (by assumption) | exact SlF.one (OwnF.sl (by assumption)) | exact Var.one (by assumption))))); exact rfl; exact rfl; exact x3; exact rfl)
  intro h4 x4 k4
  (try dsimp only [Value.cells, List.toList_toArray] at x4)
  refine ⟨(by first | exact trivial | exact Ext.refl _ | assumption | exact Ext.only (by assumption) _ | exact Only.trans (Ext.only (by assumption) _) (by assumption)), ?_⟩
  have x4 : Var h4 p8 56 [.slice none 0 0] := x4
  have e24 : Ext h2 h4 := k4.oldV e3 b3 (Nat.le_refl _)
  have E2 := e1.trans e2
  have E4 := E2.trans e24
  have x14 := (x1.ext e2).ext e24
  have hs24 : h2.size < h4.size := by obtain ⟨j, hj, hlj⟩ := x4.blk; rw [b3] at hj; cases hj; exact hlj
  have n68 : pblk p6 ≠ pblk p8 := by
    obtain ⟨b, hb, hl⟩ := x1.blk
    rw [hb, b3]; intro e; cases e; have := e2.1; omega
  refine runJ ?_
  (first | (apply w_seqB; exact rfl; apply w_block; exact rfl) | skip)
  apply (w_loop (σ := Nat × List (Value × List Nat) × Value) rfl (fun j => [(0, vv), (4, p6), (6, p8), (23, vq), (24, N qs.length), (25, N j.1)])
    (fun j h' => Ext h2 h' ∧ h4.size ≤ h'.size ∧ j.1 ≤ qs.length ∧ Var h' p6 56 [.slice none 0 0] ∧ Var h' p8 56 [j.2.2] ∧ RowsAt h' h2.size (some h2.size) j.2.2 j.2.1 ∧ j.2.1.map (·.2) = (qs.take j.1).map (liftL (zs.map (·.2)))) (fun j => qs.length - j.1) (0, [], .slice none 0 0))
  · exact subs
  · exact ⟨e24, Nat.le_refl _, Nat.zero_le _, x14, x4, RowsAt.nil _ _ _, rfl⟩
  rintro ⟨j, rows, vR⟩ h5 ⟨e5, z5, j1, y5, x5, R5, m5⟩
  dsimp only at e5 z5 j1 y5 x5 R5 m5 ⊢
  have E5 := E2.trans e5
  have s5 := s.ext E5
  have sq5 := sq.ext E5
  have hpv : pblk p8 ≠ vR.ownBlock := by
    rw [b3]; intro e
    rcases R5.vp with h0 | h0
    · rw [h0] at e; cases e
    · exact h0 e.symm
  have hp6v : pblk p6 ≠ vR.ownBlock := by
    obtain ⟨b, hb, hl⟩ := x1.blk
    rw [hb]; intro e
    have := (R5.own.blk _ e.symm).1
    have := e2.1
    omega
  refine runJ ?_
  (apply w_condD; exact rfl; exact rfl) <;> intro hj
  · obtain ⟨q, hqj⟩ := get_lt hj
    have hq := hq3 q (List.mem_of_getElem? hqj)
    have hrl : rows.length = j := by
      have := congrArg List.length m5
      rw [List.length_map, List.length_map, List.length_take] at this
      omega
    refine runJ ?_
    (apply (s_make (f := U) (bytes := 8) (0)); (first | exact isK_c | exact isK_t rfl); (first | exact isK_c | exact isK_t rfl); exact rfl; exact rfl; exact rfl; exact rfl; exact rfl; exact rfl; omega; omega; omega)
    intro w6 h6 o6 e6 b6
    refine clsI ?_
    refine runJ ?_
    (first | (apply w_seqB; exact rfl; apply w_block; exact rfl) | skip)
    apply (w_loop (σ := Nat × List Nat) rfl (fun k => [(0, vv), (4, p6), (6, p8), (23, vq), (24, N qs.length), (25, N j), (8, U q), (9, w6), (32, vv), (33, N zs.length), (34, N k.1)])
      (fun k h' => Ext h5 h' ∧ k.1 ≤ zs.length ∧ OwnF h' h5.size 26 U w6 k.2 ∧ k.2.length = zs.length ∧ ∀ (i : Nat) (y : Nat), k.2[i]? = some y → y = if i < k.1 then liftm ((zs.map (·.2)).getD i 0) q else 0) (fun k => zs.length - k.1) (0, List.replicate zs.length 0))
    · exact subs
    · exact ⟨e6, Nat.zero_le _, o6, by simp, fun i y hy => by rw [if_neg (Nat.not_lt_zero _)]; have := List.mem_of_getElem? hy; simp at this; exact this.2⟩
    clear o6
    rintro ⟨k, ys⟩ h7 ⟨e7, k1, o7, k2, k3⟩
    dsimp only at e7 k1 o7 k2 k3 ⊢
    have s7 := s5.ext e7
    refine runJ ?_
    (apply w_condD; exact rfl; exact rfl) <;> intro hk
    · obtain ⟨⟨va, z⟩, hxk⟩ := get_lt hk
      have hxm := List.mem_of_getElem? hxk
      have sva := (el _ hxm).ext (E5.trans e7)
      have lva := hz _ hxm
      dsimp only at sva lva
      have hva := sva.one
      have hky : k < ys.length := by omega
      have hxg : (zs.map (·.2)).getD k 0 = z := by rw [List.getD_eq_getElem?_getD, List.getElem?_map, hxk]; rfl
      refine runJ ?_
      (apply s_alloc; exact rfl; exact rfl; exact rfl)
      intro p11 h8 x8 e8 b8
      (try dsimp only [Value.cells, List.toList_toArray] at x8)
      refine clsI ?_
      refine runJ ?_
      (apply s_storeV; exact rfl; exact rfl; exact rfl; exact (OneAll.cons rfl (OneAll.cons hva OneAll.nil) : OneAll [.bool (decide (z < 0)), va]); exact rfl; exact rfl; exact x8; exact rfl)
      intro h9 x9 k9
      refine ⟨trivial, ?_⟩
      have x9 : Var h9 p11 124 [.bool (decide (z < 0)), va] := x9
      have e79 : Ext h7 h9 := k9.oldV e8 b8 (Nat.le_refl _)
      have RZ := residue_spec (decide (z < 0)) va _ q h9 (sva.ext e79) (al_dg (by decide) _) (by omega) (by omega)
      rw [vl_dg (by decide), iv_nat] at RZ
      refine runJ ?_
      apply (s_call Tryz_ent159 rfl rfl rfl)
      refine (RZ).mono ?_
      rintro _ h10 ⟨rfl, e10⟩
      refine ⟨trivial, ?_⟩
      have e710 := e79.trans e10
      refine runJ ?_
      (apply (s_storeF (liftm z q)); exact rfl; exact rfl; exact rfl; exact rfl; exact rfl; exact (o7.ext e710); exact rfl; (first | assumption | omega))
      intro h11 o11 k11
      refine clsI ?_
      refine runJ ?_
      apply again_normal (k + 1, ys.set k (liftm z q))
      · exact subs
      · refine ⟨(o7.ext e710).old k11 (e7.trans e710) (Nat.le_refl _), by dsimp only; omega, o11, by simp [k2], fun i y hy => ?_⟩
        dsimp only at hy ⊢
        rcases set_get hky hy with ⟨rfl, rfl⟩ | ⟨hik, hy⟩
        · rw [if_pos (by omega), hxg]
        · rw [k3 i y hy]
          by_cases hi : i < k
          · rw [if_pos hi, if_pos (show i < k + 1 by omega)]
          · rw [if_neg hi, if_neg (show ¬ i < k + 1 by omega)]
      · dsimp only; omega
    · have hys : ys = liftL (zs.map (·.2)) q := by
        refine list_eq (by unfold liftL; rw [List.length_map, List.length_map]; omega) fun i a b ha hb => ?_
        have hi := (List.getElem?_eq_some_iff.1 ha).1
        rw [k3 i a ha, if_pos (by omega)]
        obtain ⟨x, hxi⟩ := get_lt (l := zs.map (·.2)) (j := i) (by rw [List.length_map]; omega)
        unfold liftL at hb
        rw [List.getElem?_map, hxi] at hb
        rw [List.getD_eq_getElem?_getD, hxi]
        exact Option.some.inj hb
      subst hys
      have R7 := R5.ext e7
      have x7 := x5.ext e7
      have y7 := y5.ext e7
      have e27 := e5.trans e7
      have o7one := o7.sl.one
      refine runJ ?_
      (refine s_app1V (bytes := 24) ((w6, liftL (zs.map (fun x => x.2)) q)) R7.own e27 rfl rfl rfl rfl rfl rfl rfl rfl rfl (by first | exact rfl | exact congrArg some (congrArg I (by omega))) o7one rfl rfl (fun _ _ => trivial) (by omega) (by simp only [maxLen]; omega) ?_)
      intro v8 h8 o8 e8 k8 b8
      have x8 := x7.only k8 hpv
      have y8 := y7.only k8 hp6v
      refine runJ ?_
      (apply s_storeC; exact rfl; exact rfl; (first | exact rfl | exact SlF.one (by assumption) | exact SlF.one (OwnF.sl (by assumption)) | exact Var.one (by assumption)); exact rfl; exact rfl; exact x8; exact rfl)
      intro h9 x9 k9
      refine ⟨(by first | exact trivial | exact Ext.refl _ | assumption | exact Ext.only (by assumption) _ | exact Only.trans (Ext.only (by assumption) _) (by assumption)), ?_⟩
      have e9 : Ext h2 h9 := k9.oldV e8 b3 (Nat.le_refl _)
      have y9 := y8.only k9 n68
      rw [b3] at k9
      have R9 := R7.push (z := h5.size) (o7.base (Nat.le_trans (Nat.le_of_lt hs24) z5)) (fun k hk => (o7.blk k hk).1) (fun k hk => (R5.own.blk k hk).2) (Nat.lt_of_lt_of_le hs24 z5) e7.1 o8 k8 b8 k9
      refine runJ ?_
      apply again_normal (j + 1, rows ++ [(w6, liftL (zs.map (·.2)) q)], v8)
      · exact subs
      · refine ⟨e9, Nat.le_trans z5 (Nat.le_trans e7.1 (Nat.le_trans k8.1 k9.1)), hj, y9, x9, R9, ?_⟩
        dsimp only
        rw [List.map_append, m5, take_snoc hqj, List.map_append]; rfl
      · dsimp only; omega
  · have hjn : j = qs.length := by omega
    subst hjn
    rw [List.take_length] at m5
    refine runJ ?_
    (apply s_storeV; exact rfl; exact rfl; exact rfl; exact (OneAll.cons R5.own.sl.one OneAll.nil : OneAll [vR]); exact rfl; exact rfl; exact y5; exact rfl)
    intro h6 x6 k6
    refine ⟨trivial, ?_⟩
    have x6 : Var h6 p6 56 [vR] := x6
    have e6 : Ext h h6 := k6.oldV E5 b1 (Nat.le_refl _)
    have R6 : RowsAt h6 h2.size (some h2.size) vR rows := by
      obtain ⟨b, hb, hl⟩ := x1.blk
      rw [hb] at k6
      exact R5.low k6 (Nat.lt_of_lt_of_le hl e2.1)
    refine runJ ?_
    exact finCT rfl rfl rfl x6 rfl rfl ⟨e6, vR, rows, _, rfl, R6.base E2.1, m5⟩

theorem cent_facts {x t : Nat} (hx : x < t) (ht : t < 1073741824) : -1073741824 ≤ centerm x t ∧ centerm x t < 1073741824 ∧ (0 ≤ centerm x t → (centerm x t).natAbs = x) := by
  unfold centerm
  rw [if_neg (by omega), Nat.mod_eq_of_lt hx]
  split <;> omega
def sprZ (S t : Nat) (ms : List Nat) : List Int := ms.map fun x => centerm x t * (S : Int)
theorem rightP_of {L : Nat} {qs : List Nat} (hL3 : 3 ≤ L) (hQ : ∀ q ∈ qs, QOk L q) (hnd : qs.Nodup) (h0 : 0 < qs.length) (h24 : qs.length ≤ 24) : rightP qs := by
  refine ⟨fun q hq => ?_, hnd, h0, h24⟩
  have k := hQ q hq
  have h8 : 2 ^ 3 ≤ 2 ^ L := Nat.pow_le_pow_right (by decide) hL3
  have e3 : (2 : Nat) ^ 3 = 8 := by decide
  have h1 := k.qm
  have h2 := k.q1
  refine ⟨?_, k.q61, k.is⟩
  by_cases hq2 : q = 2
  · rw [hq2, Nat.mod_eq_of_lt (by omega)] at h1; omega
  · omega
theorem nab_mul {c : Int} {S M : Nat} (h : c.natAbs ≤ M) : (c * (S : Int)).natAbs ≤ M * S := by
  rw [Int.natAbs_mul, Int.natAbs_natCast]
  exact Nat.mul_le_mul_right _ h

theorem Tryz_ent58 : Ent Tryz.prog 58 := ent_of Tryz.func58 (by kernel_rfl) rfl
set_option maxHeartbeats 4000000 in
theorem spread_spec (L t w : Nat) (vq vt : Value) (ms qs : List Nat) (h : Hp) (TB0 : TB h) (A : ParAt h ⟨((2 ^ L : Nat) : Int), t, vq, qs, (w : Int)⟩) (P : parP ⟨((2 ^ L : Nat) : Int), t, vq, qs, (w : Int)⟩) (hL3 : 3 ≤ L) (hL9 : L ≤ 9) (hQ : ∀ q ∈ qs, QOk L q) (sm : SlF h U vt ms) (hm : Fit (2 ^ L) t ms) :
    CallsH Tryz.prog 58 [.agg #[N (2 ^ L), U t, vq, N w], vt, N (qs.length - 1)] h fun v' h' => Ext h h' ∧ ∃ vr rows p, v' = .agg #[vr] ∧ RowsAt h' h.size p vr rows ∧ rows.map (·.2) = qs.map (liftL (sprZ (prodL qs / t) t ms)) := by
  have hq0 : 0 < qs.length := P.2.2.1.2.2.1
  have hq8 : qs.length ≤ 8 := P.2.2.1.2.2.2
  have hnd : qs.Nodup := P.2.2.1.2.1
  have ht30 : t < 1073741824 := P.2.1.1
  have hp9 : 2 ^ L ≤ 2 ^ 9 := Nat.pow_le_pow_right (by decide) hL9
  have e9 : (2 : Nat) ^ 9 = 512 := by decide
  have hp3 : 2 ^ 3 ≤ 2 ^ L := Nat.pow_le_pow_right (by decide) hL3
  have e3' : (2 : Nat) ^ 3 = 8 := by decide
  have hal : Al 18446744073709551616 qs := A.al
  have hR := rightP_of hL3 hQ hnd hq0 (by omega)
  have lm := hm.1
  have ST := fun h T A => step_spec ⟨((2 ^ L : Nat) : Int), t, vq, qs, (w : Int)⟩ ((qs.length - 1 : Nat) : Int) h T A (by omega) (by omega)
  have hE : levE ⟨((2 ^ L : Nat) : Int), t, vq, qs, (w : Int)⟩ ((qs.length - 1 : Nat) : Int) = 0 := by
    unfold levE
    rw [if_pos P, if_neg (by dsimp only; omega)]
  have hM : levM ⟨((2 ^ L : Nat) : Int), t, vq, qs, (w : Int)⟩ ((qs.length - 1 : Nat) : Int) = prodL qs := by
    unfold levM
    dsimp only
    rw [Int.toNat_natCast, show qs.length - 1 + 1 = qs.length by omega, List.take_length]
  simp only [hE, hM, if_true] at ST
  unfold ParD.cells at ST
  dsimp only [List.toArray] at ST
  have hPl := prodL_lt hal
  have hSl : prodL qs / t < 18446744073709551616 ^ (qs.length + 1) := Nat.lt_of_le_of_lt (Nat.div_le_self _ _) hPl
  generalize hSe : prodL qs / t = S at *
  have lS : (dg 18446744073709551616 S).length ≤ 9 := by
    have := dg_len (b := 18446744073709551616) (n := S) (k := qs.length + 1) (by decide) hSl
    omega
  (apply enter Tryz.func58 rfl Tryz.ntmps58 rfl)
  refine runJ ?_
  (apply s_box; exact rfl; exact rfl; exact rfl; exact rfl)
  intro p3 h1 x1 e1 b1
  (try dsimp only [Value.cells, List.toList_toArray] at x1)
  refine clsI ?_
  refine runJ ?_
  (apply s_alloc; exact rfl; exact rfl; exact rfl)
  intro p6 h2 x2 e2 b2
  (try dsimp only [Value.cells, List.toList_toArray] at x2)
  refine clsI ?_
  have x12 := x1.ext e2
  have E2 := e1.trans e2
  refine runJ ?_
  apply (s_call Tryz_ent115 rfl rfl rfl)
  refine (ST h2 (TB0.ext E2) (A.ext E2)).mono ?_
  rintro _ h3 ⟨e3, vs, rfl, os⟩
  refine ⟨trivial, ?_⟩
  have E3 := E2.trans e3
  have x13 := x12.ext e3
  have x23 := x2.ext e3
  have sm3 := sm.ext E3
  refine runJ ?_
  refine s_makeS (f := intC) (s := 2) (bytes := 32) ((.slice none 0 0, 0) : Value × Int) (isK_t rfl) (isK_t rfl) rfl rfl rfl (fun _ => rfl) (by decide) rfl rfl (Nat.le_refl _) (by omega) (by omega) ?_
  intro vI h4 o4 e4 b4
  refine ⟨trivial, ?_⟩
  have sm4 := sm3.ext e4
  have E4 := E3.trans e4
  have hs34 : h3.size < h4.size := (o4.blk _ b4).2
  have o4one := o4.sl.one
  refine runJ ?_
  (first | (apply w_seqB; exact rfl; apply w_block; exact rfl) | skip)
  apply (w_loop (σ := Nat × List (Value × Int)) rfl (fun j => [(2, N (qs.length - 1)), (3, p3), (6, p6), (7, vs), (10, vI), (27, vt), (28, N ms.length), (29, N j.1)])
    (fun j h' => Ext h3 h' ∧ h4.size ≤ h'.size ∧ j.1 ≤ ms.length ∧ j.2.length = ms.length ∧ IntsAt h' h3.size vI j.2 ∧ j.2.map (·.2) = (sprZ S t ms).take j.1 ++ List.replicate (ms.length - j.1) 0) (fun j => ms.length - j.1) (0, List.replicate ms.length (.slice none 0 0, 0)))
  · exact subs
  · refine ⟨e4, Nat.le_refl _, Nat.zero_le _, by simp, ⟨o4, fun x hx => ?_, fun x hx => ?_⟩, by simp⟩
    · rw [(List.mem_replicate.1 hx).2]; exact OwnF.nil _ _ _ _
    · rw [(List.mem_replicate.1 hx).2]; exact .inl rfl
  rintro ⟨j, xs⟩ h5 ⟨e5, z5, j1, l5, I5, m5⟩
  dsimp only at e5 z5 j1 l5 I5 m5 ⊢
  have E5 := E3.trans e5
  have sm5 := sm3.ext e5
  have x35 := x13.ext e5
  have os5 := os.ext e5
  refine runJ ?_
  (apply w_condD; exact rfl; exact rfl) <;> intro hj
  · obtain ⟨x, hxj⟩ := get_lt hj
    have hxt := hm.2 x (List.mem_of_getElem? hxj)
    obtain ⟨c1, c2, c3⟩ := cent_facts hxt ht30
    refine runJ ?_
    apply (s_call Tryz_ent64 rfl rfl rfl)
    refine (of_spec x h5 (by omega)).mono ?_
    rintro va h6 ⟨e6, o6⟩
    refine ⟨trivial, ?_⟩
    have x36 := x35.ext e6
    refine runJ ?_
    apply (s_call Tryz_ent116 rfl rfl rfl)
    refine (center_spec x t h6 (by omega) (by omega)).mono ?_
    rintro _ _ ⟨rfl, rfl⟩
    refine ⟨trivial, ?_⟩
    generalize hce : centerm x t = c at *
    refine runJ ?_
    apply (w_tcut (σ := Value) (fun s => [(2, N (qs.length - 1)), (3, p3), (6, p6), (7, vs), (10, vI), (11, N j), (13, s), (14, I c), (27, vt), (28, N ms.length), (29, N j)])
      (fun s h' => Ext h6 h' ∧ OwnF h' h5.size 26 U s (dg 18446744073709551616 c.natAbs)))
    · (apply w_condD; exact rfl; exact rfl) <;> intro hc
      · refine runJ ?_
        refine o_know (t := 43) (u := N c.natAbs) rfl (congrArg I (by omega)) ?_
        refine runJ ?_
        apply (s_call Tryz_ent64 rfl rfl rfl)
        refine (of_spec c.natAbs h6 (by omega)).mono ?_
        rintro vb h7 ⟨e7, o7⟩
        refine ⟨trivial, ?_⟩
        refine runJ ?_
        apply cut_normal vb
        · exact subs
        · exact ⟨e7, o7.base e6.1⟩
      · refine runJ ?_
        apply cut_normal va
        · exact subs
        · exact ⟨Ext.refl _, by rw [c3 (by omega)]; exact o6⟩
    rintro vsz h7 ⟨e7, o7⟩
    have E57 := e6.trans e7
    have x37 := x36.ext e7
    have os7 := os5.ext E57
    have hvsz := o7.sl.one
    have hvs := os7.sl.one
    have lc : (dg 18446744073709551616 c.natAbs).length ≤ 1 := dg_len (by decide) (by omega)
    have NT := ntimes_spec (decide (c < 0)) false vsz vs _ _ h7 o7.sl os7.sl (al_dg (by decide) _) (al_dg (by decide) _) (by omega) (by omega)
    rw [vl_dg (by decide), vl_dg (by decide), iv_nat, show IV false S = (S : Int) from rfl] at NT
    refine runJ ?_
    (apply (s_build ([.bool (decide (c < 0)), vsz])); exact rfl; exact rfl; exact rfl; (repeat (first | exact CellsAll.nil | (apply CellsAll.cons; (first | exact oneL (by assumption) | exact oneL (SlF.one (by assumption)) | exact oneL (SlF.one (OwnF.sl (by assumption))) | exact oneL (Var.one (by assumption)) | exact rfl)))); exact rfl; exact rfl)
    refine runJ ?_
    (apply (s_build ([.bool false, vs])); exact rfl; exact rfl; exact rfl; (repeat (first | exact CellsAll.nil | (apply CellsAll.cons; (first | exact oneL (by assumption) | exact oneL (SlF.one (by assumption)) | exact oneL (SlF.one (OwnF.sl (by assumption))) | exact oneL (Var.one (by assumption)) | exact rfl)))); exact rfl; exact rfl)
    refine runJ ?_
    apply (s_call Tryz_ent63 rfl rfl rfl)
    refine (NT).mono ?_
    rintro _ h8 ⟨e8, a, rfl, oa⟩
    refine ⟨trivial, ?_⟩
    have E58 := E57.trans e8
    have I8 := I5.ext E58
    have hza := oa.sl.one
    have oI8 := I8.own
    have sI8 := I8.sla
    obtain ⟨y0, hy0⟩ := get_lt (l := xs) (j := j) (by omega)
    refine runJ ?_
    (apply (s_storeS (f := intC) (s := 2) (j := j) ((a, c * (S : Int)) : Value × Int)); exact rfl; exact rfl; exact rfl; exact rfl; exact rfl; exact (fun _ => rfl); exact (by decide); exact oI8; exact (fun u hu => by
      rcases List.mem_cons.1 hu with rfl | hu
      · rfl
      rw [List.mem_singleton.1 hu]; exact hza); omega)
    intro h9 o9 k9
    refine ⟨trivial, ?_⟩
    have hbI : ∀ k, vI.ownBlock = some k → h3.size ≤ k := fun k hk => (I8.own.blk k hk).1
    have hbI2 : ∀ k, vI.ownBlock = some k → k < h5.size := fun k hk => (I5.own.blk k hk).2
    have e9 : Ext h3 h9 := ext_onlyR (e5.trans E58) k9 hbI
    have na : a.ownBlock = none ∨ a.ownBlock ≠ vI.ownBlock := by
      cases hb : a.ownBlock with
      | none => exact .inl rfl
      | some k => exact .inr fun e => by have := (oa.blk _ hb).1; have := hbI2 _ e.symm; have := E57.1; omega
    refine runJ ?_
    apply again_normal (j + 1, xs.set j (a, c * (S : Int)))
    · exact subs
    · refine ⟨e9, Nat.le_trans z5 (Nat.le_trans E58.1 k9.1), hj, by dsimp only; rw [List.length_set]; exact l5, ⟨o9, fun x hx => ?_, fun x hx => ?_⟩, ?_⟩
      · rcases List.mem_or_eq_of_mem_set hx with hx | rfl
        · exact (I8.el x hx).only k9 (I8.ne x hx)
        · exact (oa.base (Nat.le_trans e5.1 E57.1)).only k9 na
      · rcases List.mem_or_eq_of_mem_set hx with hx | rfl
        · exact I8.ne x hx
        · exact na
      · dsimp only
        have hz : (sprZ S t ms)[j]? = some (c * (S : Int)) := by
          unfold sprZ
          rw [List.getElem?_map, hxj, Option.map_some, hce]
        have hlz : (sprZ S t ms).length = ms.length := by unfold sprZ; rw [List.length_map]
        rw [List.map_set, m5, take_snoc hz, show ms.length - j = (ms.length - (j + 1)) + 1 by omega, List.replicate_succ, List.set_append_right _ _ (by rw [List.length_take]; omega), show j - ((sprZ S t ms).take j).length = 0 by rw [List.length_take]; omega]
        simp
    · dsimp only; omega
  · have hjl : j = ms.length := by omega
    subst hjl
    have hlz : (sprZ S t ms).length = ms.length := by unfold sprZ; rw [List.length_map]
    rw [Nat.sub_self, List.replicate_zero, List.append_nil, ← hlz, List.take_length] at m5
    have sq5 : SlF h5 U vq qs := A.row.ext E5
    have c5 := sq5.cut (lo := 0) (hi := qs.length - 1 + 1) (Nat.zero_le _) (by omega)
    rw [List.drop_zero, Nat.sub_zero, List.take_of_length_le (by omega)] at c5
    have sI5 := I5.sla
    have hzl : ∀ x ∈ xs, (dg 18446744073709551616 x.2.natAbs).length < 1000000 := fun x hx => by
      have hxm : x.2 ∈ sprZ S t ms := by rw [← m5]; exact List.mem_map.2 ⟨x, hx, rfl⟩
      unfold sprZ at hxm
      obtain ⟨y, hy, hye⟩ := List.mem_map.1 hxm
      obtain ⟨c1, c2, -⟩ := cent_facts (hm.2 y hy) ht30
      have hb := nab_mul (S := S) (show (centerm y t).natAbs ≤ 18446744073709551616 by omega)
      rw [hye] at hb
      have h2 : 18446744073709551616 * S < 18446744073709551616 ^ (qs.length + 1 + 1) := by
        rw [Nat.pow_succ _ (qs.length + 1), Nat.mul_comm]
        exact Nat.mul_lt_mul_of_pos_right hSl (by decide)
      have := dg_len (b := 18446744073709551616) (n := x.2.natAbs) (k := qs.length + 1 + 1) (by decide) (Nat.lt_of_le_of_lt hb h2)
      omega
    refine runJ ?_
    apply (s_call Tryz_ent117 rfl rfl rfl)
    refine (elementP_spec vI _ xs qs h3.size h5 (TB0.ext E5) sI5 (fun x hx => (I5.el x hx).sl) hzl c5 hR (2 ^ L) (by omega) (by omega) (by omega)).mono ?_
    rintro _ h6 ⟨e6, vr, rows, p, rfl, RW, mr⟩
    refine ⟨trivial, ?_⟩
    have x26 := (x23.ext e5).ext e6
    have x36 := x35.ext e6
    have hvr := RW.own.sl.one
    rw [m5] at mr
    refine runJ ?_
    (apply s_alloc; exact rfl; exact rfl; exact rfl)
    intro p15 h7 x7 e7 b7
    (try dsimp only [Value.cells, List.toList_toArray] at x7)
    refine clsI ?_
    refine runJ ?_
    (apply s_storeV; exact rfl; exact rfl; exact rfl; exact (OneAll.cons hvr OneAll.nil : OneAll [vr]); exact rfl; exact rfl; exact x7; exact rfl)
    intro h8 x8 k8
    refine ⟨trivial, ?_⟩
    have x8 : Var h8 p15 56 [vr] := x8
    have e68 : Ext h6 h8 := k8.oldV e7 b7 (Nat.le_refl _)
    have x28 := x26.ext e68
    have R8 := (RW.ext e7).neT x7 k8
    have E8 := (E5.trans e6).trans e68
    refine runJ ?_
    (apply s_storeV; exact rfl; exact rfl; exact rfl; exact (OneAll.cons hvr OneAll.nil : OneAll [vr]); exact rfl; exact rfl; exact x28; exact rfl)
    intro h9 x9 k9
    refine ⟨trivial, ?_⟩
    have x9 : Var h9 p6 56 [vr] := x9
    have e9 : Ext h h9 := k9.oldV E8 b2 e1.1
    have R9 : RowsAt h9 h5.size p vr rows := by
      obtain ⟨b, hb, hl⟩ := x2.blk
      rw [hb] at k9
      exact R8.low k9 (Nat.lt_of_lt_of_le hl (Nat.le_trans e3.1 e5.1))
    refine runJ ?_
    exact finC rfl rfl x9 rfl rfl ⟨e9, vr, rows, p, rfl, R9.base E5.1, mr⟩
end Go.Proofs.YtfcmdefigldpnaaGreatDoor


namespace Go.Den
set_option linter.unusedVariables false
set_option maxRecDepth 8000
open Go Go.RowKit

section rules
variable {P : Program} {n : Nat} {Q : Post} {l : Fr} {ops : List Oper} {Ch : Hp → Prop} {E F : Nat → Bool} {K : Hp → Hp → Prop} {Φ : Nat → Value → Hp → Prop} {i : Nat} {D : Hp → Prop} {fl : List (Nat × Value)}

theorem k_loadPA {d : Nat} {t : TypeId} {x : Operand} {p : Value} {cs : List Value} {ty : TypeId} {ps : String} {af : Array Edge} {g : Option (Nat × Bool)} (ho : opAt ops i = some ⟨some d, .load t x, ty, ps, af, g⟩) (hg : gd ops l g = some true) (hE : E i = true) (hb : Nat.blt d n = true)
    (hx : ev l x = some p) (ht : aggTy P t = true) (hz : (P.info? t).map (·.size) = some cs.length) (hD : ∀ h1 h2, D h1 → Ext h1 h2 → D h2) (hK : ∀ h, K h h)
    (hr : ∀ h, Ch h → D h → (∀ p ∈ fl, Φ p.1 p.2 h) → Cells h p cs)
    (k : SK P n ops Ch E F K Φ Q (i + 1) D fl ((d, .agg cs.toArray) :: l)) : SK P n ops Ch E F K Φ Q i D fl l :=
  k_act ho hE hg fun h hC hDh hT a w hf hw => by
    have hq := hr h hC hDh hT
    subst hw
    obtain ⟨b, o, rfl, hc⟩ := hq
    have hl := run_loadAgg (P := P) (t := t) (a := (⟨b, o, none⟩ : Addr)) (w := w) (ds := cs) ht hz (fun j u hu => by rw [Addr.add_lit, cell?_cellH]; exact hc _ _ hu)
    unfold Eff
    simp only [execOp, hf.ev hx, Instr.loadAt, Instr.sureAddr, Sem.run_bind, Sem.run_pure, Result.andThen_ok, hl]
    exact ⟨⟨rfl, rfl, rfl⟩, hC, D, _, hD, hDh, hf.put d _ hb, .inl ⟨hK _, k⟩⟩

theorem k_storeO {t e : TypeId} {x y : Operand} {v u : Value} {j B s n' : Nat} {cs us : List Value} {ty : TypeId} {ps : String} {af : Array Edge} {g : Option (Nat × Bool)} (D' : Hp → Prop) (ho : opAt ops i = some ⟨none, .store t x y, ty, ps, af, g⟩) (hg : gd ops l g = some true) (hE : E i = true)
    (hx : ev l x = some (ptrAt v j)) (hy : ev l y = some u) (hu : u.cells.toList = us) (h1 : ∀ c ∈ us, c.oneCell' = true) (ht : (P.info? t).map (·.size) = some us.length) (h0 : 0 < us.length) (hj : j + us.length ≤ cs.length)
    (hnf : (List.range' (i + 1) (ops.length - (i + 1))).all (fun i => !F i) = true) (hD' : ∀ h1 h2, D' h1 → Ext h1 h2 → D' h2)
    (hv : ∀ h, Ch h → D h → (∀ p ∈ fl, Φ p.1 p.2 h) → Own h B e s v n' cs)
    (hs : ∀ h h', Ch h → D h → (∀ p ∈ fl, Φ p.1 p.2 h) → Own h' B e s v n' (cs.take j ++ us ++ cs.drop (j + us.length)) → Only v.ownBlock h h' → Ch h' ∧ D' h')
    (k : SK P n ops Ch E F K Φ Q (i + 1) D' [] l) : SK P n ops Ch E F K Φ Q i D fl l :=
  k_act ho hE hg fun h hC hD hT a w hf hw => by
    have hv := hv h hC hD hT
    have hs := hs h
    subst hw
    obtain ⟨w', g1, g2, g3, g4⟩ := own_storeC (P := P) (t := t) hv hu hj h0 h1 ht
    have := hs _ hC hD hT g2 g3
    unfold Eff
    simp only [execOp, hf.ev hx, hf.ev hy, Sem.run_bind, g1]
    exact ⟨g4, this.1, D', l, hD', this.2, hf.putNone _, .inr ⟨hnf, k⟩⟩
end rules
end Go.Den

