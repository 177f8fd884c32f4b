/- Texts RkyC to KeyG of this work, joined, without what the law does not lean on. -/
import Derived.Test.YtfcmdefigldpnaaGreatDoorMKa27
namespace Go.Proofs.YtfcmdefigldpnaaGreatDoor
set_option linter.unusedVariables false
set_option maxRecDepth 8000
open Go Go.Den Go.RowKit Go.Mth Go.Dig

theorem Tryz_ent40 : Ent Tryz.prog 40 := ent_of Tryz.func40 (by kernel_rfl) rfl
set_option maxHeartbeats 8000000 in
theorem switchR_spec (n t w : Nat) (vq vs vf tp : Value) (qs : List Nat) (ss : List Int) (B : Option Nat) (ds : List Nat) (H : List (Value × List Nat)) (h : Hp) (T : TapR h tp B ds false) (sq : SlF h U vq qs) (nq : vq.ownBlock = none ∨ vq.ownBlock ≠ pblk tp) (s : SlF h I vs ss) (ns : vs.ownBlock = none ∨ vs.ownBlock ≠ pblk tp) (hsn : ss.length = n) (hsb : ∀ x ∈ ss, -9223372036854775808 ≤ x ∧ x < 9223372036854775808)
    (SH : PolAt h vf H) (lH : H.length = qs.length) (nf : vf.ownBlock = none ∨ vf.ownBlock ≠ pblk tp) (nfr : ∀ x ∈ H, x.1.ownBlock = none ∨ x.1.ownBlock ≠ pblk tp) (fH : ∀ (i q : Nat) (x : Value × List Nat), H[i]? = some x → qs[i]? = some q → Fit n q x.2)
    (hn1 : 2 ≤ n) (hn : n ≤ 512) (h0 : 0 < qs.length) (h8 : qs.length ≤ 8) (hq : ∀ q ∈ qs, 1 < q ∧ q < 18446744073709551616) (hw : 1 ≤ w) (hw16 : w ≤ 16) :
    CallsH Tryz.prog 40 [.agg #[N n, U t, vq, N w], vs, .agg #[vf], tp] h fun v' h' => Only (pblk tp) h h' ∧ match swG n w qs qs.length ds with
      | none => v' = .tuple #[.agg #[.slice none 0 0, .slice none 0 0], N 11] ∧ ∃ ds, TapR h' tp B ds true
      | some (xs, ds') => ∃ vB vA pB pA, v' = .tuple #[.agg #[vB, vA], N 0] ∧ SwAt h' h.size vB pB ∧ SwAt h' h.size vA pA ∧ TapR h' tp B ds' false ∧ SwR n qs (qs.map (liftL ss)) (H.map (·.2)) xs (polysL pB) (polysL pA) := by
  obtain ⟨tk, htk, htl⟩ := T.pb
  have hBl := T.bl
  have hpk : ∀ j, pblk tp = some j → j < h.size := fun j hj => by rw [htk] at hj; cases hj; exact htl
  have hq1 : ∀ q ∈ qs, 0 < q ∧ q < 18446744073709551616 := fun q h => by have := hq q h; omega
  (apply enter Tryz.func40 rfl Tryz.ntmps40 rfl)
  refine runJ ?_
  (apply s_box; exact rfl; exact rfl; exact rfl; exact rfl)
  intro p4 h1 x1 e1 b1
  (try dsimp only [Value.cells, List.toList_toArray] at x1)
  refine ⟨(by first | exact trivial | exact Ext.refl _ | assumption | exact Ext.trans (by assumption) (by assumption)), ?_⟩
  refine runJ ?_
  (apply s_box; exact rfl; exact rfl; exact rfl; exact rfl)
  intro p6 h2 x2 e2 b2
  (try dsimp only [Value.cells, List.toList_toArray] at x2)
  refine ⟨(by first | exact trivial | exact Ext.refl _ | assumption | exact Ext.trans (by assumption) (by assumption)), ?_⟩
  have x2 : Var h2 p6 56 [vf] := x2
  refine runJ ?_
  (apply s_alloc; exact rfl; exact rfl; exact rfl)
  intro p8 h3 x3 e3 b3
  (try dsimp only [Value.cells, List.toList_toArray] at x3)
  refine ⟨(by first | exact trivial | exact Ext.refl _ | assumption | exact Ext.trans (by assumption) (by assumption)), ?_⟩
  refine runJ ?_
  (apply s_alloc; exact rfl; exact rfl; exact rfl)
  intro p10 h4 x4 e4 b4
  (try dsimp only [Value.cells, List.toList_toArray] at x4)
  refine ⟨(by first | exact trivial | exact Ext.refl _ | assumption | exact Ext.trans (by assumption) (by assumption)), ?_⟩
  have E4 := ((e1.trans e2).trans e3).trans e4
  have hs1 : h.size < h1.size := by obtain ⟨j, hj, hl⟩ := x1.blk; rw [b1] at hj; cases hj; exact hl
  have hs2 : h1.size < h2.size := by obtain ⟨j, hj, hl⟩ := x2.blk; rw [b2] at hj; cases hj; exact hl
  have hs3 : h2.size < h3.size := by obtain ⟨j, hj, hl⟩ := x3.blk; rw [b3] at hj; cases hj; exact hl
  have hs4 : h3.size < h4.size := by obtain ⟨j, hj, hl⟩ := x4.blk; rw [b4] at hj; cases hj; exact hl
  have x14 := ((x1.ext e2).ext e3).ext e4
  have x24 := (x2.ext e3).ext e4
  have x34 := x3.ext e4
  have hp4t : pblk p4 ≠ pblk tp := by rw [b1, htk]; intro e; have := Option.some.inj e; omega
  have hp6t : pblk p6 ≠ pblk tp := by rw [b2, htk]; intro e; have := Option.some.inj e; omega
  have hp8t : pblk p8 ≠ pblk tp := by rw [b3, htk]; intro e; have := Option.some.inj e; omega
  have hp10t : pblk p10 ≠ pblk tp := by rw [b4, htk]; intro e; have := Option.some.inj e; omega
  have hp4_10 : pblk p4 ≠ pblk p10 := by rw [b1, b4]; intro e; have := Option.some.inj e; omega
  have hp6_10 : pblk p6 ≠ pblk p10 := by rw [b2, b4]; intro e; have := Option.some.inj e; omega
  have hp8_10 : pblk p8 ≠ pblk p10 := by rw [b3, b4]; intro e; have := Option.some.inj e; omega
  have hge8 : ∀ j, pblk p8 = some j → h.size ≤ j := fun j hj => by rw [b3] at hj; have := Option.some.inj hj; omega
  have hge10 : ∀ j, pblk p10 = some j → h.size ≤ j := fun j hj => by rw [b4] at hj; have := Option.some.inj hj; omega
  have T4 := T.ext E4
  have sq4 := sq.ext E4
  refine runJ ?_
  (first | (apply w_seqB; exact rfl; apply w_block; exact rfl) | skip)
  apply (w_loop (σ := Nat × (Value × List (Value × List (Value × List Nat))) × (Value × List (Value × List (Value × List Nat))) × List Nat × List (List (List Nat) × List Int)) rfl (fun s => [(1, vs), (3, tp), (4, p4), (6, p6), (8, p8), (10, p10), (18, N qs.length), (19, N s.1)])
    (fun s h' => Only (pblk tp) h h' ∧ h4.size ≤ h'.size ∧ s.1 ≤ qs.length ∧ Var h' p4 28 [N n, U t, vq, N w] ∧ Var h' p6 56 [vf] ∧ Var h' p8 42 [.slice none 0 0, .slice none 0 0] ∧ Var h' p10 42 [s.2.1.1, s.2.2.1.1] ∧ SwAt h' h4.size s.2.1.1 s.2.1.2 ∧ SwAt h' h4.size s.2.2.1.1 s.2.2.1.2 ∧ (s.2.1.1.ownBlock = none ∨ s.2.1.1.ownBlock ≠ s.2.2.1.1.ownBlock) ∧
      TapR h' tp B s.2.2.2.1 false ∧ s.2.1.2.length = s.1 ∧ polysL s.2.2.1.2 = s.2.2.2.2.map (·.1) ∧ s.2.2.2.2.length = s.1 ∧
      (swG n w qs qs.length ds = match swG n w qs (qs.length - s.1) s.2.2.2.1 with
        | none => none
        | some (ys, ds') => some (s.2.2.2.2 ++ ys, ds')) ∧
      ∀ (i : Nat) (ae : List (List Nat) × List Int) (b : List (List Nat)), s.2.2.2.2[i]? = some ae → (polysL s.2.1.2)[i]? = some b → SwB n qs (qs.map (liftL ss)) (H.map (·.2)) i ae b)
    (fun s => qs.length - s.1) (0, (.slice none 0 0, []), (.slice none 0 0, []), ds, []))
  · exact (Sub.cons rfl (Sub.cons rfl (Sub.cons rfl (Sub.cons rfl (Sub.cons rfl (Sub.cons rfl (Sub.cons rfl (Sub.cons rfl (Sub.nil _)))))))))
  · refine ⟨E4.only _, Nat.le_refl _, Nat.zero_le _, x14, x24, x34, x4, ⟨OwnF.nil _ _ _ _, fun x hx => by cases hx⟩, ⟨OwnF.nil _ _ _ _, fun x hx => by cases hx⟩, .inl rfl, T4, rfl, rfl, rfl, ?_, fun i ae b hi => by cases hi⟩
    dsimp only
    rw [Nat.sub_zero]
    cases swG n w qs qs.length ds with
    | none => rfl
    | some y => rfl
  rintro ⟨i, ⟨vB, pB⟩, ⟨vA, pA⟩, dsi, acc⟩ h5 ⟨k5, z5, i5, x15, x25, x35, x45, SB5, SA5, nBA, T5, lB5, mA5, la5, hG5, hS5⟩
  dsimp only at k5 z5 i5 x15 x25 x35 x45 SB5 SA5 nBA T5 lB5 mA5 la5 hG5 hS5 ⊢
  have sq5 := sq.only k5 nq
  have s5 := s.only k5 ns
  refine runJ ?_
  (apply w_condD; exact rfl; exact rfl) <;> intro hj
  · have hH : ∃ x, H[i]? = some x := get_lt (by omega)
    refine runJ ?_
    apply (s_call Tryz_ent90 rfl rfl rfl)
    refine (zeroR_spec n t w vq qs h5 sq5 hn h0 h8 hq1).mono ?_
    rintro r h6 ⟨e6, vz, rz, pz, rfl, RZ6, mz⟩
    refine ⟨(by first | exact trivial | exact Ext.refl _ | assumption | exact Ext.trans (by assumption) (by assumption)), ?_⟩
    have hvz := RZ6.own.sl.one
    refine runJ ?_
    (apply s_alloc; exact rfl; exact rfl; exact rfl)
    intro p12 h7 x7 e7 b7
    (try dsimp only [Value.cells, List.toList_toArray] at x7)
    refine ⟨(by first | exact trivial | exact Ext.refl _ | assumption | exact Ext.trans (by assumption) (by assumption)), ?_⟩
    refine runJ ?_
    (apply s_storeV; exact rfl; exact rfl; exact rfl; exact (OneAll.cons hvz OneAll.nil : OneAll [vz]); exact rfl; exact rfl; exact x7; exact rfl)
    intro h8' x8 k8
    refine ⟨trivial, ?_⟩
    have x8 : Var h8' p12 56 [vz] := x8
    have E8 : Ext h5 h8' := k8.oldV (e6.trans e7) b7 e6.1
    have RZ8 := (RZ6.ext e7).neT x7 k8
    have hs7 : h6.size < h7.size := by obtain ⟨j, hj, hl⟩ := x7.blk; rw [b7] at hj; cases hj; exact hl
    have lz : rz.length = qs.length := by have := congrArg List.length mz; unfold zerosL at this; simpa using this
    obtain ⟨⟨wz, oz⟩, hz⟩ := get_lt (l := rz) (j := i) (by omega)
    obtain ⟨⟨wf, lf⟩, hf⟩ := hH
    have oz8 := RZ8.own
    have x28 := x25.ext E8
    have hvf5 : ∀ k, vf.ownBlock = some k → k < h.size := fun k hk => SH.row.lt (by omega) k hk
    have SHr8 : SlF h8' Prod.fst vf H := (SH.row.only k5 nf).ext E8
    have hp12w := var_ne9 x8 (Own.neT oz8 x8 rfl)
    have hp6w := var_ne9 x28 (Own.neT oz8 x28 rfl)
    have hvzB := fun k hk => (oz8.blk k hk).1
    have hvfw : vf.ownBlock = none ∨ vf.ownBlock ≠ vz.ownBlock := low_ne9 hvf5 fun k hk => by have := hvzB k hk; have := k5.1; omega
    have hwf1 : wf.oneCell' = true := (SH.el _ (List.mem_of_getElem? hf)).one
    refine runJN ?_
    (apply (r_drawnO (vz.ownBlock)); exact rfl; exact mixed; kernel_rfl)
    refine runJ ?_
    (apply (s_storeF ((wf, lf) : Value × List Nat)); exact rfl; exact rfl; exact rfl; exact rfl; exact rfl; exact oz8; exact hwf1; omega)
    intro h9 o9 k9
    refine ⟨k9, ?_⟩
    have E9 : Ext h5 h9 := ext_onlyR E8 k9 hvzB
    have k59 : Only (pblk tp) h h9 := k5.trans (E9.only _)
    have T9 := T5.ext E9
    have x89 := x8.only k9 hp12w
    obtain ⟨rh, hrh⟩ : ∃ rh, rh = rz.set i (wf, lf) := ⟨_, rfl⟩
    rw [← hrh] at o9
    have lrh : rh.length = qs.length := by rw [hrh, List.length_set]; exact lz
    have grh : ∀ (j : Nat) (x : Value × List Nat), rh[j]? = some x → (j = i ∧ x = (wf, lf)) ∨ (j ≠ i ∧ rz[j]? = some x) := fun j x hx => by
      rw [hrh] at hx
      by_cases hji : i = j
      · subst hji
        rw [List.getElem?_set_self (by omega)] at hx
        exact .inl ⟨rfl, (Option.some.inj hx).symm⟩
      · rw [List.getElem?_set_ne hji] at hx
        exact .inr ⟨fun e => hji e.symm, hx⟩
    have zrh : ∀ (j q : Nat) (x : Value × List Nat), rz[j]? = some x → qs[j]? = some q → x.2 = liftL (List.replicate n 0) q := fun j q x hx hq => by
      have h2 := congrArg (fun l => l[j]?) mz
      unfold zerosL at h2
      simp only [List.getElem?_map, hx, hq, Option.map_some, Option.some.injEq] at h2
      exact h2
    have PA9 : PolAt h9 vz rh := by
      refine ⟨o9.sl, fun x hx => ?_⟩
      obtain ⟨j, hj'⟩ := List.mem_iff_getElem?.1 hx
      rcases grh j x hj' with ⟨-, rfl⟩ | ⟨hne, hx'⟩
      · exact (SH.el _ (List.mem_of_getElem? hf)).only k59 (nfr _ (List.mem_of_getElem? hf))
      · exact ((RZ8.el x (List.mem_of_getElem? hx')).only k9 (RZ8.ne x (List.mem_of_getElem? hx'))).sl
    have FO9 : ∀ (j q : Nat) (x : Value × List Nat), rh[j]? = some x → qs[j]? = some q → Fit n q x.2 := fun j q x hx hqj => by
      rcases grh j x hx with ⟨rfl, rfl⟩ | ⟨hne, hx'⟩
      · exact fH j q _ hf hqj
      · rw [zrh j q x hx' hqj]
        have hq1' := hq q (List.mem_of_getElem? hqj)
        refine ⟨by unfold liftL; rw [List.length_map, List.length_replicate], fun y hy => ?_⟩
        unfold liftL at hy
        obtain ⟨z, -, rfl⟩ := List.mem_map.1 hy
        exact liftm_lt9 (by omega)
    have nvz : vz.ownBlock = none ∨ vz.ownBlock ≠ pblk tp := by
      rw [htk]
      cases hb : vz.ownBlock with
      | none => exact .inl rfl
      | some k => exact .inr fun e => by cases e; have := hvzB _ hb; have := k5.1; omega
    have nrh : ∀ x ∈ rh, x.1.ownBlock = none ∨ x.1.ownBlock ≠ pblk tp := fun x hx => by
      obtain ⟨j, hj'⟩ := List.mem_iff_getElem?.1 hx
      rcases grh j x hj' with ⟨-, rfl⟩ | ⟨hne, hx'⟩
      · exact nfr _ (List.mem_of_getElem? hf)
      · rw [htk]
        cases hb : x.1.ownBlock with
        | none => exact .inl rfl
        | some k =>
          refine .inr fun e => ?_
          cases e
          have h9k := k5.1
          have := ((RZ8.el x (List.mem_of_getElem? hx')).blk _ hb).1; omega
    have sq9 := sq.only k59 nq
    have s9 := s.only k59 ns
    have x19 := (x15.ext E9)
    refine runJN ?_
    refine runJ ?_
    apply (s_call Tryz_ent91 rfl rfl rfl)
    refine (hideR_spec n t w vq vs vz tp qs ss B dsi rh h9 T9 sq9 nq s9 ns hsn hsb PA9 lrh nvz nrh FO9 hn1 hn h0 h8 hq hw hw16).mono ?_
    rintro r h10 ⟨k10, G10⟩
    refine ⟨(by first | exact trivial | exact Ext.refl _ | assumption | exact Ext.trans (by assumption) (by assumption)), ?_⟩
    have k510 : Only (pblk tp) h h10 := k59.trans k10
    have x1a := x19.only k10 hp4t
    have x2a := (x25.ext E9).only k10 hp6t
    have x3a := (x35.ext E9).only k10 hp8t
    have x4a := (x45.ext E9).only k10 hp10t
    have hz9 := E9.1
    have hz10 := k10.1
    have h5s := k5.1
    have htl4 : tk < h4.size := Nat.lt_of_lt_of_le htl E4.1
    have k10' : Only (some tk) h9 h10 := by rw [← htk]; exact k10
    have SBa := (SB5.ext E9).low k10' htl4
    have SAa := (SA5.ext E9).low k10' htl4
    have hlen' : qs.length - i = (qs.length - (i + 1)) + 1 := by omega
    cases hh : hideG n w qs dsi with
    | none =>
      rw [hh] at G10
      obtain ⟨rfl, dso, T10⟩ := G10
      have hN : swG n w qs qs.length ds = none := by
        rw [hG5, hlen']; unfold swG; rw [hh]
      rw [hN]
      refine runJ ?_
      (apply s_alloc; exact rfl; exact rfl; exact rfl)
      intro p13 h11 x11 e11 b11
      (try dsimp only [Value.cells, List.toList_toArray] at x11)
      refine ⟨(by first | exact trivial | exact Ext.refl _ | assumption | exact Ext.trans (by assumption) (by assumption)), ?_⟩
      refine runJ ?_
      (apply s_alloc; exact rfl; exact rfl; exact rfl)
      intro p14 h12 x12 e12 b12
      (try dsimp only [Value.cells, List.toList_toArray] at x12)
      refine ⟨(by first | exact trivial | exact Ext.refl _ | assumption | exact Ext.trans (by assumption) (by assumption)), ?_⟩
      have hs11 : h10.size < h11.size := by obtain ⟨j, hj, hl⟩ := x11.blk; rw [b11] at hj; cases hj; exact hl
      refine runJ ?_
      (apply s_storeV; exact rfl; exact rfl; exact rfl; exact (OneAll.cons rfl OneAll.nil : OneAll [.slice none 0 0]); exact rfl; exact rfl; exact (x11.ext e12); exact rfl)
      intro h13 x13 k13
      refine ⟨trivial, ?_⟩
      have x12' := x12.only k13 (by rw [b11, b12]; intro e; have := Option.some.inj e; omega)
      refine runJ ?_
      (apply s_storeV; exact rfl; exact rfl; exact rfl; exact (OneAll.cons rfl OneAll.nil : OneAll [.slice none 0 0]); exact rfl; exact rfl; exact x12'; exact rfl)
      intro h14 x14' k14
      refine ⟨trivial, ?_⟩
      have E13 : Ext h10 h13 := k13.oldV (e11.trans e12) b11 (Nat.le_refl _)
      have E14 : Ext h10 h14 := k14.oldV E13 b12 e11.1
      have x3b := x3a.ext E14
      refine runJ ?_
      (apply (s_build ([.slice none 0 0, .slice none 0 0])); exact rfl; exact rfl; exact rfl; (repeat (first | exact CellsAll.nil | (apply CellsAll.cons; (first | exact oneL (by assumption) | exact oneL (SlF.one (by assumption)) | exact oneL (SlF.one (OwnF.sl (by assumption))) | exact oneL (Var.one (by assumption)) | exact rfl)))); exact rfl; exact rfl)
      refine runJ ?_
      (apply s_storeV; exact rfl; exact rfl; exact rfl; exact (OneAll.cons rfl (OneAll.cons rfl OneAll.nil) : OneAll [.slice none 0 0, .slice none 0 0]); exact rfl; exact rfl; exact x3b; exact rfl)
      intro h15 x15' k15
      refine ⟨trivial, ?_⟩
      have x15' : Var h15 p8 42 [.slice none 0 0, .slice none 0 0] := x15'
      refine runJ ?_
      exact finCT rfl rfl rfl x15' rfl rfl ⟨only_own (k510.trans (E14.only _)) k15 hge8, rfl, _, (T10.ext E14).own k15 hpk hBl hge8⟩
    | some y =>
      obtain ⟨⟨als, es⟩, ds1⟩ := y
      rw [hh] at G10
      obtain ⟨vb, va, rb, ra, pb, pa, rfl, RB, RA, hma, lrb, T10, HB⟩ := G10
      have hvb := RB.own.sl.one
      have hva := RA.own.sl.one
      refine runJ ?_
      (apply s_alloc; exact rfl; exact rfl; exact rfl)
      intro p13 h11 x11 e11 b11
      (try dsimp only [Value.cells, List.toList_toArray] at x11)
      refine ⟨(by first | exact trivial | exact Ext.refl _ | assumption | exact Ext.trans (by assumption) (by assumption)), ?_⟩
      refine runJ ?_
      (apply s_alloc; exact rfl; exact rfl; exact rfl)
      intro p14 h12 x12 e12 b12
      (try dsimp only [Value.cells, List.toList_toArray] at x12)
      refine ⟨(by first | exact trivial | exact Ext.refl _ | assumption | exact Ext.trans (by assumption) (by assumption)), ?_⟩
      have hs11 : h10.size < h11.size := by obtain ⟨j, hj, hl⟩ := x11.blk; rw [b11] at hj; cases hj; exact hl
      have hs12 : h11.size < h12.size := by obtain ⟨j, hj, hl⟩ := x12.blk; rw [b12] at hj; cases hj; exact hl
      have hp1413 : pblk p14 ≠ pblk p13 := by rw [b11, b12]; intro e; have := Option.some.inj e; omega
      refine runJ ?_
      (apply s_storeV; exact rfl; exact rfl; exact rfl; exact (OneAll.cons hvb OneAll.nil : OneAll [vb]); exact rfl; exact rfl; exact (x11.ext e12); exact rfl)
      intro h13 x13 k13
      refine ⟨trivial, ?_⟩
      have x13 : Var h13 p13 56 [vb] := x13
      have x12' := x12.only k13 hp1413
      refine runJ ?_
      (apply s_storeV; exact rfl; exact rfl; exact rfl; exact (OneAll.cons hva OneAll.nil : OneAll [va]); exact rfl; exact rfl; exact x12'; exact rfl)
      intro h14 x14' k14
      refine ⟨trivial, ?_⟩
      have x14' : Var h14 p14 56 [va] := x14'
      have x914 := x13.only k14 (fun e => hp1413 e.symm)
      have E13 : Ext h10 h13 := k13.oldV (e11.trans e12) b11 (Nat.le_refl _)
      have E14 : Ext h10 h14 := k14.oldV E13 b12 e11.1
      have x1b := x1a.ext E14
      have x2b := x2a.ext E14
      have x3b := x3a.ext E14
      have x4b := x4a.ext E14
      have SBb := SBa.ext E14
      have SAb := SAa.ext E14
      have RB14 := (RB.ext E14).base (B' := h4.size) (Nat.le_trans z5 hz9)
      have RA14 := (RA.ext E14).base (B' := h4.size) (Nat.le_trans z5 hz9)
      have hvB := SBb.own.sl.one
      have hvA := SAb.own.sl.one
      refine runJ ?_
      (apply (s_litC (s := 1) ([vb])); exact rfl; (repeat (first | exact CellsAll.nil | (apply CellsAll.cons; (first | exact oneL (by assumption) | exact oneL (SlF.one (by assumption)) | exact oneL (SlF.one (OwnF.sl (by assumption))) | exact oneL (Var.one (by assumption)) | exact rfl)))); exact rfl; exact rfl; exact rfl; exact rfl; exact rfl; exact rfl; exact rfl; exact rfl; exact rfl; exact rfl)
      intro vl1 h15 o15 e15 b15
      refine ⟨(by first | exact trivial | exact Ext.refl _ | assumption | exact Ext.trans (by assumption) (by assumption)), ?_⟩
      have hlow4 : ∀ {p : Value} {hx : Hp} {e : TypeId} {cs : List Value} {v : Value} {m : Nat} {xs : List Value}, (∃ j, pblk p = some j ∧ j < h4.size) → Own hx h4.size e 1 v m xs → pblk p ≠ v.ownBlock := fun {p hx e cs v m xs} hp o ee => by
        obtain ⟨j, hj, hjl⟩ := hp
        rw [hj] at ee
        have := (o.blk _ ee.symm).1
        omega
      have hb4 : ∃ j, pblk p4 = some j ∧ j < h4.size := ⟨_, b1, by omega⟩
      have hb6 : ∃ j, pblk p6 = some j ∧ j < h4.size := ⟨_, b2, by omega⟩
      have hb8 : ∃ j, pblk p8 = some j ∧ j < h4.size := ⟨_, b3, by omega⟩
      have hb10 : ∃ j, pblk p10 = some j ∧ j < h4.size := ⟨_, b4, by omega⟩
      have SB15 := SBb.ext e15
      have SA15 := SAb.ext e15
      have k515 : Only (pblk tp) h h15 := k510.trans ((E14.trans e15).only _)
      have hqB : pB.length < 8 := by omega
      have lA5 : pA.length = i := by have := congrArg List.length mA5; unfold polysL at this; simp only [List.length_map] at this; omega
      have z15 : h4.size ≤ h15.size := Nat.le_trans z5 (Nat.le_trans hz9 (Nat.le_trans hz10 (Nat.le_trans E14.1 e15.1)))
      refine runJ ?_
      (apply (s_append (s := 1) (bytes := 24) (B := h4.size) (m := pB.length) (k' := 1)); exact rfl; exact rfl; exact rfl; exact rfl; exact rfl; exact (by decide); exact rfl; exact rfl; exact SB15.own; exact o15.sl; exact rfl; exact (fun u hu => by rw [List.mem_singleton.1 hu]; exact hvb); exact z15; (simp only [maxLen]; omega); omega)
      intro v16 h16 o16 k16 b16
      refine ⟨trivial, ?_⟩
      have hgB : ∀ j, vB.ownBlock = some j → h.size ≤ j := fun j hj => Nat.le_trans E4.1 (SB15.own.blk j hj).1
      have x116 := (x1b.ext e15).only k16 (hlow4 (cs := []) hb4 SB15.own)
      have x216 := (x2b.ext e15).only k16 (hlow4 (cs := []) hb6 SB15.own)
      have x316 := (x3b.ext e15).only k16 (hlow4 (cs := []) hb8 SB15.own)
      have x416 := (x4b.ext e15).only k16 (hlow4 (cs := []) hb10 SB15.own)
      have hvBa : ∀ k, vB.ownBlock = some k → k < h10.size := fun k hk => (SBa.own.blk k hk).2
      have hp14B : pblk p14 ≠ vB.ownBlock := fun e => by rw [b12] at e; have := hvBa _ e.symm; omega
      have x1416 := (x14'.ext e15).only k16 hp14B
      have k516 := only_own k515 k16 hgB
      have T16 := (T10.ext (E14.trans e15)).own k16 hpk hBl hgB
      have oA16 : OwnF h16 h4.size 56 Prod.fst vA pA := Own.only SA15.own k16 (own_ne9 nBA)
      have eB16 : ∀ x ∈ pB, ∃ p, RowsAt h16 h4.size p x.1 x.2 := fun x hx => by obtain ⟨p, hp⟩ := SB15.el x hx; exact ⟨p, hp.neO SB15.own k16⟩
      have eA16 : ∀ x ∈ pA, ∃ p, RowsAt h16 h4.size p x.1 x.2 := fun x hx => by obtain ⟨p, hp⟩ := SA15.el x hx; exact ⟨p, hp.neO SB15.own k16⟩
      have RB16 := (RB14.ext e15).neO SB15.own k16
      have RA16 := (RA14.ext e15).neO SB15.own k16
      have hv16 := o16.sl.one
      have n16 : v16.ownBlock = none ∨ v16.ownBlock ≠ vA.ownBlock := by
        rcases b16 with b | ⟨b, hb, hbl⟩
        · rw [b]; exact nBA
        · rw [hb]; exact .inr fun e => by have := (SA15.own.blk _ e.symm).2; omega
      refine runJ ?_
      (apply s_storeC; exact rfl; exact rfl; exact hv16; exact rfl; exact rfl; exact x416; exact rfl)
      intro h17 x17 k17
      refine ⟨trivial, ?_⟩
      have x17 : Var h17 p10 42 [v16, vA] := x17
      have x117 := x116.only k17 hp4_10
      have x217 := x216.only k17 hp6_10
      have x317 := x316.only k17 hp8_10
      have hp14_10 : pblk p14 ≠ pblk p10 := by rw [b12, b4]; intro e; have := Option.some.inj e; omega
      have x1417 := x1416.only k17 hp14_10
      have k517 := only_own k516 k17 hge10
      have T17 := T16.own k17 hpk hBl hge10
      have o17 := o16.only k17 (Own.neT o16 x416 rfl)
      have oA17 : OwnF h17 h4.size 56 Prod.fst vA pA := Own.only oA16 k17 (Own.neT oA16 x416 rfl)
      have eB17 : ∀ x ∈ pB, ∃ p, RowsAt h17 h4.size p x.1 x.2 := fun x hx => by obtain ⟨p, hp⟩ := eB16 x hx; exact ⟨p, hp.neS x416 k17⟩
      have eA17 : ∀ x ∈ pA, ∃ p, RowsAt h17 h4.size p x.1 x.2 := fun x hx => by obtain ⟨p, hp⟩ := eA16 x hx; exact ⟨p, hp.neS x416 k17⟩
      have RB17 := RB16.neS x416 k17
      have RA17 := RA16.neS x416 k17
      refine runJ ?_
      (apply (s_litC (s := 1) ([va])); exact rfl; (repeat (first | exact CellsAll.nil | (apply CellsAll.cons; (first | exact oneL (by assumption) | exact oneL (SlF.one (by assumption)) | exact oneL (SlF.one (OwnF.sl (by assumption))) | exact oneL (Var.one (by assumption)) | exact rfl)))); exact rfl; exact rfl; exact rfl; exact rfl; exact rfl; exact rfl; exact rfl; exact rfl; exact rfl; exact rfl)
      intro vl2 h18 o18 e18 b18
      refine ⟨(by first | exact trivial | exact Ext.refl _ | assumption | exact Ext.trans (by assumption) (by assumption)), ?_⟩
      have oA18 := oA17.ext e18
      have o18B := o17.ext e18
      have k518 := k517.trans (e18.only _)
      have z18 : h4.size ≤ h18.size := Nat.le_trans z15 (Nat.le_trans k16.1 (Nat.le_trans k17.1 e18.1))
      refine runJ ?_
      (apply (s_append (s := 1) (bytes := 24) (B := h4.size) (m := pA.length) (k' := 1)); exact rfl; exact rfl; exact rfl; exact rfl; exact rfl; exact (by decide); exact rfl; exact rfl; exact oA18; exact o18.sl; exact rfl; exact (fun u hu => by rw [List.mem_singleton.1 hu]; exact hva); exact z18; (simp only [maxLen]; omega); omega)
      intro v19 h19 o19 k19 b19
      refine ⟨trivial, ?_⟩
      have hgA : ∀ j, vA.ownBlock = some j → h.size ≤ j := fun j hj => Nat.le_trans E4.1 (oA18.blk j hj).1
      have x119 := (x117.ext e18).only k19 (hlow4 (cs := []) hb4 oA18)
      have x219 := (x217.ext e18).only k19 (hlow4 (cs := []) hb6 oA18)
      have x319 := (x317.ext e18).only k19 (hlow4 (cs := []) hb8 oA18)
      have x419 := (x17.ext e18).only k19 (hlow4 (cs := []) hb10 oA18)
      have k519 := only_own k518 k19 hgA
      have T19 := (T17.ext e18).own k19 hpk hBl hgA
      have oB19 := o18B.only k19 n16
      have eB19 : ∀ x ∈ pB, ∃ p, RowsAt h19 h4.size p x.1 x.2 := fun x hx => by obtain ⟨p, hp⟩ := eB17 x hx; exact ⟨p, (hp.ext e18).neO oA18 k19⟩
      have eA19 : ∀ x ∈ pA, ∃ p, RowsAt h19 h4.size p x.1 x.2 := fun x hx => by obtain ⟨p, hp⟩ := eA17 x hx; exact ⟨p, (hp.ext e18).neO oA18 k19⟩
      have RB19 := (RB17.ext e18).neO oA18 k19
      have RA19 := (RA17.ext e18).neO oA18 k19
      have hv19 := o19.sl.one
      have n19 : v16.ownBlock = none ∨ v16.ownBlock ≠ v19.ownBlock := by
        rcases b19 with b | ⟨b, hb, hbl⟩
        · rw [b]; exact n16
        · rw [hb]
          cases h16b : v16.ownBlock with
          | none => exact .inl rfl
          | some k => exact .inr fun e => by cases e; have := (o18B.blk _ h16b).2; omega
      refine runJ ?_
      (apply s_storeC; exact rfl; exact rfl; exact hv19; exact rfl; exact rfl; exact x419; exact rfl)
      intro h20 x20 k20
      refine ⟨trivial, ?_⟩
      have x20 : Var h20 p10 42 [v16, v19] := x20
      have oB20 := oB19.only k20 (Own.neT oB19 x419 rfl)
      have oA20 := o19.only k20 (Own.neT o19 x419 rfl)
      refine runJ ?_
      apply again_normal (i + 1, (v16, pB ++ [(vb, rb)]), (v19, pA ++ [(va, ra)]), ds1, acc ++ [(als, es)])
      · exact (Sub.cons rfl (Sub.cons rfl (Sub.cons rfl (Sub.cons rfl (Sub.cons rfl (Sub.cons rfl (Sub.cons rfl (Sub.cons rfl (Sub.nil _)))))))))
      · refine ⟨only_own k519 k20 hge10, Nat.le_trans z18 (Nat.le_trans k19.1 k20.1), hj, x119.only k20 hp4_10, x219.only k20 hp6_10, x319.only k20 hp8_10, x20, ⟨by unfold OwnF; rw [List.length_append, List.map_append]; exact oB20, fun x hx => ?_⟩, ⟨by unfold OwnF; rw [List.length_append, List.map_append]; exact oA20, fun x hx => ?_⟩, n19, T19.own k20 hpk hBl hge10, by dsimp only; rw [List.length_append, lB5]; rfl, ?_, by dsimp only; rw [List.length_append, la5]; rfl, ?_, fun j ae b hae hb => ?_⟩
        · rcases List.mem_append.1 hx with hx | hx
          · obtain ⟨p, hp⟩ := eB19 x hx; exact ⟨p, hp.neS x419 k20⟩
          · rw [List.mem_singleton.1 hx]; exact ⟨_, RB19.neS x419 k20⟩
        · rcases List.mem_append.1 hx with hx | hx
          · obtain ⟨p, hp⟩ := eA19 x hx; exact ⟨p, hp.neS x419 k20⟩
          · rw [List.mem_singleton.1 hx]; exact ⟨_, RA19.neS x419 k20⟩
        · dsimp only
          unfold polysL at mA5 ⊢
          rw [List.map_append, List.map_append, mA5]
          simp [hma]
        · dsimp only
          rw [hG5, hlen']
          conv => lhs; unfold swG
          rw [hh]
          dsimp only
          cases swG n w qs (qs.length - (i + 1)) ds1 with
          | none => rfl
          | some y => simp
        · dsimp only at hae hb
          unfold polysL at hb
          rw [List.map_append] at hb
          rcases snoc_get hae with ⟨ha1, ha2⟩ | ⟨hji, rfl⟩
          · refine hS5 j ae b ha2 ?_
            rw [List.getElem?_append_left (by rw [List.length_map]; omega)] at hb
            exact hb
          · have hji : j = (pB.map fun x => x.2.map (·.2)).length := by rw [List.length_map]; omega
            rw [hji, List.getElem?_append_right (Nat.le_refl _), Nat.sub_self] at hb
            obtain rfl : rb.map (·.2) = b := Option.some.inj hb
            have hjp : j = i := by rw [List.length_map] at hji; omega
            refine ⟨by rw [List.length_map]; exact lrb, fun k q s' hr ai bk hqk hs hhr hai hbk => ?_⟩
            dsimp only at hai hbk
            rw [List.getElem?_map] at hs hhr hbk
            obtain ⟨q', hq', rfl⟩ := Option.map_eq_some_iff.1 hs
            rw [hqk] at hq'; cases hq'
            obtain ⟨hr', hhr', rfl⟩ := Option.map_eq_some_iff.1 hhr
            obtain ⟨b', hb', rfl⟩ := Option.map_eq_some_iff.1 hbk
            have hk := (List.getElem?_eq_some_iff.1 hqk).1
            obtain ⟨x, hx⟩ := get_lt (l := rh) (j := k) (by omega)
            have := HB k q x ai b' hqk hx hai hb'
            unfold hidR
            rcases grh k x hx with ⟨hki, rfl⟩ | ⟨hki, hx'⟩
            · rw [if_pos (by omega)]
              rw [hki, hf] at hhr'
              cases hhr'
              exact this
            · rw [if_neg (by omega), ← zrh k q x hx' hqk]
              exact this
      · dsimp only; omega
  · have hil : i = qs.length := by omega
    subst hil
    rw [Nat.sub_self] at hG5
    have hG : swG n w qs qs.length ds = some (acc, dsi) := by
      rw [hG5]; simp [swG]
    rw [hG]
    have hvB := SB5.own.sl.one
    have hvA := SA5.own.sl.one
    refine runJ ?_
    (apply s_storeV; exact rfl; exact rfl; exact rfl; exact (OneAll.cons hvB (OneAll.cons hvA OneAll.nil) : OneAll [vB, vA]); exact rfl; exact rfl; exact x35; exact rfl)
    intro h6 x6 k6
    refine ⟨trivial, ?_⟩
    have x6 : Var h6 p8 42 [vB, vA] := x6
    refine runJ ?_
    exact finCT rfl rfl rfl x6 rfl rfl ⟨only_own k5 k6 hge8, vB, vA, pB, pA, rfl, (SB5.neE x35 k6 rfl rfl rfl).base E4.1, (SA5.neE x35 k6 rfl rfl rfl).base E4.1, T5.own k6 hpk hBl hge8, mA5, by unfold polysL; rw [List.length_map]; exact lB5, hS5⟩
end Go.Proofs.YtfcmdefigldpnaaGreatDoor


namespace Go.Proofs.YtfcmdefigldpnaaGreatDoor
set_option linter.unusedVariables false
set_option maxRecDepth 8000
open Go Go.Den Go.RowKit Go.Mth Go.Dig

theorem hidB_uniq {n q : Nat} {s hr a b1 b2 : List Nat} {e : List Int} (h1 : HidB n q s hr a e b1) (h2 : HidB n q s hr a e b2) : b1 = b2 := by
  obtain ⟨z1, c1, rfl⟩ := h1
  obtain ⟨z2, c2, rfl⟩ := h2
  rw [cnv_uniq c1 c2]
theorem swB_uniq {n : Nat} {qs : List Nat} {S H : List (List Nat)} {i : Nat} {ae : List (List Nat) × List Int} {b1 b2 : List (List Nat)} (hS : S.length = qs.length) (hH : H.length = qs.length) (ha : ae.1.length = qs.length) (h1 : SwB n qs S H i ae b1) (h2 : SwB n qs S H i ae b2) : b1 = b2 := by
  obtain ⟨l1, h1⟩ := h1
  obtain ⟨l2, h2⟩ := h2
  refine list_eq (by omega) fun k x y hx hy => ?_
  have hk := (List.getElem?_eq_some_iff.1 hx).1
  obtain ⟨q, hq⟩ := get_lt (l := qs) (j := k) (by omega)
  obtain ⟨s, hs⟩ := get_lt (l := S) (j := k) (by omega)
  obtain ⟨hr, hh⟩ := get_lt (l := H) (j := k) (by omega)
  obtain ⟨ai, hai⟩ := get_lt (l := ae.1) (j := k) (by omega)
  exact hidB_uniq (h1 k q s hr ai x hq hs hh hai hx) (h2 k q s hr ai y hq hs hh hai hy)
theorem swR_uniq {n : Nat} {qs : List Nat} {S H : List (List Nat)} {xs : List (List (List Nat) × List Int)} {B1 A1 B2 A2 : List (List (List Nat))} (hS : S.length = qs.length) (hH : H.length = qs.length) (lx : xs.length = qs.length) (ha : ∀ x ∈ xs, x.1.length = qs.length) (h1 : SwR n qs S H xs B1 A1) (h2 : SwR n qs S H xs B2 A2) : B1 = B2 ∧ A1 = A2 := by
  obtain ⟨a1, l1, h1⟩ := h1
  obtain ⟨a2, l2, h2⟩ := h2
  refine ⟨list_eq (by omega) fun i x y hx hy => ?_, by rw [a1, a2]⟩
  have hi := (List.getElem?_eq_some_iff.1 hx).1
  obtain ⟨ae, hae⟩ := get_lt (l := xs) (j := i) (by omega)
  exact swB_uniq hS hH (ha ae (List.mem_of_getElem? hae)) (h1 i ae x hae hx) (h2 i ae y hae hy)
theorem sqH_uniq {n : Nat} {qs : List Nat} {S H1 H2 : List (List Nat)} (hS : S.length = qs.length) (h1 : SqH n qs S H1) (h2 : SqH n qs S H2) : H1 = H2 := by
  obtain ⟨l1, h1⟩ := h1
  obtain ⟨l2, h2⟩ := h2
  refine list_eq (by omega) fun k x y hx hy => ?_
  have hk := (List.getElem?_eq_some_iff.1 hx).1
  obtain ⟨q, hq⟩ := get_lt (l := qs) (j := k) (by omega)
  obtain ⟨s, hs⟩ := get_lt (l := S) (j := k) (by omega)
  exact cnv_uniq (h1 k q s x hq hs hx) (h2 k q s y hq hs hy)
theorem tuH_uniq {n : Nat} {qs : List Nat} {k : Int} {S H1 H2 : List (List Nat)} (hS : S.length = qs.length) (h1 : TuH n qs k S H1) (h2 : TuH n qs k S H2) : H1 = H2 := by
  obtain ⟨l1, h1⟩ := h1
  obtain ⟨l2, h2⟩ := h2
  refine list_eq (by omega) fun j x y hx hy => ?_
  have hk := (List.getElem?_eq_some_iff.1 hx).1
  obtain ⟨q, hq⟩ := get_lt (l := qs) (j := j) (by omega)
  obtain ⟨s, hs⟩ := get_lt (l := S) (j := j) (by omega)
  rw [h1 j q s x hq hs hx, h2 j q s y hq hs hy]
theorem keysR_uniq {n : Nat} {qs : List Nat} {S : List (List Nat)} {ks : List Int} {xss : List (List (List (List Nat) × List Int))} {B1 A1 B2 A2 : List (List (List Nat))} {t1 t2 : List (Int × List (List (List Nat)) × List (List (List Nat)))} (hS : S.length = qs.length) (lx : xss.length = ks.length + 1) (hx : ∀ xs ∈ xss, xs.length = qs.length ∧ ∀ x ∈ xs, x.1.length = qs.length) (h1 : KeysR n qs S ks xss B1 A1 t1) (h2 : KeysR n qs S ks xss B2 A2 t2) : B1 = B2 ∧ A1 = A2 ∧ t1 = t2 := by
  obtain ⟨⟨H1, x1, q1, e1, r1⟩, m1, g1⟩ := h1
  obtain ⟨⟨H2, x2, q2, e2, r2⟩, m2, g2⟩ := h2
  rw [e1] at e2; cases e2
  have hH := sqH_uniq hS q1 q2
  subst hH
  have hm := hx x1 (List.mem_of_getElem? e1)
  obtain ⟨u1, u2⟩ := swR_uniq hS q1.1 hm.1 hm.2 r1 r2
  have lt1 : t1.length = ks.length := by rw [← m1, List.length_map]
  have lt2 : t2.length = ks.length := by rw [← m2, List.length_map]
  refine ⟨u1, u2, list_eq (by omega) fun j x y hx' hy => ?_⟩
  have hj := (List.getElem?_eq_some_iff.1 hx').1
  obtain ⟨xs, hxs⟩ := get_lt (l := xss) (j := j + 1) (by omega)
  obtain ⟨G1, a1, b1⟩ := g1 j x xs hx' hxs
  obtain ⟨G2, a2, b2⟩ := g2 j y xs hy hxs
  have hk : x.1 = y.1 := by
    have w1 := congrArg (fun l => l[j]?) m1
    have w2 := congrArg (fun l => l[j]?) m2
    simp only [List.getElem?_map, hx', hy, Option.map_some] at w1 w2
    rw [← w2] at w1
    exact Option.some.inj w1
  rw [← hk] at a2
  have hG := tuH_uniq hS a1 a2
  subst hG
  have hm' := hx xs (List.mem_of_getElem? hxs)
  obtain ⟨v1, v2⟩ := swR_uniq hS a1.1 hm'.1 hm'.2 b1 b2
  exact Prod.ext hk (Prod.ext v1 v2)
theorem swG_len {n w : Nat} {qs : List Nat} (hq : ∀ q ∈ qs, 0 < q) : ∀ (k : Nat) (ds : List Nat) (xs : List (List (List Nat) × List Int)) (ds' : List Nat), swG n w qs k ds = some (xs, ds') → xs.length = k ∧ ∀ x ∈ xs, x.1.length = qs.length
  | 0, ds, xs, ds', h => by
    simp only [swG, Option.some.injEq, Prod.mk.injEq] at h
    obtain ⟨rfl, -⟩ := h
    exact ⟨rfl, fun x hx => by cases hx⟩
  | k + 1, ds, xs, ds', h => by
    simp only [swG] at h
    cases h1 : hideG n w qs ds with
    | none => rw [h1] at h; cases h
    | some y =>
      obtain ⟨x, ds1⟩ := y
      rw [h1] at h
      dsimp only at h
      cases h2 : swG n w qs k ds1 with
      | none => rw [h2] at h; cases h
      | some y2 =>
        obtain ⟨xs2, ds2⟩ := y2
        rw [h2] at h
        simp only [Option.some.injEq, Prod.mk.injEq] at h
        obtain ⟨rfl, rfl⟩ := h
        obtain ⟨i1, i2⟩ := swG_len hq k ds1 xs2 ds2 h2
        refine ⟨by simp [i1], fun z hz => ?_⟩
        rcases List.mem_cons.1 hz with rfl | hz
        · unfold hideG at h1
          cases hU : uniG n qs ds with
          | none => rw [hU] at h1; cases h1
          | some u =>
            obtain ⟨a, d1⟩ := u
            rw [hU] at h1
            dsimp only at h1
            cases hE : rowG (firstE w) n d1 with
            | none => rw [hE] at h1; cases h1
            | some v =>
              obtain ⟨e, d2⟩ := v
              rw [hE] at h1
              cases h1
              exact (uniG_all9 qs ds a d1 hq hU).1
        · exact i2 z hz
theorem allsG_len {n w : Nat} {qs : List Nat} (hq : ∀ q ∈ qs, 0 < q) : ∀ (k : Nat) (ds : List Nat) (xss : List (List (List (List Nat) × List Int))) (ds' : List Nat), allsG n w qs k ds = some (xss, ds') → xss.length = k ∧ ∀ xs ∈ xss, xs.length = qs.length ∧ ∀ x ∈ xs, x.1.length = qs.length
  | 0, ds, xs, ds', h => by
    simp only [allsG, Option.some.injEq, Prod.mk.injEq] at h
    obtain ⟨rfl, -⟩ := h
    exact ⟨rfl, fun x hx => by cases hx⟩
  | k + 1, ds, xs, ds', h => by
    simp only [allsG] at h
    cases h1 : swG n w qs qs.length ds with
    | none => rw [h1] at h; cases h
    | some y =>
      obtain ⟨x, ds1⟩ := y
      rw [h1] at h
      dsimp only at h
      cases h2 : allsG n w qs k ds1 with
      | none => rw [h2] at h; cases h
      | some y2 =>
        obtain ⟨xs2, ds2⟩ := y2
        rw [h2] at h
        simp only [Option.some.injEq, Prod.mk.injEq] at h
        obtain ⟨rfl, rfl⟩ := h
        obtain ⟨i1, i2⟩ := allsG_len hq k ds1 xs2 ds2 h2
        refine ⟨by simp [i1], fun z hz => ?_⟩
        rcases List.mem_cons.1 hz with rfl | hz
        · exact swG_len hq _ ds z ds1 h1
        · exact i2 z hz
end Go.Proofs.YtfcmdefigldpnaaGreatDoor

