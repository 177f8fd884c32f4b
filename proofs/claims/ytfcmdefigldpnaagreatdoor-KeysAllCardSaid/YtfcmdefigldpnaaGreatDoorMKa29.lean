/- Texts RkyD to DenU of this work, joined, without what the law does not lean on. -/
import Derived.Test.YtfcmdefigldpnaaGreatDoorMKa28
namespace Go.Proofs.YtfcmdefigldpnaaGreatDoor
set_option linter.unusedVariables false
set_option maxRecDepth 8000
open Go Go.Den Go.RowKit Go.Mth Go.Dig

theorem Tryz_ent14 : Ent Tryz.prog 14 := ent_of Tryz.func14 (by kernel_rfl) rfl
set_option maxHeartbeats 8000000 in
theorem allR_spec (n t w : Nat) (vq vs vk tp : Value) (qs : List Nat) (ss ks : List Int) (B : Option Nat) (ds : List Nat) (h : Hp) (T : TapR h tp B ds false) (sq : SlF h U vq qs) (nq : vq.ownBlock = none ∨ vq.ownBlock ≠ pblk tp) (s : SlF h I vs ss) (ns : vs.ownBlock = none ∨ vs.ownBlock ≠ pblk tp) (hsn : ss.length = n) (hsb : ∀ x ∈ ss, -9223372036854775808 ≤ x ∧ x < 9223372036854775808)
    (sk : SlF h I vk ks) (nk : ks = [] ∨ (vk.ownBlock = none ∨ vk.ownBlock ≠ pblk tp)) (hlk : ks.length < 1048576) (hkb : ∀ x ∈ ks, -9223372036854775808 ≤ x ∧ x < 9223372036854775808)
    (hn1 : 2 ≤ n) (hn : n ≤ 512) (h0 : 0 < qs.length) (h8 : qs.length ≤ 8) (hq : ∀ q ∈ qs, 1 < q ∧ q < 18446744073709551616) (hw : 1 ≤ w) (hw16 : w ≤ 16) :
    CallsH Tryz.prog 14 [.agg #[N n, U t, vq, N w], vs, vk, tp] h fun v' h' => Only (pblk tp) h h' ∧ match allsG n w qs (ks.length + 1) ds with
      | none => v' = .tuple #[.agg #[.slice none 0 0, .slice none 0 0, .slice none 0 0], N 11] ∧ ∃ ds, TapR h' tp B ds true
      | some (xss, ds') => ∃ vB vA vT pB pA ts, v' = .tuple #[.agg #[vB, vA, vT], N 0] ∧ SwAt h' h.size vB pB ∧ SwAt h' h.size vA pA ∧ TurnsAt h' h.size vT ts ∧ TapR h' tp B ds' false ∧ KeysR n qs (qs.map (liftL ss)) ks xss (polysL pB) (polysL pA) (turnsL ts) := by
  obtain ⟨tk, htk, htl⟩ := T.pb
  have hBl := T.bl
  have hpk : ∀ j, pblk tp = some j → j < h.size := fun j hj => by rw [htk] at hj; cases hj; exact htl
  (apply enter Tryz.func14 rfl Tryz.ntmps14 rfl)
  refine runJ ?_
  (apply s_box; exact rfl; exact rfl; exact rfl; exact rfl)
  intro p4 h1 x1 e1 b1
  (try dsimp only [Value.cells, List.toList_toArray] at x1)
  refine ⟨(by first | exact trivial | exact Ext.refl _ | assumption | exact Ext.trans (by assumption) (by assumption)), ?_⟩
  refine runJ ?_
  (apply s_alloc; exact rfl; exact rfl; exact rfl)
  intro p8 h2 x2 e2 b2
  (try dsimp only [Value.cells, List.toList_toArray] at x2)
  refine ⟨(by first | exact trivial | exact Ext.refl _ | assumption | exact Ext.trans (by assumption) (by assumption)), ?_⟩
  refine runJ ?_
  (apply s_alloc; exact rfl; exact rfl; exact rfl)
  intro p10 h3 x3 e3 b3
  (try dsimp only [Value.cells, List.toList_toArray] at x3)
  refine ⟨(by first | exact trivial | exact Ext.refl _ | assumption | exact Ext.trans (by assumption) (by assumption)), ?_⟩
  have E3 := (e1.trans e2).trans e3
  have x13 := (x1.ext e2).ext e3
  have x23 := x2.ext e3
  have hq1 : ∀ q ∈ qs, 0 < q ∧ q < 18446744073709551616 := fun q h => by have := hq q h; omega
  refine runJN ?_
  (apply (r_drawnCl (fun x => Two (some tk) (pblk p10) h3 x ∧ Var x p4 28 [N n, U t, vq, N w])); exact rfl; exact mixed; kernel_rfl; exact ⟨Two.refl _ _ _, x13⟩)
  refine runJ ?_
  refine s_loadV rfl rfl (rd_cl fun h' hc => hc.2) rfl rfl ?_
  refine runJ ?_
  refine s_loadV rfl rfl (rd_cl fun h' hc => hc.2) rfl rfl ?_
  refine runJ ?_
  apply (s_call Tryz_ent41 rfl rfl rfl)
  refine (squareR_spec n t w vq vs qs ss h3 (sq.ext E3) (s.ext E3) hsn hsb (by omega) hn h0 h8 hq).mono ?_
  rintro _ h4 ⟨e4, vsq, rsq, psq, rfl, RQ, SQ⟩
  refine ⟨(by first | exact trivial | exact ⟨Two.ofExt e4, x13.ext e4⟩), ?_⟩
  have E4 := E3.trans e4
  have x14 := x13.ext e4
  have x24 := x23.ext e4
  have x34 := x3.ext e4
  have hs1 : h.size < h1.size := by obtain ⟨j, hj, hl⟩ := x1.blk; rw [b1] at hj; cases hj; exact hl
  have hs2 : h1.size < h2.size := by obtain ⟨j, hj, hl⟩ := x2.blk; rw [b2] at hj; cases hj; exact hl
  have hs3 : h2.size < h3.size := by obtain ⟨j, hj, hl⟩ := x3.blk; rw [b3] at hj; cases hj; exact hl
  have hp4t : pblk p4 ≠ pblk tp := by rw [b1, htk]; intro e; have := Option.some.inj e; omega
  have hp8t : pblk p8 ≠ pblk tp := by rw [b2, htk]; intro e; have := Option.some.inj e; omega
  have hp10t : pblk p10 ≠ pblk tp := by rw [b3, htk]; intro e; have := Option.some.inj e; omega
  have hp4_10 : pblk p4 ≠ pblk p10 := by rw [b1, b3]; intro e; have := Option.some.inj e; omega
  have hp8_10 : pblk p8 ≠ pblk p10 := by rw [b2, b3]; intro e; have := Option.some.inj e; omega
  have hge8 : ∀ j, pblk p8 = some j → h.size ≤ j := fun j hj => by rw [b2] at hj; have := Option.some.inj hj; omega
  have hge10 : ∀ j, pblk p10 = some j → h.size ≤ j := fun j hj => by rw [b3] at hj; have := Option.some.inj hj; omega
  have lowt : ∀ {z : Nat} (v : Value), h.size ≤ z → (∀ k, v.ownBlock = some k → z ≤ k) → v.ownBlock = none ∨ v.ownBlock ≠ pblk tp := fun {z} v hz hv => by
    cases hb : v.ownBlock with
    | none => exact .inl rfl
    | some j => exact .inr fun e => by rw [htk] at e; cases e; have := hv _ hb; omega
  have lsq : rsq.length = qs.length := by have := SQ.1; rwa [List.length_map] at this
  have fQ : ∀ (i q : Nat) (x : Value × List Nat), rsq[i]? = some x → qs[i]? = some q → Fit n q x.2 := fun i q x hx hqi =>
    (SQ.2 i q (liftL ss q) x.2 hqi (by rw [List.getElem?_map, hqi]; rfl) (by rw [List.getElem?_map, hx]; rfl)).1
  refine runJ ?_
  apply (s_call Tryz_ent40 rfl rfl rfl)
  refine (switchR_spec n t w vq vs vsq tp qs ss B ds rsq h4 (T.ext E4) (sq.ext E4) nq (s.ext E4) ns hsn hsb RQ.pol lsq (lowt _ E3.1 fun k hk => (RQ.own.blk k hk).1) (fun x hx => lowt _ E3.1 fun k hk => ((RQ.el x hx).blk k hk).1) fQ hn1 hn h0 h8 hq hw hw16).mono ?_
  rintro r h5 ⟨k5, G5⟩
  refine ⟨(by first | exact trivial | exact ⟨by rw [← htk]; exact (Two.ofExt e4).trans (only_two1 k5), x14.only k5 hp4t⟩), ?_⟩
  have x15 := x14.only k5 hp4t
  have x25 := x24.only k5 hp8t
  have x35 := x34.only k5 hp10t
  have K5 : Only (pblk tp) h h5 := (E4.only _).trans k5
  cases hw0 : swG n w qs qs.length ds with
  | none =>
    rw [hw0] at G5
    obtain ⟨rfl, dso, T5⟩ := G5
    have hN : allsG n w qs (ks.length + 1) ds = none := by unfold allsG; rw [hw0]
    rw [hN]
    refine runJ ?_
    (apply s_storeP; exact rfl; exact rfl; exact rfl; exact (OneAll.cons rfl (OneAll.cons rfl OneAll.nil) : OneAll [.slice none 0 0, .slice none 0 0]); exact rfl; exact rfl; exact x35; exact rfl)
    intro h6 x6 k6
    have x16 := x15.only k6 hp4_10
    refine ⟨⟨by rw [← htk]; exact ((Two.ofExt e4).trans (only_two1 k5)).trans (only_two2 k6), x16⟩, ?_⟩
    have x26 := x25.only k6 hp8_10
    have K6 := only_own K5 k6 hge10
    have T6 := T5.own k6 hpk hBl hge10
    refine runJ ?_
    (apply (s_build ([.slice none 0 0, .slice none 0 0, .slice none 0 0])); exact rfl; exact rfl; exact rfl; (repeat (first | exact CellsAll.nil | (apply CellsAll.cons; (first | exact oneL (by assumption) | exact oneL (SlF.one (by assumption)) | exact oneL (SlF.one (OwnF.sl (by assumption))) | exact oneL (Var.one (by assumption)) | exact rfl)))); exact rfl; exact rfl)
    refine runJ ?_
    (apply s_storeV; exact rfl; exact rfl; exact rfl; exact (OneAll.cons rfl (OneAll.cons rfl (OneAll.cons rfl OneAll.nil)) : OneAll [.slice none 0 0, .slice none 0 0, .slice none 0 0]); exact rfl; exact rfl; exact x26; exact rfl)
    intro h7 x7 k7
    refine ⟨trivial, ?_⟩
    have x7 : Var h7 p8 45 [.slice none 0 0, .slice none 0 0, .slice none 0 0] := x7
    refine runJ ?_
    exact finCT rfl rfl rfl x7 rfl rfl ⟨only_own K6 k7 hge8, rfl, _, T6.own k7 hpk hBl hge8⟩
  | some y =>
    obtain ⟨xs0, ds1⟩ := y
    rw [hw0] at G5
    obtain ⟨vB, vA, pB, pA, rfl, SB5, SA5, T5, HS5⟩ := G5
    have hvB := SB5.own.sl.one
    have hvA := SA5.own.sl.one
    refine runJ ?_
    (apply s_storeP; exact rfl; exact rfl; exact rfl; exact (OneAll.cons hvB (OneAll.cons hvA OneAll.nil) : OneAll [vB, vA]); exact rfl; exact rfl; exact x35; exact rfl)
    intro h6 x6 k6
    have x6 : Var h6 p10 45 [vB, vA, .slice none 0 0] := x6
    have x16 := x15.only k6 hp4_10
    refine ⟨⟨by rw [← htk]; exact ((Two.ofExt e4).trans (only_two1 k5)).trans (only_two2 k6), x16⟩, ?_⟩
    have x26 := x25.only k6 hp8_10
    have K6 := only_own K5 k6 hge10
    have T6 := T5.own k6 hpk hBl hge10
    have SB6 := (SB5.neE x35 k6 rfl rfl rfl).base E4.1
    have SA6 := (SA5.neE x35 k6 rfl rfl rfl).base E4.1
    have hA0 : allsG n w qs (ks.length + 1) ds = match allsG n w qs ks.length ds1 with
        | none => none
        | some (ys, ds') => some (xs0 :: ys, ds') := by
      conv => lhs; unfold allsG
      rw [hw0]
      dsimp only
      cases allsG n w qs ks.length ds1 with
      | none => rfl
      | some y => rfl
    have sk6 := slf_onlyK sk K6 nk
    refine runJ ?_
    (first | (apply w_seqB; exact rfl; apply w_block; exact rfl) | skip)
    apply (w_loop (σ := Nat × Value × List TurnV × List Nat × List (List (List (List Nat) × List Int))) rfl (fun s => [(1, vs), (3, tp), (4, p4), (8, p8), (10, p10), (31, vk), (32, N ks.length), (33, N s.1)])
      (fun s h' => Only (pblk tp) h h' ∧ s.1 ≤ ks.length ∧ Var h' p4 28 [N n, U t, vq, N w] ∧ Var h' p8 45 [.slice none 0 0, .slice none 0 0, .slice none 0 0] ∧ Var h' p10 45 [vB, vA, s.2.1] ∧ SwAt h' h.size vB pB ∧ SwAt h' h.size vA pA ∧ TurnsAt h' h.size s.2.1 s.2.2.1 ∧ TapR h' tp B s.2.2.2.1 false ∧ s.2.2.1.map (·.1) = ks.take s.1 ∧ s.2.2.2.2.length = s.1 ∧
        (allsG n w qs ks.length ds1 = match allsG n w qs (ks.length - s.1) s.2.2.2.1 with
          | none => none
          | some (ys, ds') => some (s.2.2.2.2 ++ ys, ds')) ∧
        ∀ (j : Nat) (t : TurnV) (xs : List (List (List Nat) × List Int)), s.2.2.1[j]? = some t → s.2.2.2.2[j]? = some xs → ∃ H, TuH n qs t.1 (qs.map (liftL ss)) H ∧ SwR n qs (qs.map (liftL ss)) H xs (polysL t.2.1.2) (polysL t.2.2.2))
      (fun s => ks.length - s.1) (0, .slice none 0 0, [], ds1, []))
    · exact (Sub.cons rfl (Sub.cons rfl (Sub.cons rfl (Sub.cons rfl (Sub.cons rfl (Sub.cons rfl (Sub.cons rfl (Sub.cons rfl (Sub.nil _)))))))))
    · refine ⟨K6, Nat.zero_le _, x16, x26, x6, SB6, SA6, ⟨Own.nil _ _ _ _, fun x hx => by cases hx⟩, T6, rfl, rfl, ?_, fun j t xs hj => by cases hj⟩
      dsimp only
      rw [Nat.sub_zero]
      cases allsG n w qs ks.length ds1 with
      | none => rfl
      | some y => rfl
    rintro ⟨i, vT, ts, dsi, acc⟩ h9 ⟨k9, i9, x19, x29, x39, SB9, SA9, ST9, T9, mT9, la9, hG9, hS9⟩
    dsimp only at k9 i9 x19 x29 x39 SB9 SA9 ST9 T9 mT9 la9 hG9 hS9 ⊢
    have sk9 := slf_onlyK sk k9 nk
    have hvT := ST9.own.sl.one
    refine runJ ?_
    (apply w_condD; exact rfl; exact rfl) <;> intro hj
    · obtain ⟨x, hx⟩ := get_lt hj
      have hxb := hkb x (List.mem_of_getElem? hx)
      have hz9 := k9.1
      have s9 := s.only k9 ns
      have sq9 := sq.only k9 nq
      have PV : ∀ h', Only (pblk tp) h9 h' → Var h' p4 28 [N n, U t, vq, N w] := fun h' c => x19.only c hp4t
      refine runJN ?_
      refine r_drawnKR (h := h9) (Only (pblk tp) h9) (fun i => Nat.beq i 11) (fun _ => false) (Only (pblk tp)) (fun _ p g => Var g p 42 [.slice none 0 0, .slice none 0 0] ∧ ∃ b, pblk p = some b ∧ h9.size ≤ b) rfl mixed (by kernel_rfl) (fun _ _ e => e.only _) (fun _ p _ _ a e => ⟨a.1.only e (by obtain ⟨b, hb, hbl⟩ := a.2; rw [hb, htk]; intro q; cases q; omega), a.2⟩) (Only.refl _ _) ?_
      refine k_run (j := 5) h9 rfl rfl (by kernel_rfl) (by kernel_rfl) ?_
      refine runJ ?_
      refine ⟨⟨rfl, ?_⟩⟩
      refine k_call rfl rfl rfl rfl Tryz_ent42 rfl ?_
      intro g1 hC1 hD1 hT1
      refine (turnedR_spec n t w vq vs qs ss x g1 (sq9.ext hD1) (s9.ext hD1) hsn hsb hn1 hn h0 h8 hq hxb).mono ?_
      rintro _ g2 ⟨f2, vtu, rtu, ptu, rfl, RT, CT⟩
      refine ⟨hC1.trans (f2.only _), .inl ⟨f2.only _, ?_⟩⟩
      have lT : rtu.length = qs.length := by have := CT.1; rwa [List.length_map] at this
      have fT : ∀ (i q : Nat) (y : Value × List Nat), rtu[i]? = some y → qs[i]? = some q → Fit n q y.2 := fun i q y hy hqi => by
        have hqq := hq q (List.mem_of_getElem? hqi)
        have e := CT.2 i q (liftL ss q) y.2 hqi (by rw [List.getElem?_map, hqi]; rfl) (by rw [List.getElem?_map, hy]; rfl)
        rw [e]
        refine turnL_fit (by omega) (by omega) fun a ha => ?_
        unfold liftL at ha
        obtain ⟨z, -, rfl⟩ := List.mem_map.1 ha
        exact liftm_lt9 (by omega)
      have hz1 : h.size ≤ g1.size := Nat.le_trans hz9 hD1.1
      have hlen' : ks.length - i = (ks.length - (i + 1)) + 1 := by omega
      refine k_run (j := 7) g2 rfl rfl (by kernel_rfl) (by kernel_rfl) ?_
      refine runJ ?_
      refine ⟨⟨rfl, ?_⟩⟩
      refine k_call rfl rfl rfl rfl Tryz_ent40 rfl ?_
      intro g3 hC3 hD3 hT3
      have E93 : Ext h9 g3 := (hD1.trans f2).trans hD3
      refine (switchR_spec n t w vq vs vtu tp qs ss B dsi rtu g3 (T9.ext E93) (sq9.ext E93) nq (s9.ext E93) ns hsn hsb (RT.ext hD3).pol lT (lowt _ hz1 fun k hk => (RT.own.blk k hk).1) (fun y hy => lowt _ hz1 fun k hk => ((RT.el y hy).blk k hk).1) fT hn1 hn h0 h8 hq hw hw16).mono ?_
      rintro r g4 ⟨k4, G4⟩
      refine ⟨hC3.trans k4, .inl ⟨k4, ?_⟩⟩
      have hz93 : h.size ≤ g3.size := Nat.le_trans hz9 E93.1
      have hgp : ∀ {p : Value}, (∃ b, pblk p = some b ∧ h9.size ≤ b) → (∀ j, pblk p = some j → h9.size ≤ j) ∧ ∀ j, pblk p = some j → h.size ≤ j := fun {p} hp => by
        obtain ⟨b, hb, hbl⟩ := hp
        exact ⟨fun j hj => by rw [hb] at hj; cases hj; exact hbl, fun j hj => by rw [hb] at hj; cases hj; exact Nat.le_trans hz9 hbl⟩
      cases hw9 : swG n w qs qs.length dsi with
      | none =>
        rw [hw9] at G4
        obtain ⟨rfl, dso, T4⟩ := G4
        have hN : allsG n w qs (ks.length + 1) ds = none := by
          rw [hA0, hG9, hlen']; unfold allsG; rw [hw9]
        rw [hN]
        refine k_run (j := 11) g4 rfl rfl (by kernel_rfl) (by kernel_rfl) ?_
        refine runJ ?_
        refine ⟨⟨rfl, ?_⟩⟩
        refine k_alloc rfl rfl rfl rfl rfl (fun g p g' hC x e b => ⟨hC.trans (e.only _), x, _, b, hC.1⟩) ?_
        intro p14
        refine k_storeV (p := p14) (u := .agg #[.slice none 0 0, .slice none 0 0]) (us := [.slice none 0 0, .slice none 0 0]) (cs := [.slice none 0 0, .slice none 0 0]) (fun g => Only (pblk tp) h9 g ∧ TapR g tp B dso true) rfl rfl rfl rfl rfl rfl (OneAll.cons rfl (OneAll.cons rfl OneAll.nil)) rfl rfl (by kernel_rfl) (fun _ _ a e => ⟨a.1.trans (e.only _), a.2.ext e⟩) (fun g hC hD hT => (hT (11, p14) (by simp)).1) (fun g g' hC hD hT x k => ?_) ?_
        · obtain ⟨xo, hb⟩ := hT (11, p14) (by simp)
          have e' := only_own hC k (hgp hb).1
          exact ⟨e', e', (T4.ext hD).own k hpk hBl (hgp hb).2⟩
        refine k_run (j := 14) g4 rfl rfl (by kernel_rfl) (by kernel_rfl) ?_
        refine runJ ?_
        refine ⟨⟨rfl, ?_⟩⟩
        refine k_done rfl ?_
        rintro h10 hC10 ⟨k10, T10⟩ -
        have k010 := k9.trans k10
        have x210 := x29.only k10 hp8t
        refine runJ ?_
        (apply (s_build ([.slice none 0 0, .slice none 0 0, .slice none 0 0])); exact rfl; exact rfl; exact rfl; (repeat (first | exact CellsAll.nil | (apply CellsAll.cons; (first | exact oneL (by assumption) | exact oneL (SlF.one (by assumption)) | exact oneL (SlF.one (OwnF.sl (by assumption))) | exact oneL (Var.one (by assumption)) | exact rfl)))); exact rfl; exact rfl)
        refine runJ ?_
        (apply s_storeV; exact rfl; exact rfl; exact rfl; exact (OneAll.cons rfl (OneAll.cons rfl (OneAll.cons rfl OneAll.nil)) : OneAll [.slice none 0 0, .slice none 0 0, .slice none 0 0]); exact rfl; exact rfl; exact x210; exact rfl)
        intro h11 x11 k11
        refine ⟨trivial, ?_⟩
        have x11 : Var h11 p8 45 [.slice none 0 0, .slice none 0 0, .slice none 0 0] := x11
        refine runJ ?_
        exact finCT rfl rfl rfl x11 rfl rfl ⟨only_own k010 k11 hge8, rfl, _, T10.own k11 hpk hBl hge8⟩
      | some y =>
        obtain ⟨xs1, ds2⟩ := y
        rw [hw9] at G4
        obtain ⟨vb, va, pb, pa, rfl, SB4, SA4, T4, HS4⟩ := G4
        have hvb := SB4.own.sl.one
        have hva := SA4.own.sl.one
        refine k_run (j := 11) g4 rfl rfl (by kernel_rfl) (by kernel_rfl) ?_
        refine runJ ?_
        refine ⟨⟨rfl, ?_⟩⟩
        refine k_alloc rfl rfl rfl rfl rfl (fun g p g' hC x e b => ⟨hC.trans (e.only _), x, _, b, hC.1⟩) ?_
        intro p14
        refine k_storeV (p := p14) (u := .agg #[vb, va]) (us := [vb, va]) (cs := [.slice none 0 0, .slice none 0 0]) (fun g => Only (pblk tp) h9 g ∧ TapR g tp B ds2 false ∧ Var g p14 42 [vb, va] ∧ SwAt g h.size vb pb ∧ SwAt g h.size va pa) rfl rfl rfl rfl rfl rfl (OneAll.cons hvb (OneAll.cons hva OneAll.nil)) rfl rfl (by kernel_rfl) (fun _ _ a e => ⟨a.1.trans (e.only _), a.2.1.ext e, a.2.2.1.ext e, a.2.2.2.1.ext e, a.2.2.2.2.ext e⟩) (fun g hC hD hT => (hT (11, p14) (by simp)).1) (fun g g' hC hD hT x k => ?_) ?_
        · obtain ⟨xo, hb⟩ := hT (11, p14) (by simp)
          have e' := only_own hC k (hgp hb).1
          exact ⟨e', e', (T4.ext hD).own k hpk hBl (hgp hb).2, x, ((SB4.ext hD).neE xo k rfl rfl rfl).base hz93, ((SA4.ext hD).neE xo k rfl rfl rfl).base hz93⟩
        refine k_run (j := 14) g4 rfl rfl (by kernel_rfl) (by kernel_rfl) ?_
        refine runJ ?_
        refine ⟨⟨rfl, ?_⟩⟩
        refine k_done rfl ?_
        rintro h10 hC10 ⟨k10, T10, x10, SBn, SAn⟩ -
        have k010 := k9.trans k10
        have x210 := x29.only k10 hp8t
        have x110 := x19.only k10 hp4t
        have x310 := x39.only k10 hp10t
        have k10' : Only (some tk) h9 h10 := by rw [← htk]; exact k10
        have SBb := SB9.low k10' htl
        have SAb := SA9.low k10' htl
        have STb := ST9.low k10' htl
        refine runJ ?_
        (apply (s_build ([I x, vb, va])); exact rfl; exact rfl; exact rfl; (repeat (first | exact CellsAll.nil | (apply CellsAll.cons; (first | exact oneL (by assumption) | exact oneL (SlF.one (by assumption)) | exact oneL (SlF.one (OwnF.sl (by assumption))) | exact oneL (Var.one (by assumption)) | exact rfl)))); exact rfl; exact rfl)
        refine runJ ?_
        (apply (s_litC (s := 3) ([I x, vb, va])); exact rfl; (repeat (first | exact CellsAll.nil | (apply CellsAll.cons; (first | exact oneL (by assumption) | exact oneL (SlF.one (by assumption)) | exact oneL (SlF.one (OwnF.sl (by assumption))) | exact oneL (Var.one (by assumption)) | exact rfl)))); exact rfl; exact rfl; exact rfl; exact rfl; exact rfl; exact rfl; exact rfl; exact rfl; exact rfl; exact rfl)
        intro vl h14 o14 e14 b14
        refine ⟨(by first | exact trivial | exact Ext.refl _ | assumption | exact Ext.trans (by assumption) (by assumption)), ?_⟩
        have x1d := x110.ext e14
        have x2d := x210.ext e14
        have x3d := x310.ext e14
        have STd := STb.ext e14
        have SBd := SBb.ext e14
        have SAd := SAb.ext e14
        have SBe := SBn.ext e14
        have SAe := SAn.ext e14
        have k14 : Only (pblk tp) h h14 := k010.trans (e14.only _)
        have T14 := T10.ext e14
        have hlts : ts.length = i := by
          have := congrArg List.length mT9
          rw [List.length_map, List.length_take] at this; omega
        refine runJ ?_
        (apply (s_append (s := 3) (bytes := 56) (B := h.size) (m := ts.length) (k' := 1)); exact rfl; exact rfl; exact rfl; exact rfl; exact rfl; exact (by decide); exact rfl; exact rfl; exact STd.own; exact o14.sl; exact rfl; exact (fun u hu => by
          rcases List.mem_cons.1 hu with rfl | hu
          · rfl
          rcases List.mem_cons.1 hu with rfl | hu
          · exact hvb
          rw [List.mem_singleton.1 hu]; exact hva); exact k14.1; (simp only [maxLen]; omega); omega)
        intro v15 h15 o15 k15 b15
        refine ⟨trivial, ?_⟩
        have hv15 := o15.sl.one
        have hgeT : ∀ j, vT.ownBlock = some j → h.size ≤ j := fun j hj => (STd.own.blk j hj).1
        have x1e := x1d.only k15 (var_ne9 x1d (Own.neT STd.own x1d rfl))
        have x2e := x2d.only k15 (var_ne9 x2d (Own.neT STd.own x2d rfl))
        have x3e := x3d.only k15 (var_ne9 x3d (Own.neT STd.own x3d rfl))
        have k015 := only_own k14 k15 hgeT
        have T15 := T14.own k15 hpk hBl hgeT
        have SBf := SBd.neW STd.own k15 rfl rfl rfl
        have SAf := SAd.neW STd.own k15 rfl rfl rfl
        have SBg := SBe.neW STd.own k15 rfl rfl rfl
        have SAg := SAe.neW STd.own k15 rfl rfl rfl
        have STe : ∀ y ∈ ts, SwAt h15 h.size y.2.1.1 y.2.1.2 ∧ SwAt h15 h.size y.2.2.1 y.2.2.2 := fun y hy => ⟨(STd.el y hy).1.neW STd.own k15 rfl rfl rfl, (STd.el y hy).2.neW STd.own k15 rfl rfl rfl⟩
        refine runJ ?_
        (apply s_storeC; exact rfl; exact rfl; exact hv15; exact rfl; exact rfl; exact x3e; exact rfl)
        intro h16 x16 k16
        refine ⟨trivial, ?_⟩
        have x16 : Var h16 p10 45 [vB, vA, v15] := x16
        refine runJ ?_
        apply again_normal (i + 1, v15, ts ++ [(x, (vb, pb), (va, pa))], ds2, acc ++ [xs1])
        · exact (Sub.cons rfl (Sub.cons rfl (Sub.cons rfl (Sub.cons rfl (Sub.cons rfl (Sub.cons rfl (Sub.cons rfl (Sub.cons rfl (Sub.nil _)))))))))
        · refine ⟨only_own k015 k16 hge10, hj, x1e.only k16 hp4_10, x2e.only k16 hp8_10, x16, SBf.neE x3e k16 rfl rfl rfl, SAf.neE x3e k16 rfl rfl rfl, ⟨?_, fun y hy => ?_⟩, T15.own k16 hpk hBl hge10, ?_, by dsimp only; rw [List.length_append, la9]; rfl, ?_, fun j t' xs hjt hjx => ?_⟩
          · dsimp only
            rw [List.length_append, List.flatMap_append]
            exact o15.only k16 (Own.neT o15 x3e rfl)
          · rcases List.mem_append.1 hy with hy | hy
            · exact ⟨(STe y hy).1.neE x3e k16 rfl rfl rfl, (STe y hy).2.neE x3e k16 rfl rfl rfl⟩
            · rw [List.mem_singleton.1 hy]
              exact ⟨SBg.neE x3e k16 rfl rfl rfl, SAg.neE x3e k16 rfl rfl rfl⟩
          · dsimp only
            rw [List.map_append, mT9, take_snoc hx]; rfl
          · dsimp only
            rw [hG9, hlen']
            conv => lhs; unfold allsG
            rw [hw9]
            dsimp only
            cases allsG n w qs (ks.length - (i + 1)) ds2 with
            | none => rfl
            | some y => simp
          · dsimp only at hjt hjx
            rcases snoc_get hjx with ⟨ha1, ha2⟩ | ⟨hji, rfl⟩
            · refine hS9 j t' xs ?_ ha2
              rw [List.getElem?_append_left (by omega)] at hjt
              exact hjt
            · have hji : j = ts.length := by omega
              rw [hji, List.getElem?_append_right (Nat.le_refl _), Nat.sub_self] at hjt
              cases hjt
              exact ⟨rtu.map (·.2), CT, HS4⟩
        · dsimp only; omega
    · have hil : i = ks.length := by omega
      subst hil
      rw [Nat.sub_self] at hG9
      have hG : allsG n w qs (ks.length + 1) ds = some (xs0 :: acc, dsi) := by
        rw [hA0, hG9]; simp [allsG]
      rw [hG]
      refine runJ ?_
      (apply s_storeV; exact rfl; exact rfl; exact rfl; exact (OneAll.cons hvB (OneAll.cons hvA (OneAll.cons hvT OneAll.nil)) : OneAll [vB, vA, vT]); exact rfl; exact rfl; exact x29; exact rfl)
      intro h10 x10 k10
      refine ⟨trivial, ?_⟩
      have x10 : Var h10 p8 45 [vB, vA, vT] := x10
      refine runJ ?_
      rw [List.take_length] at mT9
      refine finCT rfl rfl rfl x10 rfl rfl ⟨only_own k9 k10 hge8, vB, vA, vT, pB, pA, ts, rfl, SB9.neE x29 k10 rfl rfl rfl, SA9.neE x29 k10 rfl rfl rfl, ST9.neE x29 k10 rfl rfl rfl rfl, T9.own k10 hpk hBl hge8, ⟨rsq.map (·.2), xs0, SQ, rfl, HS5⟩, ?_, fun j t' xs hjt hjx => ?_⟩
      · unfold turnsL
        rw [List.map_map, ← mT9]; rfl
      · unfold turnsL at hjt
        rw [List.getElem?_map] at hjt
        obtain ⟨tv, htv, rfl⟩ := Option.map_eq_some_iff.1 hjt
        rw [List.getElem?_cons_succ] at hjx
        exact hS9 j tv xs htv hjx
end Go.Proofs.YtfcmdefigldpnaaGreatDoor


namespace Go.Den
set_option linter.unusedVariables false
set_option maxRecDepth 8000
open Go Go.RowKit

section rules
variable {P : Program} {n : Nat} {Q : Post} {l : Fr} {h : Hp} {ops : List Oper} {Ch : Hp → Prop} {E : Nat → Bool} {i d : Nat} {x y : Operand}
theorem s_remU8 {a b : Nat} {t yt : TypeId} (hx : IsK (ev l x) .u8 a) (hy : IsK (ev l y) .u8 b) (hb : Nat.blt d n = true) (hn : 0 < b)
    (q : S P n ops Ch E Q (i + 1) ((d, .int .u8 ((a % b : Nat) : Int)) :: l) h) : O P n ops Ch E Q i d (.binOp .rem t x y yt) l h :=
  s_bin hx.h hy.h hb (fun w' => by
    show (Op.intDiv .rem .u8 (a : Int) (b : Int)).run P w' = _
    unfold Op.intDiv
    rw [if_neg (by omega)]
    show Result.ok (Value.int .u8 ((a : Int).tmod b)) w' = _
    rw [← Int.ofNat_tmod]) q
end rules
end Go.Den


namespace Go.Proofs.YtfcmdefigldpnaaGreatDoor
set_option linter.unusedVariables false
set_option maxRecDepth 8000
open Go Go.Den Go.RowKit Go.Mth

/-- The odd part, and how often 2 goes into a number. -/
def spl : Nat → Nat → Nat → Nat × Nat
  | 0, d, s => (d, s)
  | k + 1, d, s => if d % 2 = 0 then spl k (d / 2) (s + 1) else (d, s)
theorem spl_odd {d : Nat} (h : ¬ d % 2 = 0) : ∀ (k s : Nat), spl k d s = (d, s)
  | 0, _ => rfl
  | k + 1, s => by unfold spl; rw [if_neg h]
def strongR (n a : Nat) : Bool := powm a (spl 64 (n - 1) 0).1 n == 1 || (powm a (spl 64 (n - 1) 0).1 n == n - 1 || holdsLoop n ((spl 64 (n - 1) 0).2 - 1) (powm a (spl 64 (n - 1) 0).1 n))
def trialR : Nat → Nat → Nat → Bool
  | 0, _, _ => true
  | k + 1, d, n => if d * d ≤ n then (if n % d = 0 then false else trialR k (d + 1) n) else true
def basesR : List Nat := [2, 3, 5, 7, 11, 13, 17, 19, 23, 29, 31, 37]
def isR (n : Nat) : Bool := if n < 2 then false else if n < 65536 then trialR 300 2 n else basesR.all fun a => !(n % a == 0) && strongR n a
theorem pow_lt61 {d s n : Nat} (h : d * 2 ^ s = n - 1) (hn : n < 2305843009213693952) (hn2 : 2 ≤ n) : s < 61 := by
  refine Classical.byContradiction fun hc => ?_
  have h1 : 2 ^ 61 ≤ 2 ^ s := Nat.pow_le_pow_right (by decide) (by omega)
  have h2 : 0 < d := Nat.pos_of_ne_zero fun e => by subst e; omega
  have h3 : 2 ^ s ≤ d * 2 ^ s := Nat.le_mul_of_pos_left _ h2
  have h4 : (2 : Nat) ^ 61 = 2305843009213693952 := by decide
  omega

theorem Tryz_ent140 : Ent Tryz.prog 140 := ent_of Tryz.func140 (by kernel_rfl) rfl
theorem strongR_spec (n a : Nat) (h : Hp) (hn : 2 ≤ n) (hn2 : n < 2305843009213693952) (ha : a < 18446744073709551616) :
    CallsH Tryz.prog 140 [U n, U a] h fun v' h' => v' = .bool (strongR n a) ∧ h = h' := by
  (apply enter Tryz.func140 rfl Tryz.ntmps140 rfl)
  refine runJ ?_
  (first | (apply w_seqB; exact rfl; apply w_block; exact rfl) | skip)
  apply (w_loop (σ := Nat × Nat) rfl (fun j => [(0, U n), (1, U a), (5, U j.1), (6, N j.2)])
    (fun j h' => h = h' ∧ 1 ≤ j.1 ∧ j.1 + j.2 < n ∧ j.1 * 2 ^ j.2 = n - 1 ∧ spl 64 (n - 1) 0 = spl (64 - j.2) j.1 j.2) (fun j => j.1) (n - 1, 0))
  · exact (Sub.cons rfl (Sub.cons rfl (Sub.cons rfl (Sub.cons rfl (Sub.nil _)))))
  · exact ⟨rfl, by dsimp only; omega, by dsimp only; omega, by dsimp only; rw [Nat.pow_zero, Nat.mul_one], rfl⟩
  rintro ⟨d, s⟩ h' ⟨rfl, j1, j2, j3, j4⟩
  dsimp only at j1 j2 j3 j4 ⊢
  refine runJ ?_
  (apply w_condD; exact rfl; exact rfl) <;> intro hd
  · refine runJ ?_
    apply again_normal (d / 2, s + 1)
    · exact (Sub.cons rfl (Sub.cons rfl (Sub.cons rfl (Sub.cons rfl (Sub.nil _)))))
    · have hs := pow_lt61 j3 hn2 hn
      refine ⟨rfl, by dsimp only; omega, by dsimp only; omega, ?_, ?_⟩
      · dsimp only
        rw [← j3, Nat.pow_succ, Nat.mul_comm (2 ^ s) 2, ← Nat.mul_assoc, Nat.div_mul_cancel (Nat.dvd_of_mod_eq_zero hd)]
      · dsimp only
        rw [j4, show 64 - s = (64 - (s + 1)) + 1 by omega]
        conv => lhs; unfold spl
        rw [if_pos hd]
    · dsimp only; omega
  have hsp : spl 64 (n - 1) 0 = (d, s) := j4.trans (spl_odd hd _ _)
  have hR : strongR n a = (powm a d n == 1 || (powm a d n == n - 1 || holdsLoop n (s - 1) (powm a d n))) := by unfold strongR; rw [hsp]
  rw [hR]
  refine runJ ?_
  apply (s_call Tryz_ent181 rfl rfl rfl)
  refine (refPow_spec a d n h ha (by omega) (by omega)).mono ?_
  rintro _ _ ⟨rfl, rfl⟩
  refine ⟨(by first | exact trivial | exact Ext.refl _ | assumption | exact Ext.trans (by assumption) (by assumption)), ?_⟩
  have hx : powm a d n < n := by unfold powm; rw [if_neg (by omega)]; exact Nat.mod_lt _ (by omega)
  generalize powm a d n = x at *
  refine runJ ?_
  (apply s_splitG; exact rfl; exact rfl; exact rfl; exact rfl) <;> intro g1
  · refine runJ ?_
    exact fin1 rfl rfl ⟨by simp [g1], rfl⟩
  refine runJ ?_
  (apply w_condD; exact rfl; exact rfl) <;> intro g2
  · refine runJ ?_
    exact fin1 rfl rfl ⟨by simp [g2], rfl⟩
  refine runJ ?_
  (first | (apply w_seqB; exact rfl; apply w_block; exact rfl) | skip)
  apply (w_loop (σ := Nat × Nat) rfl (fun j => [(0, U n), (6, N s), (7, U j.1), (8, N j.2)])
    (fun j h' => h = h' ∧ j.1 < n ∧ 1 ≤ j.2 ∧ holdsLoop n (s - 1) x = holdsLoop n (s - j.2) j.1) (fun j => s - j.2) (x, 1))
  · exact (Sub.cons rfl (Sub.cons rfl (Sub.cons rfl (Sub.cons rfl (Sub.nil _)))))
  · exact ⟨rfl, hx, Nat.le_refl _, rfl⟩
  rintro ⟨y, i⟩ h' ⟨rfl, k1, k2, k3⟩
  dsimp only at k1 k2 k3 ⊢
  have hx1 : (x == 1) = false := by simp [g1]
  have hx2 : (x == n - 1) = false := by simp [g2]
  refine runJ ?_
  (apply w_condD; exact rfl; exact rfl) <;> intro hi
  · have hstep : holdsLoop n (s - i) y = (mulm y y n == n - 1 || holdsLoop n (s - (i + 1)) (mulm y y n)) := by
      rw [show s - i = (s - (i + 1)) + 1 by omega]; rfl
    refine runJ ?_
    apply (s_call Tryz_ent182 rfl rfl rfl)
    refine (refMul_spec y y n h (by omega) (by omega) (by omega)).mono ?_
    rintro _ _ ⟨rfl, rfl⟩
    refine ⟨(by first | exact trivial | exact Ext.refl _ | assumption | exact Ext.trans (by assumption) (by assumption)), ?_⟩
    have hm : mulm y y n < n := mulm_lt (by omega)
    generalize mulm y y n = z at *
    refine runJ ?_
    (apply w_condD; exact rfl; exact rfl) <;> intro hy
    · refine runJ ?_
      exact fin1 rfl rfl ⟨by rw [hx1, hx2, k3, hstep]; simp [hy], rfl⟩
    · refine runJ ?_
      apply again_normal (z, i + 1)
      · exact (Sub.cons rfl (Sub.cons rfl (Sub.cons rfl (Sub.cons rfl (Sub.nil _)))))
      · refine ⟨rfl, hm, by dsimp only; omega, ?_⟩
        dsimp only
        rw [k3, hstep]
        simp [hy]
      · dsimp only; omega
  · refine runJ ?_
    have h0 : holdsLoop n (s - i) y = false := by rw [show s - i = 0 by omega]; rfl
    exact fin1 rfl rfl ⟨by rw [hx1, hx2, k3, h0]; rfl, rfl⟩

theorem Tryz_ent81 : Ent Tryz.prog 81 := ent_of Tryz.func81 (by kernel_rfl) rfl
theorem refIs_spec (n : Nat) (h : Hp) (hn2 : n < 2305843009213693952) :
    CallsH Tryz.prog 81 [U n] h fun v' h' => v' = .bool (isR n) ∧ Ext h h' := by
  (apply enter Tryz.func81 rfl Tryz.ntmps81 rfl)
  refine runJ ?_
  (apply w_condD; exact rfl; exact rfl) <;> intro g1
  · refine runJ ?_
    exact fin1 rfl rfl ⟨by unfold isR; rw [if_pos g1], Ext.refl _⟩
  refine runJ ?_
  (apply w_condD; exact rfl; exact rfl) <;> intro g2
  · have hR : isR n = trialR 300 2 n := by unfold isR; rw [if_neg g1, if_pos g2]
    rw [hR]
    refine runJ ?_
    (first | (apply w_seqB; exact rfl; apply w_block; exact rfl) | skip)
    apply (w_loop (σ := Nat) rfl (fun d => [(0, U n), (3, U d)])
      (fun d h' => h = h' ∧ 2 ≤ d ∧ d ≤ 300 ∧ trialR 300 2 n = trialR (302 - d) d n) (fun d => 302 - d) 2)
    · exact (Sub.cons rfl (Sub.cons rfl (Sub.nil _)))
    · exact ⟨rfl, by omega, by omega, rfl⟩
    rintro d h' ⟨rfl, d1, d2, d3⟩
    have hdd : d * d ≤ 300 * 300 := Nat.mul_le_mul d2 d2
    have hdl : d ≤ d * d := Nat.le_mul_self d
    have hst : trialR (302 - d) d n = if d * d ≤ n then (if n % d = 0 then false else trialR (302 - (d + 1)) (d + 1) n) else true := by
      rw [show 302 - d = (302 - (d + 1)) + 1 by omega]; rfl
    rw [d3, hst]
    refine runJ ?_
    (apply w_condD; exact rfl; exact rfl) <;> intro hd
    · rw [if_pos hd]
      have hd256 : d < 256 := by
        refine Classical.byContradiction fun hc => ?_
        have : 256 * 256 ≤ d * d := Nat.mul_le_mul (by omega) (by omega)
        omega
      refine runJ ?_
      (apply w_condD; exact rfl; exact rfl) <;> intro hm
      · rw [if_pos hm]
        refine runJ ?_
        exact fin1 rfl rfl ⟨rfl, Ext.refl _⟩
      · rw [if_neg hm]
        refine runJ ?_
        apply again_normal (d + 1)
        · exact (Sub.cons rfl (Sub.cons rfl (Sub.nil _)))
        · exact ⟨rfl, by omega, by omega, rfl⟩
        · omega
    · rw [if_neg hd]
      refine runJ ?_
      exact fin1 rfl rfl ⟨rfl, Ext.refl _⟩
  have hR : isR n = basesR.all fun a => !(n % a == 0) && strongR n a := by unfold isR; rw [if_neg g1, if_neg g2]
  rw [hR]
  refine runJ ?_
  (apply (s_litF (f := U) [2, 3, 5, 7, 11, 13, 17, 19, 23, 29, 31, 37] (fun _ => rfl)); exact rfl; exact rfl; exact rfl; exact rfl; exact rfl; exact rfl; exact rfl; exact rfl; omega)
  intro w h1 o1 e1 b1
  refine ⟨(by first | exact trivial | exact Ext.refl _ | assumption | exact Ext.trans (by assumption) (by assumption)), ?_⟩
  have s1 := o1.sl
  refine runJ ?_
  (first | (apply w_seqB; exact rfl; apply w_block; exact rfl) | skip)
  apply (w_loop (σ := Nat) rfl (fun j => [(0, U n), (21, w), (22, N 12), (23, N j)])
    (fun j h' => h1 = h' ∧ j ≤ 12 ∧ ∀ i a, i < j → basesR[i]? = some a → ((!(n % a == 0)) && strongR n a) = true) (fun j => 12 - j) 0)
  · exact (Sub.cons rfl (Sub.cons rfl (Sub.cons rfl (Sub.cons rfl (Sub.nil _)))))
  · exact ⟨rfl, by omega, by intro i a hi; omega⟩
  rintro j h' ⟨rfl, j1, j2⟩
  refine runJ ?_
  (apply w_condD; exact rfl; exact rfl) <;> intro hj
  · obtain ⟨a, ha⟩ := get_lt (l := [2, 3, 5, 7, 11, 13, 17, 19, 23, 29, 31, 37]) (j := j) hj
    have ham : a ∈ basesR := List.mem_of_getElem? ha
    have hal : 0 < a ∧ a < 100 := by
      have hall : ∀ x ∈ basesR, 0 < x ∧ x < 100 := by decide
      exact hall a ham
    refine runJ ?_
    (apply s_splitG; exact rfl; exact rfl; exact rfl; exact rfl) <;> intro g3
    · refine runJ ?_
      refine fin1 rfl rfl ⟨?_, e1⟩
      congr 1
      symm
      rw [List.all_eq_false]
      exact ⟨a, ham, by simp [g3]⟩
    refine runJ ?_
    apply (s_call Tryz_ent140 rfl rfl rfl)
    refine (strongR_spec n a h1 (by omega) hn2 (by omega)).mono ?_
    rintro _ _ ⟨rfl, rfl⟩
    refine ⟨(by first | exact trivial | exact trivial), ?_⟩
    refine runJ ?_
    (apply w_cond; exact rfl; exact rfl) <;> intro hb
    · refine runJ ?_
      refine fin1 rfl rfl ⟨?_, e1⟩
      congr 1
      symm
      rw [List.all_eq_false]
      refine ⟨a, ham, ?_⟩
      have hb : strongR n a = false := by simpa using hb
      simp [hb]
    · refine runJ ?_
      apply again_normal (j + 1)
      · exact (Sub.cons rfl (Sub.cons rfl (Sub.cons rfl (Sub.cons rfl (Sub.nil _)))))
      · refine ⟨rfl, hj, fun i a' hi ha' => ?_⟩
        rcases Nat.lt_succ_iff_lt_or_eq.1 hi with hi | rfl
        · exact j2 i a' hi ha'
        · have : a' = a := by
            have := ha'.symm.trans ha
            exact Option.some.inj this
          subst this
          have hb : strongR n a' = true := by simpa using hb
          rw [hb]; simp [g3]
      · omega
  · refine runJ ?_
    refine fin1 rfl rfl ⟨?_, e1⟩
    congr 1
    symm
    rw [List.all_eq_true]
    intro a ha
    obtain ⟨i, hi⟩ := List.getElem?_of_mem ha
    have hil : i < 12 := (List.getElem?_eq_some_iff.1 hi).1
    exact j2 i a (by omega) hi
end Go.Proofs.YtfcmdefigldpnaaGreatDoor


namespace Go.Proofs.YtfcmdefigldpnaaGreatDoor
set_option linter.unusedVariables false
set_option maxRecDepth 8000
open Go Go.Den Go.RowKit Go.Mth

theorem Tryz_ent80 : Ent Tryz.prog 80 := ent_of Tryz.func80 (by kernel_rfl) rfl
theorem refStep_spec (m : Nat) (h : Hp) (hm1 : 1 ≤ m) (hm2 : m ≤ 12) :
    CallsH Tryz.prog 80 [U (2 ^ m)] h fun v' h' => v' = .bool true ∧ h = h' := by
  have hb : 2 ^ m ≤ 4096 := Nat.pow_le_pow_right (n := 2) (j := 12) (by omega) hm2
  have hinj : ∀ i, i ≤ m → (2 ^ i = 2 ^ m ↔ i = m) := fun i hi => by
    constructor
    · intro e
      rcases Nat.lt_or_ge i m with h1 | h1
      · have := Nat.pow_lt_pow_right (a := 2) (by omega) h1; omega
      · omega
    · rintro rfl; rfl
  have hle : ∀ i, i ≤ m → 2 ^ i ≤ 2 ^ m := fun i hi => Nat.pow_le_pow_right (by omega) hi
  generalize hx : 2 ^ m = x at *
  (apply enter Tryz.func80 rfl Tryz.ntmps80 rfl)
  refine runJ ?_
  (first | (apply w_seqB; exact rfl; apply w_block; exact rfl) | skip)
  apply (w_loop (σ := Nat × Nat) rfl (fun k => [(0, U x), (3, U k.1)])
    (fun k h' => h = h' ∧ k.1 = 2 ^ k.2 ∧ k.2 ≤ m) (fun k => m - k.2) (2, 1))
  · exact (Sub.cons rfl (Sub.cons rfl (Sub.nil _)))
  · exact ⟨rfl, rfl, hm1⟩
  rintro ⟨k, i⟩ h' ⟨rfl, k1, k2⟩
  dsimp only at k1 k2 ⊢
  have h1 := hle i k2
  have h2 := hinj i k2
  rw [← k1] at h1 h2
  refine runJ ?_
  (apply w_condT; exact rfl; exact rfl; exact (show k ≤ 8192 by omega))
  refine runJ ?_
  (apply w_condD; exact rfl; exact rfl) <;> intro hd
  · refine runJ ?_
    exact fin1 rfl rfl ⟨rfl, rfl⟩
  · have hi : i < m := by
      rcases Nat.lt_or_ge i m with h3 | h3
      · exact h3
      · exact absurd (h2.2 (by omega)).symm hd
    refine runJ ?_
    apply again_normal (2 * k, i + 1)
    · exact (Sub.cons rfl (Sub.cons rfl (Sub.nil _)))
    · exact ⟨rfl, by dsimp only; rw [k1, Nat.pow_succ, Nat.mul_comm], hi⟩
    · dsimp only; omega

/-- The search: so many steps at most; none: they did not suffice. -/
def srchF (least step count : Nat) : Nat → Nat → List Nat → Option (Option (List Nat))
  | 0, _, _ => none
  | k + 1, c, out => if out.length < count then (if c ≤ least then some none else if c < step then some none else srchF least step count k (c - step) (if isR c then out ++ [c] else out)) else some (some out)

def SrchR (h h' : Hp) (v' : Value) : Option (List Nat) → Prop
  | none => ∃ e : Nat, v' = .tuple #[.slice none 0 0, N e]
  | some ys => ∃ w, v' = .tuple #[w, N 0] ∧ OwnF h' h.size 26 U w ys
theorem Tryz_ent32 : Ent Tryz.prog 32 := ent_of Tryz.func32 (by kernel_rfl) rfl
set_option maxHeartbeats 1000000 in
theorem refSearch_spec (bits m count fuel : Nat) (r : Option (List Nat)) (h : Hp) (hb1 : 4 ≤ bits) (hb2 : bits ≤ 61) (hm1 : 1 ≤ m) (hm2 : m ≤ 12) (hc1 : 1 ≤ count) (hc2 : count ≤ 16)
    (hr : srchF (2 ^ (bits - 1)) (2 ^ m) count fuel ((2 * 2 ^ (bits - 1) - 2) / 2 ^ m * 2 ^ m + 1) [] = some r) :
    CallsH Tryz.prog 32 [N bits, U (2 ^ m), N count] h fun v' h' => Ext h h' ∧ SrchR h h' v' r := by
  have SS := refStep_spec m h hm1 hm2
  have hL : 2 ^ (bits - 1) ≤ 2 ^ 60 := Nat.pow_le_pow_right (by omega) (by omega)
  have hL1 : 1 ≤ 2 ^ (bits - 1) := Nat.pow_pos (by omega)
  have h60 : (2 : Nat) ^ 60 = 1152921504606846976 := by decide
  have hM : 2 ^ m ≤ 4096 := Nat.pow_le_pow_right (n := 2) (j := 12) (by omega) hm2
  have hM1 : 1 ≤ 2 ^ m := Nat.pow_pos (by omega)
  generalize hx : 2 ^ m = x at *
  generalize hl : 2 ^ (bits - 1) = least at *
  have hdm : (2 * least - 2) / x * x ≤ 2 * least - 2 := Nat.div_mul_le_self _ _
  have hmb : (2 * least - 2) / x * x < 18446744073709551616 := by omega
  (apply enter Tryz.func32 rfl Tryz.ntmps32 rfl)
  refine runJ ?_
  (apply s_splitG; exact rfl; exact rfl; exact rfl; exact rfl) <;> intro g1
  · exact absurd g1 (by omega)
  refine runJ ?_
  (apply s_splitG; exact rfl; exact rfl; exact rfl; exact rfl) <;> intro g2
  · exact absurd g2 (by omega)
  refine runJ ?_
  apply (s_call Tryz_ent80 rfl rfl rfl)
  refine (SS).mono ?_
  rintro _ _ ⟨rfl, rfl⟩
  refine ⟨(by first | exact trivial | exact Ext.refl _ | assumption | exact Ext.trans (by assumption) (by assumption)), ?_⟩
  refine runJ ?_
  (apply s_splitG; exact rfl; exact rfl; exact rfl; exact rfl) <;> intro g3
  · exact absurd g3 (by omega)
  refine runJ ?_
  (apply w_condF; exact rfl; exact rfl; exact (show ¬ 16 < count by omega))
  refine runJ ?_
  rw [Nat.one_mul, hl]
  refine runJ ?_
  generalize hc0 : (2 * least - 2) / x * x = c0 at *
  refine runJ ?_
  (first | (apply w_seqB; exact rfl; apply w_block; exact rfl) | skip)
  apply (w_loop (σ := (Nat × Nat) × List Nat × Value) rfl (fun j => [(1, U x), (2, N count), (8, j.2.2), (9, U least), (10, U j.1.2)])
    (fun j h' => Ext h h' ∧ srchF least x count j.1.1 j.1.2 j.2.1 = some r ∧ j.1.2 ≤ 2 * least - 1 ∧ OwnF h' h.size 26 U j.2.2 j.2.1 ∧ j.2.1.length ≤ count) (fun j => j.1.1) ((fuel, c0 + 1), [], .slice none 0 0))
  · exact (Sub.cons rfl (Sub.cons rfl (Sub.cons rfl (Sub.cons rfl (Sub.cons rfl (Sub.nil _))))))
  · exact ⟨Ext.refl _, hr, by dsimp only; omega, OwnF.nil _ _ _ _, Nat.zero_le _⟩
  clear hr
  rintro ⟨⟨k, c⟩, out, v⟩ h1 ⟨e1, hr, c1, o1, l1⟩
  dsimp only at e1 hr c1 o1 l1 ⊢
  rcases k with _ | k
  · exact absurd hr (by unfold srchF; exact fun e => by cases e)
  unfold srchF at hr
  refine runJ ?_
  (apply w_condD; exact rfl; exact rfl) <;> intro hlt
  · rw [if_pos hlt] at hr
    refine runJ ?_
    (apply w_condD; exact rfl; exact rfl) <;> intro hcl
    · rw [if_pos hcl] at hr
      cases hr
      refine runJ ?_
      exact fin2 rfl rfl rfl ⟨e1, 7, rfl⟩
    rw [if_neg hcl] at hr
    refine runJ ?_
    apply (s_call Tryz_ent81 rfl rfl rfl)
    refine (refIs_spec c h1 (by omega)).mono ?_
    rintro _ h2 ⟨rfl, e2⟩
    refine ⟨(by first | exact trivial | exact trivial), ?_⟩
    have e12 := e1.trans e2
    have o2 := o1.ext e2
    refine runJ ?_
    apply (w_tcut (σ := List Nat × Value) (fun j => [(1, U x), (2, N count), (8, j.2), (9, U least), (10, U c)]) (fun j h' => Ext h h' ∧ OwnF h' h.size 26 U j.2 j.1 ∧ j.1.length ≤ count ∧ j.1 = if isR c then out ++ [c] else out))
    · (apply w_cond; exact rfl; exact rfl) <;> intro hi
      · have hi : isR c = true := by simpa using hi
        refine runJ ?_
        (refine s_app1 (bytes := 8) (c) o2 e12 rfl rfl rfl rfl rfl rfl rfl rfl rfl (by first | exact rfl | exact congrArg some (congrArg I (by omega))) (fun _ => rfl) rfl rfl (fun _ _ => trivial) (by omega) (by simp only [maxLen]; omega) ?_)
        intro v3 h3 o3 e3 k3 b3
        refine runJ ?_
        apply cut_normal (out ++ [c], v3)
        · exact (Sub.cons rfl (Sub.cons rfl (Sub.cons rfl (Sub.cons rfl (Sub.cons rfl (Sub.nil _))))))
        · exact ⟨e3, o3, by rw [List.length_append]; simp; omega, by rw [if_pos hi]⟩
      · have hi : ¬ isR c = true := by simpa using hi
        refine runJ ?_
        apply cut_normal (out, v)
        · exact (Sub.cons rfl (Sub.cons rfl (Sub.cons rfl (Sub.cons rfl (Sub.cons rfl (Sub.nil _))))))
        · exact ⟨e12, o2, l1, by rw [if_neg hi]⟩
    rintro ⟨out', v'⟩ h3 ⟨e3, o3, l3, q3⟩
    dsimp only at e3 o3 l3 q3 ⊢
    refine runJ ?_
    (apply w_condD; exact rfl; exact rfl) <;> intro hcx
    · rw [if_pos hcx] at hr
      cases hr
      refine runJ ?_
      exact fin2 rfl rfl rfl ⟨e3, 7, rfl⟩
    · rw [if_neg hcx, ← q3] at hr
      refine runJ ?_
      apply again_normal ((k, c - x), out', v')
      · exact (Sub.cons rfl (Sub.cons rfl (Sub.cons rfl (Sub.cons rfl (Sub.cons rfl (Sub.nil _))))))
      · exact ⟨e3, hr, by dsimp only; omega, o3, l3⟩
      · dsimp only; omega
  · rw [if_neg hlt] at hr
    cases hr
    refine runJ ?_
    exact fin2 rfl rfl rfl ⟨e1, v, rfl, o1⟩
end Go.Proofs.YtfcmdefigldpnaaGreatDoor


namespace Go.Den
set_option linter.unusedVariables false
set_option maxRecDepth 8000
open Go Go.RowKit

/-- A byte. -/
abbrev Y (x : Nat) : Value := .int .u8 ((x : Nat) : Int)
section rules
variable {P : Program} {n : Nat} {Q : Post} {l : Fr} {h : Hp} {ops : List Oper} {Ch : Hp → Prop} {E : Nat → Bool} {i d : Nat} {x y : Operand}
theorem s_quoU8 {a b : Nat} {t yt : TypeId} (hx : IsK (ev l x) .u8 a) (hy : IsK (ev l y) .u8 b) (hb : Nat.blt d n = true) (hn : 0 < b ∧ a < 256)
    (q : S P n ops Ch E Q (i + 1) ((d, .int .u8 ((a / b : Nat) : Int)) :: l) h) : O P n ops Ch E Q i d (.binOp .quo t x y yt) l h :=
  s_bin hx.h hy.h hb (fun w' => by
    show (Op.intDiv .quo .u8 (a : Int) (b : Int)).run P w' = _
    unfold Op.intDiv
    rw [if_neg (by omega)]
    show Result.ok (Value.int .u8 (IntKind.u8.wrap ((a : Int).tdiv b))) w' = _
    rw [← Int.ofNat_tdiv]
    have h1 : a / b ≤ a := Nat.div_le_self _ _
    have h2 : IntKind.u8.wrap ((a / b : Nat) : Int) = ((a / b : Nat) : Int) := by
      generalize a / b = c at *
      show ((c : Int) % 256) = _
      exact Int.emod_eq_of_lt (by omega) (by omega)
    rw [h2]) q
end rules
end Go.Den

