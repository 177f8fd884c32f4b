/- Texts CrtE to CipD of this work, joined, without what the law does not lean on. -/
import Derived.Test.YtfcmdefigldpnaaGreatDoorMCt26
namespace Go.Proofs.YtfcmdefigldpnaaGreatDoor
set_option linter.unusedVariables false
set_option maxRecDepth 8000
open Go Go.Den Go.RowKit Go.Dig Go.Mth

theorem Tryz_ent120 : Ent Tryz.prog 120 := ent_of Tryz.func120 (by kernel_rfl) rfl
theorem wholes1_spec (x q i : Nat) (p3 p6 vq : Value) (qs : List Nat) (h : Hp) (P3 : Var h p3 22 [vq]) (P6 : Var h p6 3 [N i]) (s : SlF h U vq qs) (hi : qs[i]? = some q) :
    CallsH Tryz.prog 120 [U x, p3, p6] h fun v' h' => v' = .bool (decide (q ≤ x)) ∧ h = h' := by
  (apply enter Tryz.func120 rfl Tryz.ntmps120 rfl)
  refine runJ ?_
  exact fin1 rfl rfl ⟨rfl, rfl⟩
theorem indexFuncW_spec (v p3 p6 vq : Value) (xs : List Nat) (q i : Nat) (qs : List Nat) (h : Hp) (s : SlF h U v xs) (P3 : Var h p3 22 [vq]) (P6 : Var h p6 3 [N i]) (sq : SlF h U vq qs) (hi : qs[i]? = some q) (hx : ∀ x ∈ xs, x < q) (hl : xs.length < 1000000) :
    CallsH Tryz.prog 152 [v, .func (.func 120) #[] #[p3, p6]] h fun v' h' => v' = I (-1) ∧ h = h' := by
  (apply enter Tryz.func152 rfl Tryz.ntmps152 rfl)
  refine runJ ?_
  (first | (apply w_seqB; exact rfl; apply w_block; exact rfl) | skip)
  apply (w_loop (σ := Nat) rfl (fun j => [(0, v), (1, .func (.func 120) #[] #[p3, p6]), (6, v), (7, N xs.length), (8, N j)])
    (fun j h' => h = h' ∧ j ≤ xs.length) (fun j => xs.length - j) 0)
  · exact (Sub.cons rfl (Sub.cons rfl (Sub.cons rfl (Sub.cons rfl (Sub.cons rfl (Sub.nil _))))))
  · exact ⟨rfl, Nat.zero_le _⟩
  rintro j h' ⟨rfl, j1⟩
  refine runJ ?_
  (apply w_condD; exact rfl; exact rfl) <;> intro hj
  · obtain ⟨x, hxj⟩ := get_lt hj
    have hxq := hx x (List.mem_of_getElem? hxj)
    have LV := wholes1_spec x q i p3 p6 vq qs h P3 P6 sq hi
    rw [decide_eq_false (show ¬ q ≤ x by omega)] at LV
    refine runJ ?_
    refine s_callV rfl Tryz_ent120 rfl rfl rfl ?_
    refine (LV).mono ?_
    rintro _ _ ⟨rfl, rfl⟩
    refine ⟨(by first | exact trivial | exact trivial), ?_⟩
    refine runJ ?_
    apply again_normal (j + 1)
    · exact (Sub.cons rfl (Sub.cons rfl (Sub.cons rfl (Sub.cons rfl (Sub.cons rfl (Sub.nil _))))))
    · exact ⟨rfl, hj⟩
    · omega
  · refine runJ ?_
    exact fin1 rfl rfl ⟨rfl, rfl⟩
theorem containsFuncW_spec (v p3 p6 vq : Value) (xs : List Nat) (q i : Nat) (qs : List Nat) (h : Hp) (s : SlF h U v xs) (P3 : Var h p3 22 [vq]) (P6 : Var h p6 3 [N i]) (sq : SlF h U vq qs) (hi : qs[i]? = some q) (hx : ∀ x ∈ xs, x < q) (hl : xs.length < 1000000) :
    CallsH Tryz.prog 106 [v, .func (.func 120) #[] #[p3, p6]] h fun v' h' => v' = .bool false ∧ h = h' := by
  (apply enter Tryz.func106 rfl Tryz.ntmps106 rfl)
  refine runJ ?_
  apply (s_call Tryz_ent152 rfl rfl rfl)
  refine (indexFuncW_spec v p3 p6 vq xs q i qs h s P3 P6 sq hi hx hl).mono ?_
  rintro _ _ ⟨rfl, rfl⟩
  refine ⟨(by first | exact trivial | exact trivial), ?_⟩
  refine runJ ?_
  exact fin1 rfl rfl ⟨rfl, rfl⟩

theorem Tryz_ent60 : Ent Tryz.prog 60 := ent_of Tryz.func60 (by kernel_rfl) rfl
set_option maxHeartbeats 4000000 in
theorem cWholes_spec (va vq : Value) (rows : List (Value × List Nat)) (qs : List Nat) (n : Nat) (zs : List Int) (h : Hp) (TB0 : TB h) (S : PolAt h va rows) (sq : SlF h U vq qs) (hr : rightP qs) (C : Cop qs) (hn : n ≤ 4096)
    (hR : ResOf n qs (rows.map (·.2)) zs) (hz : ∀ z ∈ zs, -(prodL qs : Int) < 2 * z ∧ 2 * z < prodL qs) :
    CallsH Tryz.prog 60 [.agg #[va], vq] h fun v' h' => Ext h h' ∧ ∃ v xs, v' = .tuple #[v, N 0] ∧ IntsAt h' h.size v xs ∧ xs.map (·.2) = zs := by
  have hq := hr.1
  have h0 := hr.2.2.1
  have h24 := hr.2.2.2
  have hal : Al 18446744073709551616 qs := fun q h => by have := hq q h; omega
  obtain ⟨hrl, hzl, hrf⟩ := hR
  rw [List.length_map] at hrl
  have hrow : ∀ (i : Nat) (x : Value × List Nat), rows[i]? = some x → ∃ q, qs[i]? = some q ∧ q ∈ qs ∧ Fit n q x.2 ∧ ∀ k, k < n → Cg q (gt x.2 k) (gi zs k) := fun i x hx => by
    have hi := (List.getElem?_eq_some_iff.1 hx).1
    obtain ⟨q, hqi⟩ := get_lt (l := qs) (j := i) (by omega)
    obtain ⟨a, b⟩ := hrf i q x.2 (by rw [List.getElem?_map, hx]; rfl) hqi
    exact ⟨q, hqi, List.mem_of_getElem? hqi, a, b⟩
  obtain ⟨x0, hx0⟩ := get_lt (l := rows) (j := 0) (by omega)
  obtain ⟨q0, hq0, -, hf0, -⟩ := hrow 0 x0 hx0
  have hx0l := hf0.1
  have sx0 := S.el _ (List.mem_of_getElem? hx0)
  have hq64 : ∀ q ∈ qs, 1 < q ∧ q < 18446744073709551616 := fun q h => by have := hq q h; omega
  have hvqo := sq.one
  (apply enter Tryz.func60 rfl Tryz.ntmps60 rfl)
  refine runJ ?_
  (apply s_box; exact rfl; exact rfl; exact rfl; exact rfl)
  intro p2 h1 x1 e1 b1
  (try dsimp only [Value.cells, List.toList_toArray] at x1)
  refine ⟨(by first | exact trivial | exact Ext.refl _ | assumption | exact Ext.trans (by assumption) (by assumption)), ?_⟩
  have x1 : Var h1 p2 56 [va] := x1
  refine runJ ?_
  (apply s_box; exact rfl; exact rfl; exact rfl; exact rfl)
  intro p3 h2 x2 e2 b2
  (try dsimp only [Value.cells, List.toList_toArray] at x2)
  refine ⟨(by first | exact trivial | exact Ext.refl _ | assumption | exact Ext.trans (by assumption) (by assumption)), ?_⟩
  have x2 : Var h2 p3 22 [vq] := by rw [← oneL hvqo]; exact x2
  have E2 := e1.trans e2
  have x12 := x1.ext e2
  have RS := right_spec vq qs h2 (TB0.ext E2) (sq.ext E2) hal (by omega)
  rw [decide_eq_true hr] at RS
  refine runJ ?_
  apply (s_call Tryz_ent119 rfl rfl rfl)
  refine (RS).mono ?_
  rintro _ h3 ⟨rfl, e3⟩
  refine ⟨(by first | exact trivial | exact trivial), ?_⟩
  have E3 := E2.trans e3
  have x13 := x12.ext e3
  have x23 := x2.ext e3
  have sR3 := S.row.ext E3
  have sq3 := sq.ext E3
  refine runJ ?_
  rw [decide_eq_false (show ¬ rows.length ≠ qs.length by omega)]
  refine runJ ?_
  (first | (apply w_seqB; exact rfl; apply w_block; exact rfl) | skip)
  apply (w_loop (σ := Nat) rfl (fun j => [(2, p2), (3, p3), (24, va), (25, N rows.length), (26, N j)])
    (fun j h' => Ext h3 h' ∧ j ≤ rows.length) (fun j => rows.length - j) 0)
  · exact (Sub.cons rfl (Sub.cons rfl (Sub.cons rfl (Sub.cons rfl (Sub.cons rfl (Sub.nil _))))))
  · exact ⟨Ext.refl _, Nat.zero_le _⟩
  rintro j h4 ⟨e4, j1⟩
  have E4 := E3.trans e4
  have x14 := x13.ext e4
  have x24 := x23.ext e4
  have sR4 := S.row.ext E4
  have sq4 := sq.ext E4
  have sx04 := sx0.ext E4
  refine runJ ?_
  (apply w_condD; exact rfl; exact rfl) <;> intro hj
  · obtain ⟨⟨vx, ws⟩, hxj⟩ := get_lt hj
    obtain ⟨q, hqj, hqm, hfx, -⟩ := hrow j _ hxj
    have sx4 := (S.el _ (List.mem_of_getElem? hxj)).ext E4
    have hwl := hfx.1
    dsimp only at sx4 hfx hwl
    refine runJ ?_
    (apply s_alloc; exact rfl; exact rfl; exact rfl)
    intro p6 h5 x5 e5 b5
    (try dsimp only [Value.cells, List.toList_toArray] at x5)
    refine ⟨(by first | exact trivial | exact Ext.refl _ | assumption | exact Ext.trans (by assumption) (by assumption)), ?_⟩
    refine runJ ?_
    (apply s_storeV; exact rfl; exact rfl; exact rfl; exact (OneAll.cons rfl OneAll.nil : OneAll [N j]); exact rfl; exact rfl; exact x5; exact rfl)
    intro h6 x6 k6
    refine ⟨trivial, ?_⟩
    have x6 : Var h6 p6 3 [N j] := x6
    have e46 : Ext h4 h6 := k6.oldV e5 b5 (Nat.le_refl _)
    have x16 := x14.ext e46
    have x26 := x24.ext e46
    have sR6 := sR4.ext e46
    have sx6 := sx4.ext e46
    have sx06 := sx04.ext e46
    have sq6 := sq4.ext e46
    refine runJ ?_
    (apply s_splitG; exact rfl; exact rfl; exact rfl; exact rfl) <;> intro g1
    · exfalso; omega
    refine runJ ?_
    apply (s_call Tryz_ent106 rfl rfl rfl)
    refine (containsFuncW_spec vx p3 p6 vq ws q j qs h6 sx6 x26 x6 sq6 hqj hfx.2 (by omega)).mono ?_
    rintro _ _ ⟨rfl, rfl⟩
    refine ⟨(by first | exact trivial | exact trivial), ?_⟩
    refine runJ ?_
    apply again_normal (j + 1)
    · exact (Sub.cons rfl (Sub.cons rfl (Sub.cons rfl (Sub.cons rfl (Sub.cons rfl (Sub.nil _))))))
    · exact ⟨e4.trans e46, hj⟩
    · omega
  refine runJ ?_
  refine s_makeS (f := intC) (s := 2) (bytes := 32) ((.slice none 0 0, 0) : Value × Int) (isK_t rfl) (isK_t rfl) rfl rfl rfl (fun _ => rfl) (by decide) rfl rfl (Nat.le_refl _) (by omega) (by omega) ?_
  intro vI h5 o5 e5 b5
  refine ⟨trivial, ?_⟩
  rw [hx0l] at o5
  have x15 := x14.ext e5
  have x25 := x24.ext e5
  have sq5 := sq4.ext e5
  have sR5 := sR4.ext e5
  have hs45 : h4.size < h5.size := (o5.blk _ b5).2
  refine runJ ?_
  (apply (s_make (f := U) (bytes := 8) (0)); (first | exact isK_c | exact isK_t rfl); (first | exact isK_c | exact isK_t rfl); exact rfl; exact rfl; exact rfl; exact rfl; exact rfl; exact rfl; omega; omega; omega)
  intro vr h6 o6 e6 b6
  refine ⟨(by first | exact trivial | exact Ext.refl _ | assumption | exact Ext.trans (by assumption) (by assumption)), ?_⟩
  have e46 := e5.trans e6
  have x16 := x15.ext e6
  have x26 := x25.ext e6
  have o5' := o5.ext e6
  have hs56 : h5.size < h6.size := (o6.blk _ b6).2
  have sI6 : SlA h6 intC 2 vI (List.replicate n ((.slice none 0 0, 0) : Value × Int)) := ⟨fun _ => rfl, o5'.sl⟩
  refine runJ ?_
  rw [List.length_replicate]
  (first | (apply w_seqB; exact rfl; apply w_block; exact rfl) | skip)
  apply (w_loop (σ := Nat × List (Value × Int) × List Nat) rfl (fun j => [(2, p2), (3, p3), (8, vI), (9, vr), (55, N n), (56, N j.1)])
    (fun j h' => Ext h4 h' ∧ h6.size ≤ h'.size ∧ j.1 ≤ n ∧ j.2.1.length = n ∧ IntsAt h' h4.size vI j.2.1 ∧ (∀ x ∈ j.2.1, x.1.ownBlock = none ∨ x.1.ownBlock ≠ vr.ownBlock) ∧ OwnF h' h5.size 26 U vr j.2.2 ∧ j.2.2.length = qs.length ∧ j.2.1.map (·.2) = zs.take j.1 ++ List.replicate (n - j.1) 0) (fun j => n - j.1) (0, List.replicate n (.slice none 0 0, 0), List.replicate qs.length 0))
  · exact (Sub.cons rfl (Sub.cons rfl (Sub.cons rfl (Sub.cons rfl (Sub.cons rfl (Sub.cons rfl (Sub.nil _)))))))
  · refine ⟨e46, Nat.le_refl _, Nat.zero_le _, List.length_replicate, ⟨o5', fun x hx => ?_, fun x hx => ?_⟩, fun x hx => ?_, o6, List.length_replicate, by simp⟩
    · rw [(List.mem_replicate.1 hx).2]; exact OwnF.nil _ _ _ _
    · rw [(List.mem_replicate.1 hx).2]; exact .inl rfl
    · rw [(List.mem_replicate.1 hx).2]; exact .inl rfl
  rintro ⟨k, xs, rr⟩ h7 ⟨e7, z7, k1, l7, I7, n7, o7, lr7, m7⟩
  dsimp only at e7 z7 k1 l7 I7 n7 o7 lr7 m7 ⊢
  have E7 := E4.trans e7
  have x17 := x14.ext e7
  have x27 := x24.ext e7
  have sq7 := sq4.ext e7
  have hvr : ∀ b, vr.ownBlock = some b → h5.size ≤ b := fun b hb => (o7.blk b hb).1
  have nIr : vI.ownBlock = none ∨ vI.ownBlock ≠ vr.ownBlock := by rw [b5, b6]; exact .inr fun e => by have := Option.some.inj e; omega
  have nrI : vr.ownBlock = none ∨ vr.ownBlock ≠ vI.ownBlock := by rw [b5, b6]; exact .inr fun e => by have := Option.some.inj e; omega
  refine runJ ?_
  (apply w_condD; exact rfl; exact rfl) <;> intro hk
  · obtain ⟨z, hzk⟩ := get_lt (l := zs) (j := k) (by omega)
    have hzm := hz z (List.mem_of_getElem? hzk)
    have hgz : gi zs k = z := by unfold gi; rw [List.getD_eq_getElem?_getD, hzk]; rfl
    refine runJ ?_
    (first | (apply w_seqB; exact rfl; apply w_block; exact rfl) | skip)
    apply (w_loop (σ := Nat × List Nat) rfl (fun i => [(2, p2), (3, p3), (8, vI), (9, vr), (10, N k), (55, N n), (56, N k), (60, N qs.length), (61, N i.1)])
      (fun i h' => Only vr.ownBlock h7 h' ∧ i.1 ≤ qs.length ∧ OwnF h' h5.size 26 U vr i.2 ∧ i.2.length = qs.length ∧ i.2.take i.1 = (rows.take i.1).map fun x => x.2.getD k 0) (fun i => qs.length - i.1) (0, rr))
    · exact (Sub.cons rfl (Sub.cons rfl (Sub.cons rfl (Sub.cons rfl (Sub.cons rfl (Sub.cons rfl (Sub.cons rfl (Sub.cons rfl (Sub.cons rfl (Sub.nil _))))))))))
    · exact ⟨Only.refl _ _, Nat.zero_le _, o7, lr7, rfl⟩
    rintro ⟨i, r8⟩ h8 ⟨k8, i1, o8, l8, m8⟩
    dsimp only at k8 i1 o8 l8 m8 ⊢
    have hvr4 : ∀ b, vr.ownBlock = some b → h4.size ≤ b := fun b hb => Nat.le_trans e5.1 (hvr b hb)
    have e8 : Ext h4 h8 := ext_onlyR e7 k8 hvr4
    have E8 := E4.trans e8
    have x18 := x14.ext e8
    have x28 := x24.ext e8
    have sq8 := sq4.ext e8
    have sR8 := S.row.ext E8
    refine runJ ?_
    (apply w_condD; exact rfl; exact rfl) <;> intro hi
    · obtain ⟨⟨vx, ws⟩, hxi⟩ := get_lt (l := rows) (j := i) (by omega)
      obtain ⟨q, hqi, hqm, hfx, -⟩ := hrow i _ hxi
      have sx8 := (S.el _ (List.mem_of_getElem? hxi)).ext E8
      have hwl := hfx.1
      dsimp only at sx8 hfx hwl
      obtain ⟨y, hyk⟩ := get_lt (l := ws) (j := k) (by omega)
      refine runJ ?_
      (apply (s_storeF (y)); exact rfl; exact rfl; exact rfl; exact rfl; exact rfl; exact o8; exact rfl; (first | assumption | omega))
      intro h9 o9 k9
      refine ⟨(by first | exact trivial | exact Ext.refl _ | assumption | exact Ext.trans (by assumption) (by assumption)), ?_⟩
      refine runJ ?_
      apply again_normal (i + 1, r8.set i y)
      · exact (Sub.cons rfl (Sub.cons rfl (Sub.cons rfl (Sub.cons rfl (Sub.cons rfl (Sub.cons rfl (Sub.cons rfl (Sub.cons rfl (Sub.cons rfl (Sub.nil _))))))))))
      · refine ⟨k8.trans k9, hi, o9, by dsimp only; rw [List.length_set]; exact l8, ?_⟩
        dsimp only
        obtain ⟨c, hc⟩ := get_lt (l := r8) (j := i) (by omega)
        have hs : (r8.set i y)[i]? = some y := List.getElem?_set_self (by omega)
        rw [take_snoc hs, List.take_set_of_le (Nat.le_refl _), m8, take_snoc hxi, List.map_append]
        simp [List.getD_eq_getElem?_getD, hyk]
      · dsimp only; omega
    · have hil : i = qs.length := by omega
      subst hil
      have hr8 : r8 = rows.map fun x => x.2.getD k 0 := by
        have h1 : r8.take qs.length = r8 := List.take_of_length_le (by omega)
        have h2 : rows.take qs.length = rows := List.take_of_length_le (by omega)
        rw [h1, h2] at m8
        exact m8
      have I8 : IntsAt h8 h4.size vI xs := ⟨I7.own.only k8 nIr, fun x hx => (I7.el x hx).only k8 (n7 x hx), I7.ne⟩
      have RW := wholeG_spec vr vq r8 qs z h8 o8.sl sq8 (by omega) h0 h24 C hq64 (fun i r q hr hqi => by
        rw [hr8, List.getElem?_map] at hr
        obtain ⟨x, hx, rfl⟩ := Option.map_eq_some_iff.1 hr
        obtain ⟨q', hq', -, hf, hc⟩ := hrow i x hx
        rw [hqi] at hq'; cases hq'
        have := hc k (by omega)
        rw [hgz] at this
        obtain ⟨y, hy⟩ := get_lt (l := x.2) (j := k) (by have := hf.1; omega)
        refine ⟨?_, this⟩
        rw [List.getD_eq_getElem?_getD, hy]
        exact hf.2 y (List.mem_of_getElem? hy)) hzm.1 hzm.2
      refine runJ ?_
      apply (s_call Tryz_ent121 rfl rfl rfl)
      refine (RW).mono ?_
      rintro _ h9 ⟨e9, a, rfl, oa⟩
      refine ⟨(by first | exact trivial | exact trivial), ?_⟩
      have hza := oa.sl.one
      have I9 := I8.ext e9
      have oI9 := I9.own
      have sI9 := I9.sla
      have o9 := o8.ext e9
      obtain ⟨y0, hy0⟩ := get_lt (l := xs) (j := k) (by omega)
      refine runJ ?_
      (apply (s_storeS (f := intC) (s := 2) (j := k) ((a, z) : Value × Int)); exact rfl; exact rfl; exact rfl; exact rfl; exact rfl; exact (fun _ => rfl); exact (by decide); exact oI9; exact (fun u hu => by
        rcases List.mem_cons.1 hu with rfl | hu
        · rfl
        rw [List.mem_singleton.1 hu]; exact hza); omega)
      intro h10 o10 k10
      refine ⟨trivial, ?_⟩
      have hbI : ∀ k, vI.ownBlock = some k → h4.size ≤ k := fun k hk => (I9.own.blk k hk).1
      have hbI2 : ∀ k, vI.ownBlock = some k → k < h8.size := fun k hk => (I8.own.blk k hk).2
      have e10 : Ext h4 h10 := ext_onlyR (e8.trans e9) k10 hbI
      have na : a.ownBlock = none ∨ a.ownBlock ≠ vI.ownBlock := by
        cases hb : a.ownBlock with
        | none => exact .inl rfl
        | some k => exact .inr fun e => by have := (oa.blk _ hb).1; have := hbI2 _ e.symm; omega
      have nar : a.ownBlock = none ∨ a.ownBlock ≠ vr.ownBlock := by
        cases hb : a.ownBlock with
        | none => exact .inl rfl
        | some k => exact .inr fun e => by have := (oa.blk _ hb).1; have := (o8.blk _ e.symm).2; omega
      refine runJ ?_
      apply again_normal (k + 1, xs.set k (a, z), r8)
      · exact (Sub.cons rfl (Sub.cons rfl (Sub.cons rfl (Sub.cons rfl (Sub.cons rfl (Sub.cons rfl (Sub.nil _)))))))
      · refine ⟨e10, Nat.le_trans z7 (Nat.le_trans k8.1 (Nat.le_trans e9.1 k10.1)), hk, by dsimp only; rw [List.length_set]; exact l7, ⟨o10, fun x hx => ?_, fun x hx => ?_⟩, fun x hx => ?_, o9.only k10 nrI, l8, ?_⟩
        · rcases List.mem_or_eq_of_mem_set hx with hx | rfl
          · exact (I9.el x hx).only k10 (I9.ne x hx)
          · exact (oa.base e8.1).only k10 na
        · rcases List.mem_or_eq_of_mem_set hx with hx | rfl
          · exact I9.ne x hx
          · exact na
        · rcases List.mem_or_eq_of_mem_set hx with hx | rfl
          · exact n7 x hx
          · exact nar
        · dsimp only
          rw [List.map_set, m7, take_snoc hzk, show n - k = (n - (k + 1)) + 1 by omega, List.replicate_succ, List.set_append_right _ _ (by rw [List.length_take]; omega), show k - (zs.take k).length = 0 by rw [List.length_take]; omega]
          simp
      · dsimp only; omega
  · have hkn : k = n := by omega
    subst hkn
    rw [Nat.sub_self, List.replicate_zero, List.append_nil, ← hzl, List.take_length] at m7
    refine runJ ?_
    exact fin2 rfl rfl rfl ⟨E7, vI, xs, rfl, I7.base E4.1, m7⟩
end Go.Proofs.YtfcmdefigldpnaaGreatDoor


namespace Go.Proofs.YtfcmdefigldpnaaGreatDoor
set_option linter.unusedVariables false
set_option maxRecDepth 8000
open Go Go.Den Go.RowKit Go.Mth Go.Dig

/-- What is held: the second part times the secret, and the first. -/
def HoldR (n : Nat) (qs : List Nat) (ss : List Int) (c0 c1 : List (List Nat)) (x : List (List Nat)) : Prop := x.length = qs.length ∧ ∀ (i q : Nat) (a b r : List Nat), qs[i]? = some q → c0[i]? = some a → c1[i]? = some b → x[i]? = some r → ∃ zC, Cnv n q b (liftL ss q) zC ∧ r = addL q zC a

theorem Tryz_ent59 : Ent Tryz.prog 59 := ent_of Tryz.func59 (by kernel_rfl) rfl
set_option maxHeartbeats 8000000 in
theorem holdsC_spec (L t w : Nat) (vq vs vc : Value) (qs : List Nat) (ss : List Int) (c0 c1 : Value × List (Value × List Nat)) (h : Hp) (TB0 : TB h) (A : ParAt h ⟨((2 ^ L : Nat) : Int), t, vq, qs, (w : Int)⟩) (P : parP ⟨((2 ^ L : Nat) : Int), t, vq, qs, (w : Int)⟩) (hL3 : 3 ≤ L) (hL9 : L ≤ 9) (hQ : ∀ q ∈ qs, QOk L q)
    (s : SlF h I vs ss) (hS : SecP ((2 ^ L : Nat) : Int) ss) (sc : SlA h (fun x : Value × List (Value × List Nat) => [x.1]) 1 vc [c0, c1])
    (hp : ∀ x ∈ [c0, c1], PolAt h x.1 x.2 ∧ x.2.length = qs.length ∧ ∀ (i q : Nat) (y : Value × List Nat), x.2[i]? = some y → qs[i]? = some q → Fit (2 ^ L) q y.2) :
    CallsH Tryz.prog 59 [.agg #[N (2 ^ L), U t, vq, N w], vs, .agg #[vc]] h fun v' h' => Ext h h' ∧ ∃ vr rows p, v' = .tuple #[.agg #[vr], N (qs.length - 1), N 0] ∧ RowsAt h' h.size p vr rows ∧ HoldR (2 ^ L) qs ss (c0.2.map (·.2)) (c1.2.map (·.2)) (rows.map (·.2))  ∧ ∃ R : RngD, RngOk R ∧ R.L = L ∧ R.qs = qs := by
  have hq0 : 0 < qs.length := P.2.2.1.2.2.1
  have hq8 : qs.length ≤ 8 := P.2.2.1.2.2.2
  have hp9 : 2 ^ L ≤ 2 ^ 9 := Nat.pow_le_pow_right (by decide) hL9
  have e9 : (2 : Nat) ^ 9 = 512 := by decide
  have hqo : vq.oneCell' = true := A.row.one
  have hsb : ∀ x ∈ ss, -9223372036854775808 ≤ x ∧ x < 9223372036854775808 := fun x hx => by have := hS.1 x hx; omega
  have hsl : ss.length = 2 ^ L := by have := hS.2; omega
  obtain ⟨SC0, lc0, fc0⟩ := hp c0 (by simp)
  obtain ⟨SC1, lc1, fc1⟩ := hp c1 (by simp)
  (apply enter Tryz.func59 rfl Tryz.ntmps59 rfl)
  refine runJ ?_
  (apply s_box; exact rfl; exact rfl; exact rfl; exact rfl)
  intro p3 h1 x1 e1 b1
  (try dsimp only [Value.cells, List.toList_toArray] at x1)
  refine ⟨(by first | exact trivial | exact Ext.refl _ | assumption | exact Ext.trans (by assumption) (by assumption)), ?_⟩
  refine runJ ?_
  (apply s_box; exact rfl; exact rfl; exact rfl; exact rfl)
  intro p5 h2 x2 e2 b2
  (try dsimp only [Value.cells, List.toList_toArray] at x2)
  refine ⟨(by first | exact trivial | exact Ext.refl _ | assumption | exact Ext.trans (by assumption) (by assumption)), ?_⟩
  have x2 : Var h2 p5 62 [vc] := x2
  refine runJ ?_
  (apply s_alloc; exact rfl; exact rfl; exact rfl)
  intro p6 h3 x3 e3 b3
  (try dsimp only [Value.cells, List.toList_toArray] at x3)
  refine ⟨(by first | exact trivial | exact Ext.refl _ | assumption | exact Ext.trans (by assumption) (by assumption)), ?_⟩
  have E3 := (e1.trans e2).trans e3
  have x13 := (x1.ext e2).ext e3
  have x23 := x2.ext e3
  refine runJ ?_
  apply (s_call Tryz_ent49 rfl rfl rfl)
  refine (start_spec L t w vq qs h3 (TB0.ext E3) (A.ext E3) P hL3 hL9 hQ).mono ?_
  rintro _ h4 ⟨e4, g, R, rfl, RA, RO, hRL, hRq, RN⟩
  refine ⟨(by first | exact trivial | exact trivial), ?_⟩
  have E4 := E3.trans e4
  have x14 := x13.ext e4
  have x24 := x23.ext e4
  have x34 := x3.ext e4
  have gone : g.oneCell' = true := RA.var.one
  have hpol : ∀ x : Value × List (Value × List Nat), x.2.length = qs.length → (∀ (i q : Nat) (y : Value × List Nat), x.2[i]? = some y → qs[i]? = some q → Fit (2 ^ L) q y.2) → PolOk R x.2 := fun x hl hf => ⟨by omega, by rw [hRq]; omega, fun i q y hy hq => by rw [hRL]; rw [hRq] at hq; exact hf i q y hy hq⟩
  refine runJ ?_
  apply (s_call Tryz_ent96 rfl rfl rfl)
  refine (level12_spec g vc R [c0, c1] (qs.length - 1) h4 RO RA (sc.ext E4) (by simp) (by simp) (fun x hx => ⟨(hp x hx).1.ext E4, hpol x (hp x hx).2.1 (hp x hx).2.2, by have := (hp x hx).2.1; omega⟩)).mono ?_
  rintro _ h5 ⟨rfl, e5⟩
  refine ⟨(by first | exact trivial | exact trivial), ?_⟩
  have E5 := E4.trans e5
  have x15 := x14.ext e5
  have x25 := x24.ext e5
  have x35 := x34.ext e5
  refine runJ ?_
  apply (s_call Tryz_ent118 rfl rfl rfl)
  refine (isSecC_spec (2 ^ L) t w vq vs ss h5 (s.ext E5) hqo hS (by omega)).mono ?_
  rintro _ h6 ⟨rfl, e6⟩
  refine ⟨(by first | exact trivial | exact trivial), ?_⟩
  have E6 := E5.trans e6
  have x16 := x15.ext e6
  have x26 := x25.ext e6
  have x36 := x35.ext e6
  have RA6 := (RA.ext e5).ext e6
  refine runJ ?_
  apply (s_call Tryz_ent55 rfl rfl rfl)
  refine (ringLift_spec g vs R ss (qs.length - 1) h6 RO RA6 (s.ext E6) hsb (by rw [hRL]; exact hsl) (by rw [hRq]; omega)).mono ?_
  rintro _ h7 ⟨e7, vl, rl, pl, rfl, RL, ml⟩
  refine ⟨(by first | exact trivial | exact trivial), ?_⟩
  have E7 := E6.trans e7
  have x17 := x16.ext e7
  have x27 := x26.ext e7
  have x37 := x36.ext e7
  have RA7 := RA6.ext e7
  have hvl := RL.own.sl.one
  have mlr : rl.map (·.2) = qs.map (liftL ss) := by
    rw [ml, hRq, show qs.length - 1 + 1 = qs.length by omega, List.take_length]
  have hlr : rl.length = qs.length := by have := congrArg List.length mlr; rwa [List.length_map, List.length_map] at this
  have mli : ∀ (i q : Nat) (x : Value × List Nat), rl[i]? = some x → qs[i]? = some q → x.2 = liftL ss q := fun i q x hx hq => by
    have h2 := congrArg (fun l => l[i]?) mlr
    simp only [List.getElem?_map, hx, hq, Option.map_some, Option.some.injEq] at h2
    exact h2
  have flr : ∀ (i q : Nat) (y : Value × List Nat), rl[i]? = some y → qs[i]? = some q → Fit (2 ^ L) q y.2 := fun i q y hy hq => by
    rw [mli i q y hy hq]
    have hq1 := (hQ q (List.mem_of_getElem? hq)).q1
    refine ⟨by rw [lift_len]; exact hsl, fun z hz => ?_⟩
    unfold liftL at hz
    obtain ⟨z', -, rfl⟩ := List.mem_map.1 hz
    exact liftm_lt9 (by omega)
  refine runJ ?_
  (apply s_alloc; exact rfl; exact rfl; exact rfl)
  intro p12 h8 x8 e8 b8
  (try dsimp only [Value.cells, List.toList_toArray] at x8)
  refine ⟨(by first | exact trivial | exact Ext.refl _ | assumption | exact Ext.trans (by assumption) (by assumption)), ?_⟩
  refine runJ ?_
  (apply s_storeV; exact rfl; exact rfl; exact rfl; exact (OneAll.cons hvl OneAll.nil : OneAll [vl]); exact rfl; exact rfl; exact x8; exact rfl)
  intro h9 x9 k9
  refine ⟨trivial, ?_⟩
  have x9 : Var h9 p12 56 [vl] := x9
  have e79 : Ext h7 h9 := k9.oldV e8 b8 (Nat.le_refl _)
  have E9 := E7.trans e79
  have x29 := x27.ext e79
  have x39 := x37.ext e79
  have RL9 := RL.ext e79
  have RA9 := RA7.ext e79
  have sc9 := sc.ext E9
  have hc1 : [c0, c1][1]? = some c1 := rfl
  have hc0 : [c0, c1][0]? = some c0 := rfl
  refine runJ ?_
  refine o_know (t := 57) (u := N 2) rfl rfl ?_
  refine runJ ?_
  (apply s_alloc; exact rfl; exact rfl; exact rfl)
  intro p16 h10 x10 e10 b10
  (try dsimp only [Value.cells, List.toList_toArray] at x10)
  refine ⟨(by first | exact trivial | exact Ext.refl _ | assumption | exact Ext.trans (by assumption) (by assumption)), ?_⟩
  have hv1 : c1.1.oneCell' = true := SC1.row.one
  refine runJ ?_
  (apply s_storeV; exact rfl; exact rfl; exact rfl; exact (OneAll.cons hv1 OneAll.nil : OneAll [c1.1]); exact rfl; exact rfl; exact x10; exact rfl)
  intro h11 x11 k11
  refine ⟨trivial, ?_⟩
  have x11 : Var h11 p16 56 [c1.1] := x11
  have e911 : Ext h9 h11 := k11.oldV e10 b10 (Nat.le_refl _)
  have E11 := E9.trans e911
  have x211 := x29.ext e911
  have x311 := x39.ext e911
  have x911 := x9.ext e911
  have RL11 := RL9.ext e911
  have RA11 := RA9.ext e911
  have sc11 := sc9.ext e911
  have hs911 : h9.size < h11.size := by obtain ⟨b, hb, hl⟩ := x11.blk; rw [b10] at hb; cases hb; exact hl
  refine runJ ?_
  refine o_know (t := 63) (u := N 2) rfl rfl ?_
  refine runJ ?_
  (first | (apply w_seqB; exact rfl; apply w_block; exact rfl) | skip)
  apply (w_loop (σ := Int × Value × List (Value × List Nat)) rfl (fun j => [(5, p5), (6, p6), (11, N (qs.length - 1)), (12, p12), (14, .func (.func 57) #[g] #[]), (15, .func (.func 56) #[g] #[]), (16, p16), (17, I j.1)])
    (fun j h' => Ext h9 h' ∧ h11.size ≤ h'.size ∧ Var h' p16 56 [j.2.1] ∧ ((j.1 = 0 ∧ j.2 = c1) ∨ (j.1 = -1 ∧ (∃ p, RowsAt h' h9.size p j.2.1 j.2.2) ∧ HoldR (2 ^ L) qs ss (c0.2.map (·.2)) (c1.2.map (·.2)) (j.2.2.map (·.2))))) (fun j => (j.1 + 1).toNat) (0, c1))
  · exact (Sub.consE rfl (by first | rfl | (refine congrArg I ?_; (try dsimp only); omega) | (refine congrArg Value.bool ?_; simp [*])) (Sub.consE rfl (by first | rfl | (refine congrArg I ?_; (try dsimp only); omega) | (refine congrArg Value.bool ?_; simp [*])) (Sub.consE rfl (by first | rfl | (refine congrArg I ?_; (try dsimp only); omega) | (refine congrArg Value.bool ?_; simp [*])) (Sub.consE rfl (by first | rfl | (refine congrArg I ?_; (try dsimp only); omega) | (refine congrArg Value.bool ?_; simp [*])) (Sub.consE rfl (by first | rfl | (refine congrArg I ?_; (try dsimp only); omega) | (refine congrArg Value.bool ?_; simp [*])) (Sub.consE rfl (by first | rfl | (refine congrArg I ?_; (try dsimp only); omega) | (refine congrArg Value.bool ?_; simp [*])) (Sub.consE rfl (by first | rfl | (refine congrArg I ?_; (try dsimp only); omega) | (refine congrArg Value.bool ?_; simp [*])) (Sub.consE rfl (by first | rfl | (refine congrArg I ?_; (try dsimp only); omega) | (refine congrArg Value.bool ?_; simp [*])) (Sub.nil _)))))))))
  · exact ⟨e911, Nat.le_refl _, x11, .inl ⟨rfl, rfl⟩⟩
  rintro ⟨j, v, rs⟩ h12 ⟨e12, z12, x12, hj⟩
  dsimp only at e12 z12 x12 hj ⊢
  refine runJ ?_
  (apply w_condD; exact rfl; exact rfl) <;> intro hjj
  · obtain ⟨hj0, hc⟩ : j = 0 ∧ (v, rs) = c1 := by
      rcases hj with hj | ⟨hj, -⟩
      · exact hj
      · omega
    obtain ⟨rfl, rfl⟩ : v = c1.1 ∧ rs = c1.2 := by rw [← hc]; exact ⟨rfl, rfl⟩
    have E12 := E9.trans e12
    have x912 := x9.ext e12
    have MU := ringMul_spec g c1.1 vl R c1.2 rl h12 RO (RA9.ext e12) (SC1.ext E12) (RL9.ext e12).pol (hpol c1 lc1 fc1) (hpol (vl, rl) hlr flr) (by omega)
    refine w_know (t := 17) (u := N 0) rfl (congrArg I hj0) ?_
    refine runJ ?_
    refine s_callV rfl Tryz_ent56 rfl rfl rfl ?_
    refine (MU).mono ?_
    rintro _ h13 ⟨e13, vm, rm, pm, rfl, RM, lm, mm⟩
    refine ⟨(by first | exact trivial | exact trivial), ?_⟩
    have mm := mul_cnv RO mm
    rw [hRL, hRq] at mm
    have hvm := RM.own.sl.one
    have x1213 := x12.ext e13
    refine runJ ?_
    (apply s_storeV; exact rfl; exact rfl; exact rfl; exact (OneAll.cons hvm OneAll.nil : OneAll [vm]); exact rfl; exact rfl; exact x1213; exact rfl)
    intro h14 x14 k14
    refine ⟨trivial, ?_⟩
    have x14 : Var h14 p16 56 [vm] := x14
    have e914 : Ext h9 h14 := k14.oldV (e12.trans e13) b10 (Nat.le_refl _)
    have E14 := E9.trans e914
    have RM14 := RM.neT x1213 k14
    have x214 := x29.ext e914
    have sc14 := sc9.ext e914
    have n5 : pblk p5 ≠ pblk p16 := by
      obtain ⟨b, hb, hl⟩ := x29.blk
      rw [hb, b10]; intro e; have := Option.some.inj e; omega
    have nvc : vc.ownBlock = none ∨ vc.ownBlock ≠ pblk p16 := by
      have hlt : ∀ b, vc.ownBlock = some b → b < h9.size := (show SlF h9 Prod.fst vc [c0, c1] from sc9.2).lt (by simp)
      rw [b10]
      cases hb : vc.ownBlock with
      | none => exact .inl rfl
      | some b => exact .inr fun e => by have := Option.some.inj e; have := hlt b hb; omega
    have fm : ∀ (i q : Nat) (x : Value × List Nat), rm[i]? = some x → qs[i]? = some q → Fit (2 ^ L) q x.2 := fun i q x hx hqi => by
      have hi := (List.getElem?_eq_some_iff.1 hqi).1
      obtain ⟨xa, hxa⟩ := get_lt (l := c1.2) (j := i) (by omega)
      obtain ⟨xl, hxl⟩ := get_lt (l := rl) (j := i) (by omega)
      exact (mm i q xa xl x hxa hxl hqi hx).1
    have AD := ringAdd_spec g vm c0.1 R rm c0.2 h14 RO (RA9.ext e914) RM14.pol (SC0.ext E14) (hpol (vm, rm) (by dsimp only; omega) fm) (hpol c0 lc0 fc0) (by omega)
    refine runJN ?_
    (apply (r_drawnR (Only (pblk p16) h14) (fun i => Nat.beq i 1)); exact rfl; exact mixed; kernel_rfl; exact Only.refl _ _)
    refine runJ ?_
    refine s_loadV rfl rfl (rd_now rfl (Only.refl _ _) x14) rfl rfl ?_
    refine runJ ?_
    refine s_loadPA (cs := [c0.1]) rfl rfl (rd_cl fun h' k => (sc14.only k nvc).cells hc0) rfl rfl ?_
    refine runJ ?_
    refine s_callV rfl Tryz_ent57 rfl rfl rfl ?_
    refine (AD).mono ?_
    rintro _ h15 ⟨e15, va, rA, rfl, RAd, lad, mad⟩
    refine ⟨(by first | exact trivial | exact e15.only _), ?_⟩
    rw [hRq] at mad
    have hva := RAd.own.sl.one
    have x1415 := x14.ext e15
    refine runJ ?_
    (apply s_storeV; exact rfl; exact rfl; exact rfl; exact (OneAll.cons hva OneAll.nil : OneAll [va]); exact rfl; exact rfl; exact x1415; exact rfl)
    intro h16 x16 k16
    refine ⟨(e15.only _).trans k16, ?_⟩
    have x16' : Var h16 p16 56 [va] := x16
    have e916 : Ext h9 h16 := k16.oldV (e914.trans e15) b10 (Nat.le_refl _)
    have RA16 := RAd.neT x1415 k16
    refine runJ ?_
    apply again_normal (j - 1, va, rA)
    · exact (Sub.consE rfl (by first | rfl | (refine congrArg I ?_; (try dsimp only); omega) | (refine congrArg Value.bool ?_; simp [*])) (Sub.consE rfl (by first | rfl | (refine congrArg I ?_; (try dsimp only); omega) | (refine congrArg Value.bool ?_; simp [*])) (Sub.consE rfl (by first | rfl | (refine congrArg I ?_; (try dsimp only); omega) | (refine congrArg Value.bool ?_; simp [*])) (Sub.consE rfl (by first | rfl | (refine congrArg I ?_; (try dsimp only); omega) | (refine congrArg Value.bool ?_; simp [*])) (Sub.consE rfl (by first | rfl | (refine congrArg I ?_; (try dsimp only); omega) | (refine congrArg Value.bool ?_; simp [*])) (Sub.consE rfl (by first | rfl | (refine congrArg I ?_; (try dsimp only); omega) | (refine congrArg Value.bool ?_; simp [*])) (Sub.consE rfl (by first | rfl | (refine congrArg I ?_; (try dsimp only); omega) | (refine congrArg Value.bool ?_; simp [*])) (Sub.consE rfl (by first | rfl | (refine congrArg I ?_; (try dsimp only); omega) | (refine congrArg Value.bool ?_; simp [*])) (Sub.nil _)))))))))
    · refine ⟨e916, by have := e13.1; have := k14.1; have := e15.1; have := k16.1; omega, x16', .inr ⟨by dsimp only; omega, ⟨_, RA16.base e914.1⟩, ?_⟩⟩
      refine ⟨by rw [List.length_map]; show rA.length = _; omega, fun i q a b r hqi ha hb hr => ?_⟩
      rw [List.getElem?_map] at ha hb hr
      obtain ⟨xa, hxa, rfl⟩ := Option.map_eq_some_iff.1 ha
      obtain ⟨xb, hxb, rfl⟩ := Option.map_eq_some_iff.1 hb
      obtain ⟨xr, hxr, rfl⟩ := Option.map_eq_some_iff.1 hr
      have hi := (List.getElem?_eq_some_iff.1 hqi).1
      obtain ⟨xl, hxl⟩ := get_lt (l := rl) (j := i) (by omega)
      obtain ⟨xm, hxm⟩ := get_lt (l := rm) (j := i) (by omega)
      refine ⟨xm.2, ?_, mad i q xm xa xr hxm hxa hqi hxr⟩
      rw [← mli i q xl hxl hqi]
      exact mm i q xb xl xm hxb hxl hqi hxm
    · dsimp only; omega
  · obtain ⟨hj1, ⟨p, R12⟩, hH⟩ : j = -1 ∧ (∃ p, RowsAt h12 h9.size p v rs) ∧ HoldR (2 ^ L) qs ss (c0.2.map (·.2)) (c1.2.map (·.2)) (rs.map (·.2)) := by
      rcases hj with ⟨hj, -⟩ | hj
      · omega
      · exact hj
    have x312 := x39.ext e12
    have hvv := R12.own.sl.one
    refine runJ ?_
    (apply s_storeV; exact rfl; exact rfl; exact rfl; exact (OneAll.cons hvv OneAll.nil : OneAll [v]); exact rfl; exact rfl; exact x312; exact rfl)
    intro h13 x13' k13
    refine ⟨trivial, ?_⟩
    have x13' : Var h13 p6 56 [v] := x13'
    have E13 : Ext h h13 := k13.oldV (E9.trans e12) b3 (e1.trans e2).1
    refine runJ ?_
    exact finCTT rfl rfl rfl rfl x13' rfl rfl ⟨E13, v, rs, p, rfl, (R12.neT x312 k13).base E9.1, hH, R, RO, hRL, hRq⟩
end Go.Proofs.YtfcmdefigldpnaaGreatDoor

