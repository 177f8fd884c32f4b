/- Texts RkyA to RkyB of this work, joined, without what the law does not lean on. -/
import Derived.Test.YtfcmdefigldpnaaGreatDoorMKa26
namespace Go.Proofs.YtfcmdefigldpnaaGreatDoor
set_option linter.unusedVariables false
set_option maxRecDepth 8000
open Go Go.Den Go.RowKit Go.Mth Go.Dig

theorem Tryz_ent25 : Ent Tryz.prog 25 := ent_of Tryz.func25 (by kernel_rfl) rfl
set_option maxHeartbeats 2000000 in
theorem isSecR_spec (p : ParD) (vs : Value) (ss : List Int) (h : Hp) (s : SlF h I vs ss) (hl : ss.length < 9223372036854775808) :
    CallsH Tryz.prog 25 [.agg p.cells.toArray, vs] h fun v' h' => v' = .bool (decide (SecP p.n ss)) ∧ Ext h h' := by
  unfold ParD.cells
  (apply enter Tryz.func25 rfl Tryz.ntmps25 rfl)
  refine runJ ?_
  (apply s_box; exact rfl; exact rfl; exact rfl; exact rfl)
  intro p2 h1 x1 e1 b1
  (try dsimp only [Value.cells, List.toList_toArray] at x1)
  refine ⟨(by first | exact trivial | exact Ext.refl _ | assumption | exact Ext.trans (by assumption) (by assumption)), ?_⟩
  have s1 := s.ext e1
  refine runJ ?_
  (first | (apply w_seqB; exact rfl; apply w_block; exact rfl) | skip)
  apply (w_loop (σ := Nat) rfl (fun i => [(1, vs), (2, p2), (7, vs), (8, N ss.length), (9, N i)])
    (fun i h' => h' = h1 ∧ i ≤ ss.length ∧ ∀ j v, j < i → ss[j]? = some v → -1 ≤ v ∧ v ≤ 1) (fun i => ss.length - i) 0)
  · exact (Sub.cons rfl (Sub.cons rfl (Sub.cons rfl (Sub.cons rfl (Sub.cons rfl (Sub.nil _))))))
  · exact ⟨rfl, Nat.zero_le _, fun j v hj => absurd hj (Nat.not_lt_zero _)⟩
  rintro i h2 ⟨rfl, i2, hA⟩
  refine runJ ?_
  (apply w_condD; exact rfl; exact rfl) <;> intro hj
  · obtain ⟨x, hx⟩ := get_lt hj
    refine runJ ?_
    (apply s_splitG; exact rfl; exact rfl; exact rfl; exact rfl) <;> intro g1
    · refine runJ ?_
      refine fin1 rfl rfl ⟨?_, e1⟩
      rw [decide_eq_false (fun h : SecP p.n ss => by have := h.1 x (List.mem_of_getElem? hx); omega)]
    · refine runJ ?_
      (apply w_condD; exact rfl; exact rfl) <;> intro g2
      · refine runJ ?_
        refine fin1 rfl rfl ⟨?_, e1⟩
        rw [decide_eq_false (fun h : SecP p.n ss => by have := h.1 x (List.mem_of_getElem? hx); omega)]
      · refine runJ ?_
        apply again_normal (i + 1)
        · exact (Sub.cons rfl (Sub.cons rfl (Sub.cons rfl (Sub.cons rfl (Sub.cons rfl (Sub.nil _))))))
        · refine ⟨rfl, hj, fun j v hji hv => ?_⟩
          by_cases he : j = i
          · subst he; rw [hx] at hv; cases hv; omega
          · exact hA j v (by omega) hv
        · omega
  · refine runJ ?_
    refine fin1 rfl rfl ⟨?_, e1⟩
    have : SecP p.n ss ↔ (ss.length : Int) = p.n := ⟨fun h => h.2, fun h => ⟨fun v hv => by
      obtain ⟨j, hj'⟩ := List.mem_iff_getElem?.1 hv
      exact hA j v (by have := (List.getElem?_eq_some_iff.1 hj').1; omega) hj', h⟩⟩
    simp only [this]

/-- Rows of a lift, in full. -/
theorem rows_lift {qs : List Nat} {xs : List Int} {rows : List (Value × List Nat)} (hl : rows.length = qs.length) (hr : ∀ (i q : Nat) (r : Value × List Nat), qs[i]? = some q → rows[i]? = some r → r.2 = liftL xs q) : rows.map (·.2) = qs.map (liftL xs) := by
  refine list_eq (by simp [hl]) fun i a b ha hb => ?_
  rw [List.getElem?_map] at ha hb
  obtain ⟨r, hr1, rfl⟩ := Option.map_eq_some_iff.1 ha
  obtain ⟨q, hq1, rfl⟩ := Option.map_eq_some_iff.1 hb
  exact hr i q r hq1 hr1

theorem Tryz_ent90 : Ent Tryz.prog 90 := ent_of Tryz.func90 (by kernel_rfl) rfl
set_option maxHeartbeats 2000000 in
theorem zeroR_spec (n t w : Nat) (vq : Value) (qs : List Nat) (h : Hp) (sq : SlF h U vq qs) (hn : n ≤ 512) (h0 : 0 < qs.length) (h8 : qs.length ≤ 8) (hq : ∀ q ∈ qs, 0 < q ∧ q < 18446744073709551616) :
    CallsH Tryz.prog 90 [.agg #[N n, U t, vq, N w], N (qs.length - 1)] h fun v' h' => Ext h h' ∧ ∃ vz rz p, v' = .agg #[vz] ∧ RowsAt h' h.size p vz rz ∧ rz.map (·.2) = zerosL n qs := by
  (apply enter Tryz.func90 rfl Tryz.ntmps90 rfl)
  refine runJ ?_
  (apply s_box; exact rfl; exact rfl; exact rfl; exact rfl)
  intro p2 h1 x1 e1 b1
  (try dsimp only [Value.cells, List.toList_toArray] at x1)
  refine ⟨(by first | exact trivial | exact Ext.refl _ | assumption | exact Ext.trans (by assumption) (by assumption)), ?_⟩
  refine runJ ?_
  (apply s_alloc; exact rfl; exact rfl; exact rfl)
  intro p4 h2 x2 e2 b2
  (try dsimp only [Value.cells, List.toList_toArray] at x2)
  refine ⟨(by first | exact trivial | exact Ext.refl _ | assumption | exact Ext.trans (by assumption) (by assumption)), ?_⟩
  have E2 := e1.trans e2
  have x12 := x1.ext e2
  have sq2 := sq.ext E2
  have hp24 : pblk p2 ≠ pblk p4 := by
    obtain ⟨b, hb, hl⟩ := x1.blk
    rw [hb, b2]; intro e; cases e; omega
  refine runJN ?_
  (apply (r_drawnO (pblk p4)); exact rfl; exact mixed; kernel_rfl)
  refine runJ ?_
  (apply (s_make (f := I) (0 : Int) (ln := n) (c := n) (bytes := 8) ⟨rfl⟩ ⟨rfl⟩); exact rfl; exact rfl; exact rfl; exact rfl; exact rfl; exact rfl; exact Nat.le_refl _; omega; omega)
  intro v9 h3 o3 e3 b3
  refine ⟨e3.only _, ?_⟩
  have sq3 := sq2.ext e3
  have s3 := o3.sl
  refine runJ ?_
  apply (s_call Tryz_ent92 rfl rfl rfl)
  refine (refLift5_spec vq v9 qs (List.replicate n 0) (qs.length - 1) h3 sq3 s3 (fun x hx => by have := List.eq_of_mem_replicate hx; omega) (by simp; omega) (by omega) (by omega) hq).mono ?_
  rintro _ h4 ⟨e4, vl, rl, pl, rfl, RL, ll, ml⟩
  refine ⟨(by first | exact trivial | exact (e3.trans e4).only _), ?_⟩
  have hvl := RL.own.sl.one
  have x24 := (x2.ext e3).ext e4
  refine runJ ?_
  (apply s_storeV; exact rfl; exact rfl; exact rfl; exact (OneAll.cons hvl OneAll.nil : OneAll [vl]); exact rfl; exact rfl; exact x24; exact rfl)
  intro h5 x5 k5
  refine ⟨((e3.trans e4).only _).trans k5, ?_⟩
  have x5 : Var h5 p4 56 [vl] := x5
  refine runJ ?_
  have E5 : Ext h h5 := k5.oldV ((E2.trans e3).trans e4) b2 e1.1
  refine finC rfl rfl x5 rfl rfl ⟨E5, vl, rl, pl, rfl, (RL.neT x24 k5).base (Nat.le_trans E2.1 e3.1), ?_⟩
  exact rows_lift (by omega) ml

theorem Tryz_ent41 : Ent Tryz.prog 41 := ent_of Tryz.func41 (by kernel_rfl) rfl
set_option maxHeartbeats 2000000 in
theorem squareR_spec (n t w : Nat) (vq vs : Value) (qs : List Nat) (ss : List Int) (h : Hp) (sq : SlF h U vq qs) (s : SlF h I vs ss) (hsn : ss.length = n) (hsb : ∀ x ∈ ss, -9223372036854775808 ≤ x ∧ x < 9223372036854775808) (hn1 : 1 ≤ n) (hn : n ≤ 512) (h0 : 0 < qs.length) (h8 : qs.length ≤ 8) (hq : ∀ q ∈ qs, 1 < q ∧ q < 18446744073709551616) :
    CallsH Tryz.prog 41 [.agg #[N n, U t, vq, N w], vs] h fun v' h' => Ext h h' ∧ ∃ vz rz p, v' = .agg #[vz] ∧ RowsAt h' h.size p vz rz ∧ SqH n qs (qs.map (liftL ss)) (rz.map (·.2)) := by
  (apply enter Tryz.func41 rfl Tryz.ntmps41 rfl)
  refine runJ ?_
  (apply s_box; exact rfl; exact rfl; exact rfl; exact rfl)
  intro p2 h1 x1 e1 b1
  (try dsimp only [Value.cells, List.toList_toArray] at x1)
  refine ⟨(by first | exact trivial | exact Ext.refl _ | assumption | exact Ext.trans (by assumption) (by assumption)), ?_⟩
  refine runJ ?_
  (apply s_alloc; exact rfl; exact rfl; exact rfl)
  intro p4 h2 x2 e2 b2
  (try dsimp only [Value.cells, List.toList_toArray] at x2)
  refine ⟨(by first | exact trivial | exact Ext.refl _ | assumption | exact Ext.trans (by assumption) (by assumption)), ?_⟩
  have E2 := e1.trans e2
  have x12 := x1.ext e2
  have sq2 := sq.ext E2
  have s2 := s.ext E2
  have hq1 : ∀ q ∈ qs, 0 < q ∧ q < 18446744073709551616 := fun q h => by have := hq q h; omega
  refine runJ ?_
  apply (s_call Tryz_ent92 rfl rfl rfl)
  refine (refLift5_spec vq vs qs ss (qs.length - 1) h2 sq2 s2 hsb (by omega) (by omega) (by omega) hq1).mono ?_
  rintro _ h4 ⟨e4, vl, rl, pl, rfl, RL, ll, ml⟩
  refine ⟨(by first | exact trivial | exact Ext.refl _ | assumption | exact Ext.trans (by assumption) (by assumption)), ?_⟩
  have hvl := RL.own.sl.one
  refine runJ ?_
  (apply s_alloc; exact rfl; exact rfl; exact rfl)
  intro p5 h5 x5 e5 b5
  (try dsimp only [Value.cells, List.toList_toArray] at x5)
  refine ⟨(by first | exact trivial | exact Ext.refl _ | assumption | exact Ext.trans (by assumption) (by assumption)), ?_⟩
  refine runJ ?_
  (apply s_storeV; exact rfl; exact rfl; exact rfl; exact (OneAll.cons hvl OneAll.nil : OneAll [vl]); exact rfl; exact rfl; exact x5; exact rfl)
  intro h6 x6 k6
  refine ⟨trivial, ?_⟩
  have x6 : Var h6 p5 56 [vl] := x6
  have E6 : Ext h2 h6 := k6.oldV (e4.trans e5) b5 e4.1
  have RL6 := (RL.ext e5).neT x5 k6
  have x126 := x12.ext E6
  have x26 := x2.ext E6
  have sq6 := sq2.ext E6
  have lr : rl.length = qs.length := by omega
  have lf : ∀ (i q : Nat) (x : Value × List Nat), rl[i]? = some x → qs[i]? = some q → x.2 = liftL ss q ∧ x.2.length = n ∧ (∀ a ∈ x.2, a < 18446744073709551616) ∧ 1 < q ∧ q < 18446744073709551616 := fun i q x hx hqi => by
    have hqq := hq q (List.mem_of_getElem? hqi)
    have e := ml i q x hqi hx
    refine ⟨e, by rw [e]; unfold liftL; rw [List.length_map]; exact hsn, fun a ha => ?_, hqq.1, hqq.2⟩
    rw [e] at ha
    unfold liftL at ha
    obtain ⟨z, -, rfl⟩ := List.mem_map.1 ha
    have := liftm_lt9 (v := z) (t := q) (by omega)
    omega
  refine runJ ?_
  apply (s_call Tryz_ent93 rfl rfl rfl)
  refine (refMul5_spec vq vl vl qs rl rl n h6 sq6 RL6.pol RL6.pol rfl (by omega) (by omega) (by omega) (by omega) (fun i q x y hx hy hqi => by have a := lf i q x hx hqi; have b := lf i q y hy hqi; exact ⟨a.2.1, b.2.1, a.2.2.1, b.2.2.1, a.2.2.2⟩)).mono ?_
  rintro _ h7 ⟨e7, vm, rm, pm, rfl, RM, lm, mm⟩
  refine ⟨(by first | exact trivial | exact Ext.refl _ | assumption | exact Ext.trans (by assumption) (by assumption)), ?_⟩
  have hvm := RM.own.sl.one
  have x27 := x26.ext e7
  refine runJ ?_
  (apply s_storeV; exact rfl; exact rfl; exact rfl; exact (OneAll.cons hvm OneAll.nil : OneAll [vm]); exact rfl; exact rfl; exact x27; exact rfl)
  intro h8 x8 k8
  refine ⟨trivial, ?_⟩
  have x8 : Var h8 p4 56 [vm] := x8
  refine runJ ?_
  have E8 : Ext h h8 := k8.oldV ((E2.trans E6).trans e7) b2 e1.1
  refine finC rfl rfl x8 rfl rfl ⟨E8, vm, rm, pm, rfl, (RM.neT x27 k8).base (E2.trans E6).1, by rw [List.length_map]; omega, fun i q s' r hqi hs hr => ?_⟩
  obtain ⟨x, hx⟩ := get_lt (l := rl) (j := i) (by have := (List.getElem?_eq_some_iff.1 hqi).1; omega)
  rw [List.getElem?_map] at hr hs
  obtain ⟨rv, hrv, rfl⟩ := Option.map_eq_some_iff.1 hr
  obtain ⟨q', hq', rfl⟩ := Option.map_eq_some_iff.1 hs
  rw [hqi] at hq'; cases hq'
  have := mm i q x x rv hx hx hqi hrv
  rw [(lf i q x hx hqi).1] at this
  exact this

theorem Tryz_ent95 : Ent Tryz.prog 95 := ent_of Tryz.func95 (by kernel_rfl) rfl
set_option maxHeartbeats 2000000 in
theorem powerR_spec (n : Nat) (k : Int) (h : Hp) (hn : 2 ≤ n) (hn2 : n ≤ 4096) (hk : -9223372036854775808 ≤ k ∧ k < 9223372036854775808) :
    CallsH Tryz.prog 95 [N n, I k] h fun v' h' => v' = N (pow3 n (k.emod ((n / 2 : Nat) : Int)).toNat) ∧ h = h' := by
  obtain ⟨s, hs⟩ : ∃ s, s = n / 2 := ⟨_, rfl⟩
  rw [← hs]
  have hs1 : 1 ≤ s := by omega
  obtain ⟨e, he, hes, htm⟩ : ∃ e : Nat, (k.emod (s : Int)).toNat = e ∧ e < s ∧ (k.tmod (s : Int) = e ∨ k.tmod (s : Int) = (e : Int) - s) := by
    have h1 := Int.emod_nonneg k (show (s : Int) ≠ 0 by omega)
    have h2 := Int.emod_lt_of_pos k (show (0 : Int) < s by omega)
    have h3 := Int.tmod_eq_emod (a := k) (b := s)
    refine ⟨(k.emod (s : Int)).toNat, rfl, ?_, ?_⟩
    · change (k % (s : Int)).toNat < s
      omega
    · change k.tmod (s : Int) = ((k % (s : Int)).toNat : Int) ∨ k.tmod (s : Int) = ((k % (s : Int)).toNat : Int) - s
      rw [h3]
      split <;> omega
  have ht2 : (k.tmod (s : Int) + (s : Int)).tmod (s : Int) = (e : Int) := by
    rw [Int.tmod_eq_emod_of_nonneg (by omega)]
    rcases htm with h | h
    · rw [h, Int.add_emod_right, Int.emod_eq_of_lt (by omega) (by omega)]
    · rw [h, Int.sub_add_cancel, Int.emod_eq_of_lt (by omega) (by omega)]
  rw [he]
  (apply enter Tryz.func95 rfl Tryz.ntmps95 rfl)
  refine runJ ?_
  rw [← hs]
  refine s_remI (b := (s : Int)) rfl rfl rfl (by omega) ?_
  generalize hgt : k.tmod (s : Int) = tm at *
  refine runJ ?_
  rw [← hs]
  refine runJ ?_
  refine s_remI (b := (s : Int)) rfl rfl rfl (by omega) ?_
  rw [ht2]
  have hp0 : 1 = pow3 n 0 := by unfold pow3; rw [Nat.pow_zero, Nat.mod_eq_of_lt (by omega)]
  have hps : ∀ j, pow3 n j < 2 * n ∧ pow3 n j * 3 % (2 * n) = pow3 n (j + 1) := fun j => by
    refine ⟨Nat.mod_lt _ (by omega), ?_⟩
    unfold pow3
    rw [Nat.pow_succ, Nat.mod_mul_mod]
  refine runJ ?_
  (apply w_know (t := 5) (u := N (e)) rfl (congrArg I (by omega)))
  (first | (apply w_seqB; exact rfl; apply w_block; exact rfl) | skip)
  apply (w_loop (σ := Nat) rfl (fun j => [(0, N n), (5, N e), (6, N (pow3 n j)), (7, N j)]) (fun j h' => h = h' ∧ j ≤ e) (fun j => e - j) 0)
  · rw [← hp0]; exact (Sub.cons rfl (Sub.cons rfl (Sub.cons rfl (Sub.cons rfl (Sub.nil _)))))
  · exact ⟨rfl, Nat.zero_le _⟩
  rintro j h' ⟨rfl, j1⟩
  have hpj := (hps j).1
  have hpn := (hps j).2
  refine runJ ?_
  (apply w_condD; exact rfl; exact rfl) <;> intro hj
  · refine runJ ?_
    rw [hpn]
    refine runJ ?_
    apply again_normal (j + 1)
    · exact (Sub.cons rfl (Sub.cons rfl (Sub.cons rfl (Sub.cons rfl (Sub.nil _)))))
    · exact ⟨rfl, hj⟩
    · omega
  · obtain rfl : j = e := by omega
    refine runJ ?_
    exact fin1 rfl rfl ⟨rfl, rfl⟩

theorem Tryz_ent42 : Ent Tryz.prog 42 := ent_of Tryz.func42 (by kernel_rfl) rfl
set_option maxHeartbeats 2000000 in
theorem turnedR_spec (n t w : Nat) (vq vs : Value) (qs : List Nat) (ss : List Int) (k : Int) (h : Hp) (sq : SlF h U vq qs) (s : SlF h I vs ss) (hsn : ss.length = n) (hsb : ∀ x ∈ ss, -9223372036854775808 ≤ x ∧ x < 9223372036854775808) (hn1 : 2 ≤ n) (hn : n ≤ 512) (h0 : 0 < qs.length) (h8 : qs.length ≤ 8) (hq : ∀ q ∈ qs, 1 < q ∧ q < 18446744073709551616) (hk : -9223372036854775808 ≤ k ∧ k < 9223372036854775808) :
    CallsH Tryz.prog 42 [.agg #[N n, U t, vq, N w], vs, I k] h fun v' h' => Ext h h' ∧ ∃ vz rz p, v' = .agg #[vz] ∧ RowsAt h' h.size p vz rz ∧ TuH n qs k (qs.map (liftL ss)) (rz.map (·.2)) := by
  have PW := fun h => powerR_spec n k h hn1 (by omega) hk
  have hpw : pow3 n (k.emod ((n / 2 : Nat) : Int)).toNat < 2 * n := Nat.mod_lt _ (by omega)
  have hrl : ∀ x : List (Value × List Nat), (∀ (i q : Nat) (r : Value × List Nat), qs[i]? = some q → x[i]? = some r → r.2 = liftL ss q) → ∀ (i q : Nat) (r : Value × List Nat), x[i]? = some r → qs[i]? = some q → r.2 = liftL ss q ∧ r.2.length = n ∧ (∀ a ∈ r.2, a < 18446744073709551616) ∧ 0 < q ∧ q < 18446744073709551616 := fun x ml i q r hx hqi => by
    have hqq := hq q (List.mem_of_getElem? hqi)
    have e := ml i q r hqi hx
    refine ⟨e, by rw [e]; unfold liftL; rw [List.length_map]; exact hsn, fun a ha => ?_, by omega, hqq.2⟩
    rw [e] at ha
    unfold liftL at ha
    obtain ⟨z, -, rfl⟩ := List.mem_map.1 ha
    have := liftm_lt9 (v := z) (t := q) (by omega)
    omega
  generalize hpe : pow3 n (k.emod ((n / 2 : Nat) : Int)).toNat = pw at *
  have hq1 : ∀ q ∈ qs, 0 < q ∧ q < 18446744073709551616 := fun q h => by have := hq q h; omega
  (apply enter Tryz.func42 rfl Tryz.ntmps42 rfl)
  refine runJ ?_
  (apply s_box; exact rfl; exact rfl; exact rfl; exact rfl)
  intro p3 h1 x1 e1 b1
  (try dsimp only [Value.cells, List.toList_toArray] at x1)
  refine ⟨(by first | exact trivial | exact Ext.refl _ | assumption | exact Ext.trans (by assumption) (by assumption)), ?_⟩
  refine runJ ?_
  (apply s_alloc; exact rfl; exact rfl; exact rfl)
  intro p6 h2 x2 e2 b2
  (try dsimp only [Value.cells, List.toList_toArray] at x2)
  refine ⟨(by first | exact trivial | exact Ext.refl _ | assumption | exact Ext.trans (by assumption) (by assumption)), ?_⟩
  have E2 := e1.trans e2
  have x12 := x1.ext e2
  have sq2 := sq.ext E2
  have s2 := s.ext E2
  have hp36 : pblk p3 ≠ pblk p6 := by
    obtain ⟨b, hb, hl⟩ := x1.blk
    rw [hb, b2]; intro e; cases e; omega
  refine runJN ?_
  (apply (r_drawnO (pblk p6)); exact rfl; exact mixed; kernel_rfl)
  refine runJ ?_
  apply (s_call Tryz_ent92 rfl rfl rfl)
  refine (refLift5_spec vq vs qs ss (qs.length - 1) h2 sq2 s2 hsb (by omega) (by omega) (by omega) hq1).mono ?_
  rintro _ h4 ⟨e4, vl, rl, pl, rfl, RL, ll, ml⟩
  refine ⟨(by first | exact trivial | exact e4.only _), ?_⟩
  have sq4 := sq2.ext e4
  refine runJ ?_
  apply (s_call Tryz_ent95 rfl rfl rfl)
  refine (PW h4).mono ?_
  rintro _ _ ⟨rfl, rfl⟩
  refine ⟨(by first | exact trivial | exact e4.only _), ?_⟩
  refine runJ ?_
  apply (s_call Tryz_ent94 rfl rfl rfl)
  refine (refTurn5_spec vq vl qs rl pw n h4 sq4 RL.pol (by omega) (by omega) (by omega) (by omega) (by omega) (fun i q r hr hqi => (hrl rl ml i q r hr hqi).2)).mono ?_
  rintro _ h7 ⟨e7, vm, rm, pm, rfl, RM, lm, mm⟩
  refine ⟨(by first | exact trivial | exact (e4.trans e7).only _), ?_⟩
  have hvm := RM.own.sl.one
  have x27 := (x2.ext e4).ext e7
  refine runJ ?_
  (apply s_storeV; exact rfl; exact rfl; exact rfl; exact (OneAll.cons hvm OneAll.nil : OneAll [vm]); exact rfl; exact rfl; exact x27; exact rfl)
  intro h8 x8 k8
  refine ⟨((e4.trans e7).only _).trans k8, ?_⟩
  have x8 : Var h8 p6 56 [vm] := x8
  refine runJ ?_
  have E8 : Ext h h8 := k8.oldV ((E2.trans e4).trans e7) b2 e1.1
  refine finC rfl rfl x8 rfl rfl ⟨E8, vm, rm, pm, rfl, (RM.neT x27 k8).base (E2.trans e4).1, by rw [List.length_map]; omega, fun i q s' r hqi hs hr => ?_⟩
  obtain ⟨x, hx⟩ := get_lt (l := rl) (j := i) (by have := (List.getElem?_eq_some_iff.1 hqi).1; omega)
  rw [List.getElem?_map] at hr hs
  obtain ⟨rv, hrv, rfl⟩ := Option.map_eq_some_iff.1 hr
  obtain ⟨q', hq', rfl⟩ := Option.map_eq_some_iff.1 hs
  rw [hqi] at hq'; cases hq'
  have := mm i q x rv hx hqi hrv
  rw [(hrl rl ml i q x hx hqi).1] at this
  rw [hpe]
  exact this
end Go.Proofs.YtfcmdefigldpnaaGreatDoor


namespace Go.Proofs.YtfcmdefigldpnaaGreatDoor
set_option linter.unusedVariables false
set_option maxRecDepth 8000
open Go Go.Den Go.RowKit Go.Mth Go.Dig

theorem Tryz_ent91 : Ent Tryz.prog 91 := ent_of Tryz.func91 (by kernel_rfl) rfl
set_option maxHeartbeats 8000000 in
theorem hideR_spec (n t w : Nat) (vq vs vh tp : Value) (qs : List Nat) (ss : List Int) (B : Option Nat) (ds : List Nat) (H : List (Value × List Nat)) (h : Hp) (T : TapR h tp B ds false) (sq : SlF h U vq qs) (nq : vq.ownBlock = none ∨ vq.ownBlock ≠ pblk tp) (s : SlF h I vs ss) (ns : vs.ownBlock = none ∨ vs.ownBlock ≠ pblk tp) (hsn : ss.length = n) (hsb : ∀ x ∈ ss, -9223372036854775808 ≤ x ∧ x < 9223372036854775808)
    (SH : PolAt h vh H) (lH : H.length = qs.length) (nh : vh.ownBlock = none ∨ vh.ownBlock ≠ pblk tp) (nhr : ∀ x ∈ H, x.1.ownBlock = none ∨ x.1.ownBlock ≠ pblk tp) (fH : ∀ (i q : Nat) (x : Value × List Nat), H[i]? = some x → qs[i]? = some q → Fit n q x.2)
    (hn1 : 2 ≤ n) (hn : n ≤ 512) (h0 : 0 < qs.length) (h8 : qs.length ≤ 8) (hq : ∀ q ∈ qs, 1 < q ∧ q < 18446744073709551616) (hw : 1 ≤ w) (hw16 : w ≤ 16) :
    CallsH Tryz.prog 91 [.agg #[N n, U t, vq, N w], vs, .agg #[vh], tp] h fun v' h' => Only (pblk tp) h h' ∧ match hideG n w qs ds with
      | none => v' = .tuple #[.agg #[.slice none 0 0], .agg #[.slice none 0 0], N 11] ∧ ∃ ds, TapR h' tp B ds true
      | some ((a, e), ds') => ∃ vb va rb ra pb pa, v' = .tuple #[.agg #[vb], .agg #[va], N 0] ∧ RowsAt h' h.size pb vb rb ∧ RowsAt h' h.size pa va ra ∧ ra.map (·.2) = a ∧ rb.length = qs.length ∧ TapR h' tp B ds' false ∧
          ∀ (i q : Nat) (hr : Value × List Nat) (ai : List Nat) (b : Value × List Nat), qs[i]? = some q → H[i]? = some hr → a[i]? = some ai → rb[i]? = some b → HidB n q (liftL ss q) hr.2 ai e b.2 := by
  have hq1 : ∀ q ∈ qs, 0 < q ∧ q < 18446744073709551616 := fun q h => by have := hq q h; omega
  obtain ⟨tk, htk, htl⟩ := T.pb
  have hBl := T.bl
  have hpk : ∀ j, pblk tp = some j → j < h.size := fun j hj => by rw [htk] at hj; cases hj; exact htl
  (apply enter Tryz.func91 rfl Tryz.ntmps91 rfl)
  refine runJ ?_
  (apply s_box; exact rfl; exact rfl; exact rfl; exact rfl)
  intro p4 h1 x1 e1 b1
  (try dsimp only [Value.cells, List.toList_toArray] at x1)
  refine ⟨(by first | exact trivial | exact Ext.refl _ | assumption | exact Ext.trans (by assumption) (by assumption)), ?_⟩
  refine runJ ?_
  (apply s_box; exact rfl; exact rfl; exact rfl; exact rfl)
  intro p6 h2 x2 e2 b2
  (try dsimp only [Value.cells, List.toList_toArray] at x2)
  refine ⟨(by first | exact trivial | exact Ext.refl _ | assumption | exact Ext.trans (by assumption) (by assumption)), ?_⟩
  refine runJ ?_
  (apply s_alloc; exact rfl; exact rfl; exact rfl)
  intro p8 h3 x3 e3 b3
  (try dsimp only [Value.cells, List.toList_toArray] at x3)
  refine ⟨(by first | exact trivial | exact Ext.refl _ | assumption | exact Ext.trans (by assumption) (by assumption)), ?_⟩
  refine runJ ?_
  (apply s_alloc; exact rfl; exact rfl; exact rfl)
  intro p9 h4 x4 e4 b4
  (try dsimp only [Value.cells, List.toList_toArray] at x4)
  refine ⟨(by first | exact trivial | exact Ext.refl _ | assumption | exact Ext.trans (by assumption) (by assumption)), ?_⟩
  have E4 := ((e1.trans e2).trans e3).trans e4
  have hs1 : h.size < h1.size := by obtain ⟨j, hj, hl⟩ := x1.blk; rw [b1] at hj; cases hj; exact hl
  have hs2 : h1.size < h2.size := by obtain ⟨j, hj, hl⟩ := x2.blk; rw [b2] at hj; cases hj; exact hl
  have hs3 : h2.size < h3.size := by obtain ⟨j, hj, hl⟩ := x3.blk; rw [b3] at hj; cases hj; exact hl
  have hs4 : h3.size < h4.size := by obtain ⟨j, hj, hl⟩ := x4.blk; rw [b4] at hj; cases hj; exact hl
  have x14 := ((x1.ext e2).ext e3).ext e4
  have x24 : Var h4 p6 56 [vh] := (x2.ext e3).ext e4
  have x34 := x3.ext e4
  have hp4t : pblk p4 ≠ pblk tp := by rw [b1, htk]; intro e; have := Option.some.inj e; omega
  have hp6t : pblk p6 ≠ pblk tp := by rw [b2, htk]; intro e; have := Option.some.inj e; omega
  have hp8t : pblk p8 ≠ pblk tp := by rw [b3, htk]; intro e; have := Option.some.inj e; omega
  have hp9t : pblk p9 ≠ pblk tp := by rw [b4, htk]; intro e; have := Option.some.inj e; omega
  have hp89 : pblk p8 ≠ pblk p9 := by rw [b3, b4]; intro e; have := Option.some.inj e; omega
  have hge8 : ∀ j, pblk p8 = some j → h.size ≤ j := fun j hj => by rw [b3] at hj; have := Option.some.inj hj; omega
  have hge9 : ∀ j, pblk p9 = some j → h.size ≤ j := fun j hj => by rw [b4] at hj; have := Option.some.inj hj; omega
  have T4 := T.ext E4
  have sq4 := sq.ext E4
  have UR := uniformR_spec tp B n vq qs ds false h4 T4 sq4 nq hq1 (by omega) (by omega) (by omega) (by omega)
  simp only [Bool.false_eq_true, if_false] at UR
  refine runJ ?_
  apply (s_call Tryz_ent142 rfl rfl rfl)
  refine (UR).mono ?_
  rintro r h5 ⟨k5, G5⟩
  refine ⟨(by first | exact trivial | exact Ext.refl _ | assumption | exact Ext.trans (by assumption) (by assumption)), ?_⟩
  have K5 : Only (pblk tp) h h5 := (E4.only _).trans k5
  have x15 := x14.only k5 hp4t
  have x25 := x24.only k5 hp6t
  have x35 := x34.only k5 hp8t
  have x45 := x4.only k5 hp9t
  cases hU : uniG n qs ds with
  | none =>
    have hG : hideG n w qs ds = none := by unfold hideG; rw [hU]
    rw [hG]
    rw [hU] at G5
    obtain ⟨rfl, dso, T5⟩ := G5
    refine runJ ?_
    (apply s_alloc; exact rfl; exact rfl; exact rfl)
    intro p11 h6 x6 e6 b6
    (try dsimp only [Value.cells, List.toList_toArray] at x6)
    refine ⟨(by first | exact trivial | exact Ext.refl _ | assumption | exact Ext.trans (by assumption) (by assumption)), ?_⟩
    refine runJ ?_
    (apply s_storeV; exact rfl; exact rfl; exact rfl; exact (OneAll.cons rfl OneAll.nil : OneAll [.slice none 0 0]); exact rfl; exact rfl; exact x6; exact rfl)
    intro h7 x7 k7
    refine ⟨trivial, ?_⟩
    have E7 : Ext h5 h7 := k7.oldV e6 b6 (Nat.le_refl _)
    have x37 := x35.ext E7
    have x47 := x45.ext E7
    refine runJ ?_
    (apply (s_build ([.slice none 0 0])); exact rfl; exact rfl; exact rfl; (repeat (first | exact CellsAll.nil | (apply CellsAll.cons; (first | exact oneL (by assumption) | exact oneL (SlF.one (by assumption)) | exact oneL (SlF.one (OwnF.sl (by assumption))) | exact oneL (Var.one (by assumption)) | exact rfl)))); exact rfl; exact rfl)
    refine runJ ?_
    (apply (s_build ([.slice none 0 0])); exact rfl; exact rfl; exact rfl; (repeat (first | exact CellsAll.nil | (apply CellsAll.cons; (first | exact oneL (by assumption) | exact oneL (SlF.one (by assumption)) | exact oneL (SlF.one (OwnF.sl (by assumption))) | exact oneL (Var.one (by assumption)) | exact rfl)))); exact rfl; exact rfl)
    refine runJ ?_
    (apply s_storeV; exact rfl; exact rfl; exact rfl; exact (OneAll.cons rfl OneAll.nil : OneAll [.slice none 0 0]); exact rfl; exact rfl; exact x37; exact rfl)
    intro h8' x8 k8
    refine ⟨trivial, ?_⟩
    have x8 : Var h8' p8 56 [.slice none 0 0] := x8
    have x48 := x47.only k8 (fun e => hp89 e.symm)
    refine runJ ?_
    (apply s_storeV; exact rfl; exact rfl; exact rfl; exact (OneAll.cons rfl OneAll.nil : OneAll [.slice none 0 0]); exact rfl; exact rfl; exact x48; exact rfl)
    intro h9 x9 k9
    refine ⟨trivial, ?_⟩
    have x9 : Var h9 p9 56 [.slice none 0 0] := x9
    have x89 := x8.only k9 hp89
    refine runJ ?_
    have K7 := K5.trans (E7.only _)
    exact finCCT rfl rfl rfl rfl x89 x9 rfl rfl rfl rfl ⟨only_own (only_own K7 k8 hge8) k9 hge9, rfl, _, ((T5.ext E7).own k8 hpk hBl hge8).own k9 hpk hBl hge9⟩
  | some y =>
    obtain ⟨als, ds1⟩ := y
    rw [hU] at G5
    obtain ⟨va, ra, pa, rfl, RA, hma, T5⟩ := G5
    have hva := RA.own.sl.one
    refine runJ ?_
    (apply s_alloc; exact rfl; exact rfl; exact rfl)
    intro p11 h6 x6 e6 b6
    (try dsimp only [Value.cells, List.toList_toArray] at x6)
    refine ⟨(by first | exact trivial | exact Ext.refl _ | assumption | exact Ext.trans (by assumption) (by assumption)), ?_⟩
    refine runJ ?_
    (apply s_storeV; exact rfl; exact rfl; exact rfl; exact (OneAll.cons hva OneAll.nil : OneAll [va]); exact rfl; exact rfl; exact x6; exact rfl)
    intro h7 x7 k7
    refine ⟨trivial, ?_⟩
    have x7 : Var h7 p11 56 [va] := x7
    have E7 : Ext h5 h7 := k7.oldV e6 b6 (Nat.le_refl _)
    have x17 := x15.ext E7
    have x27 := x25.ext E7
    have x37 := x35.ext E7
    have x47 := x45.ext E7
    have RA7 := (RA.ext e6).neT x6 k7
    have T7 := T5.ext E7
    have K7 := K5.trans (E7.only _)
    have hp11t : pblk p11 ≠ pblk tp := by rw [b6, htk]; intro e; have := Option.some.inj e; have := K5.1; omega
    refine runJ ?_
    apply (s_call Tryz_ent143 rfl rfl rfl)
    refine (errorsR_spec tp B n w ds1 h7 T7 (by omega) (by omega) hw hw16).mono ?_
    rintro r h8' ⟨k8, G8⟩
    refine ⟨(by first | exact trivial | exact Ext.refl _ | assumption | exact Ext.trans (by assumption) (by assumption)), ?_⟩
    have K8 := K7.trans k8
    have x18 := x17.only k8 hp4t
    have x28 := x27.only k8 hp6t
    have x38 := x37.only k8 hp8t
    have x48 := x47.only k8 hp9t
    have x78 := x7.only k8 hp11t
    have RA8 := RA7.low (by rw [← htk]; exact k8) (Nat.lt_of_lt_of_le htl E4.1)
    cases hE : rowG (firstE w) n ds1 with
    | none =>
      have hG : hideG n w qs ds = none := by unfold hideG; rw [hU]; dsimp only; rw [hE]
      rw [hG]
      rw [hE] at G8
      obtain ⟨rfl, dso, T8⟩ := G8
      refine runJ ?_
      (apply (s_build ([.slice none 0 0])); exact rfl; exact rfl; exact rfl; (repeat (first | exact CellsAll.nil | (apply CellsAll.cons; (first | exact oneL (by assumption) | exact oneL (SlF.one (by assumption)) | exact oneL (SlF.one (OwnF.sl (by assumption))) | exact oneL (Var.one (by assumption)) | exact rfl)))); exact rfl; exact rfl)
      refine runJ ?_
      (apply (s_build ([.slice none 0 0])); exact rfl; exact rfl; exact rfl; (repeat (first | exact CellsAll.nil | (apply CellsAll.cons; (first | exact oneL (by assumption) | exact oneL (SlF.one (by assumption)) | exact oneL (SlF.one (OwnF.sl (by assumption))) | exact oneL (Var.one (by assumption)) | exact rfl)))); exact rfl; exact rfl)
      refine runJ ?_
      (apply s_storeV; exact rfl; exact rfl; exact rfl; exact (OneAll.cons rfl OneAll.nil : OneAll [.slice none 0 0]); exact rfl; exact rfl; exact x38; exact rfl)
      intro h9 x9 k9
      refine ⟨trivial, ?_⟩
      have x9 : Var h9 p8 56 [.slice none 0 0] := x9
      have x49 := x48.only k9 (fun e => hp89 e.symm)
      refine runJ ?_
      (apply s_storeV; exact rfl; exact rfl; exact rfl; exact (OneAll.cons rfl OneAll.nil : OneAll [.slice none 0 0]); exact rfl; exact rfl; exact x49; exact rfl)
      intro h10 x10 k10
      refine ⟨trivial, ?_⟩
      have x10 : Var h10 p9 56 [.slice none 0 0] := x10
      have x90 := x9.only k10 hp89
      refine runJ ?_
      exact finCCT rfl rfl rfl rfl x90 x10 rfl rfl rfl rfl ⟨only_own (only_own K8 k9 hge8) k10 hge9, rfl, _, (T8.own k9 hpk hBl hge8).own k10 hpk hBl hge9⟩
    | some y =>
      obtain ⟨es, ds2⟩ := y
      have hG : hideG n w qs ds = some ((als, es), ds2) := by unfold hideG; rw [hU]; dsimp only; rw [hE]
      rw [hG]
      rw [hE] at G8
      obtain ⟨ue, rfl, OE, T8⟩ := G8
      have sq8 := sq.only K8 nq
      have s8 := s.only K8 ns
      have sE := OE.sl
      obtain ⟨le, be⟩ := rowG_all (p := fun r : Int => -(w : Int) ≤ r ∧ r ≤ w) (fun ds r ds' h => by
        cases ds with
        | nil => cases h
        | cons d0 ds0 => cases h; exact errV_le w d0) _ ds1 es ds2 hE
      have be64 : ∀ x ∈ es, -9223372036854775808 ≤ x ∧ x < 9223372036854775808 := fun x hx => by have := be x hx; omega
      have lf : ∀ {z : List Int} (x : List (Value × List Nat)), z.length = n → (∀ (i q : Nat) (r : Value × List Nat), qs[i]? = some q → x[i]? = some r → r.2 = liftL z q) → ∀ (i q : Nat) (r : Value × List Nat), x[i]? = some r → qs[i]? = some q → r.2 = liftL z q ∧ r.2.length = n ∧ (∀ a ∈ r.2, a < 18446744073709551616) ∧ 1 < q ∧ q < 18446744073709551616 := fun {z} x hz ml i q r hx hqi => by
        have hqq := hq q (List.mem_of_getElem? hqi)
        have e := ml i q r hqi hx
        refine ⟨e, by rw [e]; unfold liftL; rw [List.length_map]; exact hz, fun a ha => ?_, hqq.1, hqq.2⟩
        rw [e] at ha
        unfold liftL at ha
        obtain ⟨z, -, rfl⟩ := List.mem_map.1 ha
        have := liftm_lt9 (v := z) (t := q) (by omega)
        omega
      have lra : ra.length = qs.length := by
        have := (uniG_all9 qs ds als ds1 (fun q hq => (hq1 q hq).1) hU).1
        rw [← hma, List.length_map] at this
        exact this
      have fA : ∀ (i q : Nat) (x : Value × List Nat), ra[i]? = some x → qs[i]? = some q → Fit n q x.2 := fun i q x hx hqi => by
        have := (uniG_all9 qs ds als ds1 (fun q hq => (hq1 q hq).1) hU).2 i q x.2 (by rw [← hma, List.getElem?_map, hx]; rfl) hqi
        exact this
      refine runJN ?_
      refine r_drawnKR (h := h8') (Ext h8') (fun i => Nat.beq i 9) (fun _ => false) Ext (fun _ p g => Var g p 56 [.slice none 0 0] ∧ ∃ b, pblk p = some b ∧ h8'.size ≤ b) rfl mixed (by kernel_rfl) (fun _ _ e => e) (fun _ _ _ _ a e => ⟨a.1.ext e, a.2⟩) (Ext.refl _) ?_
      refine k_run (j := 7) h8' rfl rfl (by kernel_rfl) (by kernel_rfl) ?_
      refine runJ ?_
      refine ⟨⟨rfl, ?_⟩⟩
      refine k_call rfl rfl rfl rfl Tryz_ent92 rfl ?_
      intro g1 hC1 hD1 hT1
      refine (refLift5_spec vq vs qs ss (qs.length - 1) g1 (sq8.ext hC1) (s8.ext hC1) hsb (by omega) (by omega) (by omega) hq1).mono ?_
      rintro _ g2 ⟨f2, vl, rl, pl, rfl, RL, ll, ml⟩
      refine ⟨hC1.trans f2, .inl ⟨f2, ?_⟩⟩
      have hlf := lf rl hsn ml
      have hvl := RL.own.sl.one
      refine k_call rfl rfl rfl rfl Tryz_ent93 rfl ?_
      intro g3 hC3 hD3 hT3
      have RL3 := RL.ext hD3
      refine (refMul5_spec vq va vl qs ra rl n g3 (sq8.ext hC3) (RA8.ext hC3).pol RL3.pol (by omega) (by omega) (by omega) (by omega) (by omega) (fun i q x y hx hy hqi => by
        have a := fA i q x hx hqi
        have b := hlf i q y hy hqi
        exact ⟨a.1, b.2.1, fun z hz => by have := a.2 z hz; have := b.2.2.2; omega, b.2.2.1, b.2.2.2⟩)).mono ?_
      rintro _ g4 ⟨f4, vm, rm, pm, rfl, RM, lm, mm⟩
      refine ⟨hC3.trans f4, .inl ⟨f4, ?_⟩⟩
      have hvm := RM.own.sl.one
      refine k_alloc rfl rfl rfl rfl rfl (fun g p g' hC x e b => ⟨hC.trans e, x, _, b, hC.1⟩) ?_
      intro p15
      refine k_storeV (p := p15) (u := .agg #[vm]) (us := [vm]) (cs := [.slice none 0 0]) (fun g => Ext h8' g ∧ Var g p15 56 [vm] ∧ RowsAt g h8'.size pm vm rm ∧ ∃ b, pblk p15 = some b ∧ h8'.size ≤ b) rfl rfl rfl rfl rfl rfl (OneAll.cons hvm OneAll.nil) rfl rfl (by kernel_rfl) (fun _ _ a e => ⟨a.1.trans e, a.2.1.ext e, a.2.2.1.ext e, a.2.2.2⟩) (fun g hC hD hT => (hT (9, p15) (by simp)).1) (fun g g' hC hD hT x k => ?_) ?_
      · obtain ⟨xo, b, hb, hbl⟩ := hT (9, p15) (by simp)
        have hC' := hC.1
        have e' : Ext h8' g' := ext_onlyR hC k fun j hj => by rw [hb] at hj; cases hj; exact hbl
        exact ⟨e', e', x, ((RM.ext hD).neT xo k).base hC3.1, b, hb, hbl⟩
      refine k_done rfl ?_
      rintro h10 hC10 ⟨e10, x10, RM10, b15, hb15, hl15⟩ -
      have x110 := x18.ext e10
      have x210 := x28.ext e10
      have sq10 := sq8.ext e10
      have sE10 := sE.ext e10
      have SH10 : PolAt h10 vh H := ⟨(SH.row.only K8 nh).ext e10, fun x hx => ((SH.el x hx).only K8 (nhr x hx)).ext e10⟩
      have lrm : rm.length = qs.length := by omega
      have fM : ∀ (i q : Nat) (x : Value × List Nat), rm[i]? = some x → qs[i]? = some q → Fit n q x.2 := fun i q x hx hqi => by
        have hi := (List.getElem?_eq_some_iff.1 hqi).1
        obtain ⟨xa, hxa⟩ := get_lt (l := ra) (j := i) (by omega)
        obtain ⟨xl, hxl⟩ := get_lt (l := rl) (j := i) (by omega)
        exact (mm i q xa xl x hxa hxl hqi hx).1
      refine runJN ?_
      refine r_drawnKR (h := h10) (Ext h10) (fun i => Nat.beq i 13) (fun _ => false) Ext (fun _ p g => Var g p 56 [.slice none 0 0] ∧ ∃ b, pblk p = some b ∧ h10.size ≤ b) rfl mixed (by kernel_rfl) (fun _ _ e => e) (fun _ _ _ _ a e => ⟨a.1.ext e, a.2⟩) (Ext.refl _) ?_
      refine k_run (j := 6) h10 rfl rfl (by kernel_rfl) (by kernel_rfl) ?_
      refine runJ ?_
      refine ⟨⟨rfl, ?_⟩⟩
      refine k_call rfl rfl rfl rfl Tryz_ent75 rfl ?_
      intro g11 hC11 hD11 hT11
      refine (refSub5_spec vq vh vm qs H rm g11 (sq10.ext hC11) (SH10.ext hC11) (RM10.ext hC11).pol (by omega) (by omega) (by omega) (fun i q x y hx hy hqi => by
        have a := fH i q x hx hqi
        have b := fM i q y hy hqi
        have hqq := hq q (List.mem_of_getElem? hqi)
        exact ⟨by rw [a.1, b.1], by rw [a.1]; omega, fun z hz => by have := a.2 z hz; omega, fun z hz => by have := b.2 z hz; omega, by omega, hqq.2⟩)).mono ?_
      rintro _ g12 ⟨f12, vs1, rs1, ps1, rfl, RS, ls1, ms1⟩
      refine ⟨hC11.trans f12, .inl ⟨f12, ?_⟩⟩
      have hvs1 := RS.own.sl.one
      have nl : ∀ (q : Nat) (x : List Nat), (negL q x).length = x.length := fun q x => by unfold negL; rw [List.length_map]
      have fS : ∀ (i q : Nat) (x : Value × List Nat), rs1[i]? = some x → qs[i]? = some q → Fit n q x.2 := fun i q x hx hqi => by
        have hi := (List.getElem?_eq_some_iff.1 hqi).1
        obtain ⟨xh, hxh⟩ := get_lt (l := H) (j := i) (by omega)
        obtain ⟨xm, hxm⟩ := get_lt (l := rm) (j := i) (by omega)
        have a := fH i q xh hxh hqi
        have b := fM i q xm hxm hqi
        have hqq := hq q (List.mem_of_getElem? hqi)
        rw [ms1 i q xh xm x hxh hxm hqi hx]
        refine ⟨by rw [addL_len (by rw [nl, a.1, b.1])]; exact a.1, fun z hz => ?_⟩
        unfold addL at hz
        obtain ⟨a1, b1, -, -, rfl⟩ := zip_mem hz
        exact addm_lt (by omega)
      refine k_run (j := 11) g12 rfl rfl (by kernel_rfl) (by kernel_rfl) ?_
      refine runJ ?_
      refine ⟨⟨rfl, ?_⟩⟩
      refine k_call rfl rfl rfl rfl Tryz_ent92 rfl ?_
      intro g13 hC13 hD13 hT13
      refine (refLift5_spec vq ue qs es (qs.length - 1) g13 (sq10.ext hC13) (sE10.ext hC13) be64 (by omega) (by omega) (by omega) hq1).mono ?_
      rintro _ g14 ⟨f14, ve, re, pe, rfl, RE, lle, mle⟩
      refine ⟨hC13.trans f14, .inl ⟨f14, ?_⟩⟩
      have hef := lf re le mle
      have hve := RE.own.sl.one
      refine k_call rfl rfl rfl rfl Tryz_ent75 rfl ?_
      intro g15 hC15 hD15 hT15
      refine (refSub5_spec vq vs1 ve qs rs1 re g15 (sq10.ext hC15) ((RS.ext hD13).ext (f14.trans hD15)).pol (RE.ext hD15).pol (by omega) (by omega) (by omega) (fun i q x y hx hy hqi => by
        have a := fS i q x hx hqi
        have b := hef i q y hy hqi
        exact ⟨by rw [a.1, b.2.1], by rw [a.1]; omega, fun z hz => by have := a.2 z hz; have := b.2.2.2; omega, b.2.2.1, by omega, b.2.2.2.2⟩)).mono ?_
      rintro _ g16 ⟨f16, vb, rb, pb, rfl, RB, lb, mb⟩
      refine ⟨hC15.trans f16, .inl ⟨f16, ?_⟩⟩
      have hvb := RB.own.sl.one
      refine k_alloc rfl rfl rfl rfl rfl (fun g p g' hC x e b => ⟨hC.trans e, x, _, b, hC.1⟩) ?_
      intro p16
      refine k_storeV (p := p16) (u := .agg #[vb]) (us := [vb]) (cs := [.slice none 0 0]) (fun g => Ext h10 g ∧ Var g p16 56 [vb] ∧ RowsAt g h10.size pb vb rb ∧ ∃ b, pblk p16 = some b ∧ h10.size ≤ b) rfl rfl rfl rfl rfl rfl (OneAll.cons hvb OneAll.nil) rfl rfl (by kernel_rfl) (fun _ _ a e => ⟨a.1.trans e, a.2.1.ext e, a.2.2.1.ext e, a.2.2.2⟩) (fun g hC hD hT => (hT (13, p16) (by simp)).1) (fun g g' hC hD hT x k => ?_) ?_
      · obtain ⟨xo, b, hb, hbl⟩ := hT (13, p16) (by simp)
        have hC' := hC.1
        have e' : Ext h10 g' := ext_onlyR hC k fun j hj => by rw [hb] at hj; cases hj; exact hbl
        exact ⟨e', e', x, ((RB.ext hD).neT xo k).base hC15.1, b, hb, hbl⟩
      refine k_done rfl ?_
      rintro h16 hC16 ⟨e16, x16, RB16, b16, hb16, hl16⟩ -
      have E816 := e10.trans e16
      have hK8 := K8.1
      have hs45 := K5.1
      have hk45 := k5.1
      have h810 := e10.1
      have h78 := E7.1
      have hk78 := k8.1
      have x1116 := x78.ext E816
      have x816 := x38.ext E816
      have x916 := x48.ext E816
      have hp168 : pblk p16 ≠ pblk p8 := by rw [hb16, b3]; intro e; have := Option.some.inj e; omega
      have hp169 : pblk p16 ≠ pblk p9 := by rw [hb16, b4]; intro e; have := Option.some.inj e; omega
      have hp118 : pblk p11 ≠ pblk p8 := by rw [b6, b3]; intro e; have := Option.some.inj e; omega
      have hp119 : pblk p11 ≠ pblk p9 := by rw [b6, b4]; intro e; have := Option.some.inj e; omega
      have RA16 := RA8.ext E816
      have K16 : Only (pblk tp) h h16 := K8.trans (E816.only _)
      have T16 := T8.ext E816
      refine runJN ?_
      (apply (r_drawnCl (fun h' => Two (pblk p8) (pblk p9) h16 h' ∧ Var h' p16 56 [vb] ∧ Var h' p11 56 [va])); exact rfl; exact mixed; kernel_rfl; exact ⟨Two.refl _ _ _, x16, x1116⟩)
      refine runJ ?_
      refine s_loadV rfl rfl (rd_cl fun h' hc => hc.2.1) rfl rfl ?_
      refine runJ ?_
      refine s_loadV rfl rfl (rd_cl fun h' hc => hc.2.2) rfl rfl ?_
      refine runJ ?_
      (apply s_storeV; exact rfl; exact rfl; exact rfl; exact (OneAll.cons hvb OneAll.nil : OneAll [vb]); exact rfl; exact rfl; exact x816; exact rfl)
      intro hA xA kA
      have xA : Var hA p8 56 [vb] := xA
      have xA9 := x916.only kA (fun e => hp89 e.symm)
      have xA16 := x16.only kA hp168
      have xA11 := x1116.only kA hp118
      refine ⟨⟨only_two1 kA, xA16, xA11⟩, ?_⟩
      refine runJ ?_
      (apply s_storeV; exact rfl; exact rfl; exact rfl; exact (OneAll.cons hva OneAll.nil : OneAll [va]); exact rfl; exact rfl; exact xA9; exact rfl)
      intro hB xB kB
      have xB : Var hB p9 56 [va] := xB
      have xB8 := xA.only kB hp89
      refine ⟨⟨(only_two1 kA).trans (only_two2 kB), xA16.only kB hp169, xA11.only kB hp119⟩, ?_⟩
      have KB := only_own (only_own K16 kA hge8) kB hge9
      refine runJ ?_
      have RBz := ((RB16.neT x816 kA).neT xA9 kB).base (Nat.le_trans hK8 h810)
      have RAz := ((RA16.neT x816 kA).neT xA9 kB).base E4.1
      refine finCCT rfl rfl rfl rfl xB8 xB rfl rfl rfl rfl ⟨KB, vb, va, rb, ra, pb, pa, rfl, RBz, RAz, hma, by omega, (T16.own kA hpk hBl hge8).own kB hpk hBl hge9, fun i q hr ai b hqi hh ha hb => ?_⟩
      have hi := (List.getElem?_eq_some_iff.1 hqi).1
      obtain ⟨x1, hx1⟩ := get_lt (l := rs1) (j := i) (by omega)
      obtain ⟨xm, hxm⟩ := get_lt (l := rm) (j := i) (by omega)
      obtain ⟨xl, hxl⟩ := get_lt (l := rl) (j := i) (by omega)
      obtain ⟨xe, hxe⟩ := get_lt (l := re) (j := i) (by omega)
      obtain ⟨xa, hxa⟩ := get_lt (l := ra) (j := i) (by omega)
      have hai : xa.2 = ai := by
        rw [← hma, List.getElem?_map, hxa] at ha
        exact Option.some.inj ha
      have hqq := hq q (List.mem_of_getElem? hqi)
      refine ⟨xm.2, ?_, ?_⟩
      · rw [← hai, ← (hlf i q xl hxl hqi).1]; exact mm i q xa xl xm hxa hxl hqi hxm
      · rw [mb i q x1 xe b hx1 hxe hqi hb, ms1 i q hr xm x1 hh hxm hqi hx1, (hef i q xe hxe hqi).1]
        refine (sub_two (by omega) (fH i q hr hh hqi).1 (fM i q xm hxm hqi).1 ?_).symm
        unfold liftL; rw [List.length_map]; exact le
end Go.Proofs.YtfcmdefigldpnaaGreatDoor

