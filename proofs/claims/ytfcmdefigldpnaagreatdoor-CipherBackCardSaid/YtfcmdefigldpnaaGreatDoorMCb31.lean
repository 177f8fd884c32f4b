/- Texts CrpC to CipQ of this work, joined, without what the law does not lean on. -/
import Derived.Test.YtfcmdefigldpnaaGreatDoorMCb30
namespace Go.Proofs.YtfcmdefigldpnaaGreatDoor
set_option linter.unusedVariables false
set_option maxRecDepth 8000
open Go Go.Den Go.RowKit Go.Dig Go.Mth

theorem Tryz_ent178 : Ent Tryz.prog 178 := ent_of Tryz.func178 (by kernel_rfl) rfl
set_option maxHeartbeats 1000000 in
theorem refResidues6_spec (neg : Bool) (va vq : Value) (X : Nat) (qs : List Nat) (h : Hp) (sa : SlF h U va (dg 18446744073709551616 X)) (sq : SlF h U vq qs) (hX : (dg 18446744073709551616 X).length < 1000000) (hq : ∀ q ∈ qs, 0 < q ∧ q < 18446744073709551616) (hl : qs.length ≤ 1000) :
    CallsH Tryz.prog 178 [.agg #[.bool neg, va], vq] h fun v' h' => Ext h h' ∧ OwnF h' h.size 26 U v' (qs.map fun q => liftm (IV neg X) q) := by
  have b64 : (1 : Nat) < 18446744073709551616 := by decide
  have b640 : (0 : Nat) < 18446744073709551616 := by decide
  have hva := sa.one
  (apply enter Tryz.func178 rfl Tryz.ntmps178 rfl)
  refine runJ ?_
  (apply s_box; exact rfl; exact rfl; exact rfl; exact rfl)
  intro p2 h1 x1 e1 b1
  (try dsimp only [Value.cells, List.toList_toArray] at x1)
  refine clsI ?_
  have x1 : Var h1 p2 124 [.bool neg, va] := x1
  have sq1 := sq.ext e1
  refine runJ ?_
  (first | (apply w_seqB; exact rfl; apply w_block; exact rfl) | skip)
  apply (w_loop (σ := Nat × Value) rfl (fun j => [(2, p2), (5, j.2), (9, vq), (10, N qs.length), (11, N j.1)])
    (fun j h' => Ext h1 h' ∧ j.1 ≤ qs.length ∧ OwnF h' h1.size 26 U j.2 ((qs.take j.1).map fun q => liftm (IV neg X) q)) (fun j => qs.length - j.1) (0, .slice none 0 0))
  · exact subs
  · exact ⟨Ext.refl _, Nat.zero_le _, OwnF.nil _ _ _ _⟩
  rintro ⟨j, vO⟩ h3 ⟨e3, j1, o3⟩
  dsimp only at e3 j1 o3 ⊢
  have E3 := e1.trans e3
  have x3 := x1.ext e3
  have sq3 := sq.ext E3
  have sa3 := sa.ext E3
  refine runJ ?_
  (apply w_condD; exact rfl; exact rfl) <;> intro hj
  · obtain ⟨q, hqj⟩ := get_lt hj
    obtain ⟨hq0, hq64⟩ := hq q (List.mem_of_getElem? hqj)
    have RM := rmod_spec va _ q h3 sa3 (al_dg b640 _) (by omega) hq64
    rw [vl_dg b64, if_neg (by omega)] at RM
    have hrm : X % q < q := Nat.mod_lt _ hq0
    have hre := resid_eq neg X q
    rw [if_neg (show ¬ q = 0 by omega)] at hre
    have hll : ((qs.take j).map fun q => liftm (IV neg X) q).length = j := by rw [List.length_map, List.length_take]; omega
    have hout : ∀ y, y = liftm (IV neg X) q → (qs.take j).map (fun q => liftm (IV neg X) q) ++ [y] = (qs.take (j + 1)).map (fun q => liftm (IV neg X) q) := fun y hy => by rw [take_snoc hqj, List.map_append, hy]; rfl
    refine runJ ?_
    apply (s_call Tryz_ent177 rfl rfl rfl)
    refine (RM).mono ?_
    rintro _ h4 ⟨rfl, e4⟩
    refine ⟨trivial, ?_⟩
    have x4 := x3.ext e4
    have o4 := o3.ext e4
    have e14 := e3.trans e4
    refine runJ ?_
    cases neg with
    | true =>
      refine runJ ?_
      apply (s_call Tryz_ent146 rfl rfl rfl)
      refine (refSub_spec 0 _ q h4 (by omega) (by omega) hq64).mono ?_
      rintro _ _ ⟨rfl, rfl⟩
      refine ⟨trivial, ?_⟩
      rw [if_pos rfl] at hre
      have hsm : subm 0 (X % q) q < q := subm_lt hq0
      refine runJ ?_
      generalize subm 0 (X % q) q = y at *
      (refine s_app1 (bytes := 8) (y) o4 e14 rfl rfl rfl rfl rfl rfl rfl rfl rfl (by first | exact rfl | exact congrArg some (congrArg I (by omega))) (fun _ => rfl) rfl rfl (fun _ _ => trivial) (by omega) (by simp only [maxLen]; omega) ?_)
      intro v5 h5 o5 e5 k5 b5
      refine runJ ?_
      apply again_normal (j + 1, v5)
      · exact subs
      · refine ⟨e5, hj, ?_⟩
        dsimp only
        rw [← hout _ hre]
        exact o5
      · dsimp only; omega
    | false =>
      rw [if_neg (by simp)] at hre
      refine runJ ?_
      generalize X % q = y at *
      (refine s_app1 (bytes := 8) (y) o4 e14 rfl rfl rfl rfl rfl rfl rfl rfl rfl (by first | exact rfl | exact congrArg some (congrArg I (by omega))) (fun _ => rfl) rfl rfl (fun _ _ => trivial) (by omega) (by simp only [maxLen]; omega) ?_)
      intro v5 h5 o5 e5 k5 b5
      refine runJ ?_
      apply again_normal (j + 1, v5)
      · exact subs
      · refine ⟨e5, hj, ?_⟩
        dsimp only
        rw [← hout _ hre]
        exact o5
      · dsimp only; omega
  · have hjl : j = qs.length := by omega
    subst hjl
    rw [List.take_length] at o3
    refine runJ ?_
    exact fin1 rfl rfl ⟨E3, o3.base e1.1⟩

theorem set_get9 {α : Type} {l : List α} {i j : Nat} {a x : α} (h : (l.set i a)[j]? = some x) : (j = i ∧ x = a) ∨ (j ≠ i ∧ l[j]? = some x) := by
  by_cases hij : i = j
  · subst hij
    have hl : i < l.length := by have := (List.getElem?_eq_some_iff.1 h).1; rwa [List.length_set] at this
    rw [List.getElem?_set_self hl] at h
    exact .inl ⟨rfl, (Option.some.inj h).symm⟩
  · rw [List.getElem?_set_ne hij] at h
    exact .inr ⟨fun e => hij e.symm, h⟩

theorem Tryz_ent138 : Ent Tryz.prog 138 := ent_of Tryz.func138 (by kernel_rfl) rfl
set_option maxHeartbeats 8000000 in
theorem refElement6_spec (vv vq : Value) (zs : List (Value × Int)) (qs : List Nat) (h : Hp) (s : SlA h intC 2 vv zs) (el : ∀ x ∈ zs, SlF h U x.1 (dg 18446744073709551616 x.2.natAbs)) (hz : ∀ x ∈ zs, (dg 18446744073709551616 x.2.natAbs).length < 1000000) (sq : SlF h U vq qs) (hq : ∀ q ∈ qs, 0 < q ∧ q < 18446744073709551616) (hl : zs.length ≤ 4096) (hlq : qs.length ≤ 1000) :
    CallsH Tryz.prog 138 [vv, vq] h fun v' h' => Ext h h' ∧ ∃ vr rows p, v' = .agg #[vr] ∧ RowsAt h' h.size p vr rows ∧ rows.map (·.2) = qs.map (liftL (zs.map (·.2))) := by
  (apply enter Tryz.func138 rfl Tryz.ntmps138 rfl)
  refine runJ ?_
  (apply s_alloc; exact rfl; exact rfl; exact rfl)
  intro p4 h1 x1 e1 b1
  (try dsimp only [Value.cells, List.toList_toArray] at x1)
  refine clsI ?_
  refine runJ ?_
  (apply (s_make (f := Prod.fst) (bytes := 24) (((.slice none 0 0, []) : Value × List Nat))); (first | exact isK_c | exact isK_t rfl); (first | exact isK_c | exact isK_t rfl); exact rfl; exact rfl; exact rfl; exact rfl; exact rfl; exact rfl; omega; omega; omega)
  intro vR h2 o2 e2 b2
  refine clsI ?_
  have o2one := o2.sl.one
  refine runJ ?_
  (apply (s_build ([vR])); exact rfl; exact rfl; exact rfl; (repeat (first | exact CellsAll.nil | (apply CellsAll.cons; (first | exact oneL (by assumption) | exact oneL (SlF.one (by assumption)) | exact oneL (SlF.one (OwnF.sl (by assumption))) | exact oneL (Var.one (by assumption)) | exact rfl)))); exact rfl; exact rfl)
  refine runJ ?_
  (apply s_alloc; exact rfl; exact rfl; exact rfl)
  intro p5 h3 x3 e3 b3
  (try dsimp only [Value.cells, List.toList_toArray] at x3)
  refine clsI ?_
  refine runJ ?_
  (apply s_storeV; exact rfl; exact rfl; exact rfl; exact (OneAll.cons o2one OneAll.nil : OneAll [vR]); exact rfl; exact rfl; exact x3; exact rfl)
  intro h4 x4 k4
  refine ⟨trivial, ?_⟩
  have x4 : Var h4 p5 56 [vR] := x4
  have e24 : Ext h2 h4 := k4.oldV e3 b3 (Nat.le_refl _)
  have e14 := e2.trans e24
  have E4 := e1.trans e14
  have x14 := x1.ext e14
  have o4 := o2.ext e24
  have hs23 : h1.size < h2.size := (o2.blk _ b2).2
  have hs34 : h2.size < h3.size := by obtain ⟨j, hj, hl⟩ := x3.blk; rw [b3] at hj; cases hj; exact hl
  have s4 := s.ext E4
  refine runJ ?_
  (first | (apply w_seqB; exact rfl; apply w_block; exact rfl) | skip)
  apply (w_loop (σ := Nat × List (Value × List Nat)) rfl (fun j => [(1, vq), (4, p4), (5, p5), (14, vv), (15, N zs.length), (16, N j.1)])
    (fun j h' => Ext h1 h' ∧ h4.size ≤ h'.size ∧ j.1 ≤ zs.length ∧ Var h' p4 56 [.slice none 0 0] ∧ Var h' p5 56 [vR] ∧ OwnF h' h1.size 22 Prod.fst vR j.2 ∧ j.2.length = qs.length ∧ (∀ x ∈ j.2, OwnF h' h4.size 26 U x.1 x.2) ∧ RowSep j.2 ∧
      ∀ (i q : Nat) (x : Value × List Nat), j.2[i]? = some x → qs[i]? = some q → x.2 = liftL ((zs.take j.1).map (·.2)) q) (fun j => zs.length - j.1) (0, List.replicate qs.length (.slice none 0 0, [])))
  · exact subs
  · refine ⟨e14, Nat.le_refl _, Nat.zero_le _, x14, x4, o4, List.length_replicate, fun x hx => ?_, fun i j x y hx hy _ => ?_, fun i q x hx hq => ?_⟩
    · rw [(List.mem_replicate.1 hx).2]; exact OwnF.nil _ _ _ _
    · rw [(List.mem_replicate.1 (List.mem_of_getElem? hx)).2]; exact .inl rfl
    · rw [(List.mem_replicate.1 (List.mem_of_getElem? hx)).2]; rfl
  rintro ⟨k, rows⟩ h5 ⟨e5, z5, k1, y5, x5, o5, l5, r5, d5, c5⟩
  dsimp only at e5 z5 k1 y5 x5 o5 l5 r5 d5 c5 ⊢
  have E5 := e1.trans e5
  have s5 := s.ext E5
  refine runJ ?_
  (apply w_condD; exact rfl; exact rfl) <;> intro hk
  · obtain ⟨⟨va, z⟩, hzk⟩ := get_lt hk
    have hzm := List.mem_of_getElem? hzk
    have sva := (el _ hzm).ext E5
    have lva := hz _ hzm
    dsimp only at sva lva
    have hva := sva.one
    refine runJ ?_
    (apply s_alloc; exact rfl; exact rfl; exact rfl)
    intro p7 h6 x6 e6 b6
    (try dsimp only [Value.cells, List.toList_toArray] at x6)
    refine clsI ?_
    refine runJ ?_
    (apply s_storeV; exact rfl; exact rfl; exact rfl; exact (OneAll.cons rfl (OneAll.cons hva OneAll.nil) : OneAll [.bool (decide (z < 0)), va]); exact rfl; exact rfl; exact x6; exact rfl)
    intro h7 x7 k7
    refine ⟨trivial, ?_⟩
    have x7 : Var h7 p7 124 [.bool (decide (z < 0)), va] := x7
    have e57 : Ext h5 h7 := k7.oldV e6 b6 (Nat.le_refl _)
    have RZ := refResidues6_spec (decide (z < 0)) va vq z.natAbs qs h7 (sva.ext e57) (sq.ext (E5.trans e57)) (by omega) hq hlq
    simp only [iv_nat] at RZ
    refine runJ ?_
    apply (s_call Tryz_ent178 rfl rfl rfl)
    refine (RZ).mono ?_
    rintro vr h8 ⟨e8, o8⟩
    refine ⟨trivial, ?_⟩
    have e58 := e57.trans e8
    have hrl : (qs.map fun q => liftm z q).length = qs.length := List.length_map ..
    have s8 := o8.sl
    have x58 := x5.ext e58
    have y58 := y5.ext e58
    have o58 := o5.ext e58
    have hr5 : ∀ x ∈ rows, ∀ b, x.1.ownBlock = some b → h4.size ≤ b ∧ b < h5.size := fun x hx b hb => (r5 x hx).blk b hb
    refine runJ ?_
    rw [hrl]
    (first | (apply w_seqB; exact rfl; apply w_block; exact rfl) | skip)
    apply (w_loop (σ := Nat × List (Value × List Nat)) rfl (fun i => [(1, vq), (4, p4), (5, p5), (14, vv), (15, N zs.length), (16, N k), (22, vr), (23, N qs.length), (24, N i.1)])
      (fun i h' => Ext h1 h' ∧ h8.size ≤ h'.size ∧ i.1 ≤ qs.length ∧ SlF h' U vr (qs.map fun q => liftm z q) ∧ Var h' p4 56 [.slice none 0 0] ∧ Var h' p5 56 [vR] ∧ OwnF h' h1.size 22 Prod.fst vR i.2 ∧ i.2.length = qs.length ∧ (∀ x ∈ i.2, OwnF h' h4.size 26 U x.1 x.2) ∧ (∀ x ∈ i.2, x.1.ownBlock = none ∨ x.1.ownBlock ≠ vr.ownBlock) ∧ RowSep i.2 ∧
        ∀ (j q : Nat) (x : Value × List Nat), i.2[j]? = some x → qs[j]? = some q → x.2 = liftL ((zs.take (if j < i.1 then k + 1 else k)).map (·.2)) q) (fun i => qs.length - i.1) (0, rows))
    · exact subs
    · refine ⟨e5.trans e58, Nat.le_refl _, Nat.zero_le _, s8, y58, x58, o58, l5, fun x hx => (r5 x hx).ext e58, fun x hx => ?_, d5, fun j q x hx hq => ?_⟩
      · cases hb : x.1.ownBlock with
        | none => exact .inl rfl
        | some b => exact .inr fun e => by have := (o8.blk _ e.symm).1; have := (hr5 x hx b hb).2; have := e57.1; omega
      · rw [if_neg (Nat.not_lt_zero _)]; exact c5 j q x hx hq
    clear y58 x58 o58
    rintro ⟨i, rs⟩ h9 ⟨e9, z9, i1, s9, y9, x9, o9, l9, r9, n9, d9, c9⟩
    dsimp only at e9 z9 i1 s9 y9 x9 o9 l9 r9 n9 d9 c9 ⊢
    refine runJ ?_
    (apply w_condD; exact rfl; exact rfl) <;> intro hi
    · obtain ⟨q, hqi⟩ := get_lt hi
      obtain ⟨⟨vi, ws⟩, hri⟩ := get_lt (l := rs) (j := i) (by omega)
      have hyi : (qs.map fun q => liftm z q)[i]? = some (liftm z q) := by rw [List.getElem?_map, hqi]; rfl
      have hrm := List.mem_of_getElem? hri
      have oi := r9 _ hrm
      have ni := n9 _ hrm
      have ci := c9 i q _ hri hqi
      dsimp only at oi ni ci
      rw [if_neg (Nat.lt_irrefl _)] at ci
      have hwl : ws.length = k := by rw [ci, lift_len, List.length_map, List.length_take]; omega
      have hbi : ∀ b, vi.ownBlock = some b → h4.size ≤ b := fun b hb => (oi.blk b hb).1
      have nR : vR.ownBlock = none ∨ vR.ownBlock ≠ vi.ownBlock := by
        rw [b2]; exact .inr fun e => by have := hbi _ e.symm; have := e24.1; omega
      have n5 : pblk p5 ≠ vi.ownBlock := by rw [b3]; intro e; have := hbi _ e.symm; have := k4.1; omega
      have n4 : pblk p4 ≠ vi.ownBlock := by rw [b1]; intro e; have := hbi _ e.symm; have := e24.1; have := e1.1; omega
      have hsR9 := o9.sl
      refine runJN ?_
      (apply (r_drawnT 12 (Only vi.ownBlock h9)); exact rfl; exact mixed; kernel_rfl; exact rfl; first | exact Ext.refl _ | exact Only.refl _ _)
      refine runJ ?_
      (apply (s_litF (f := U) [liftm z q] (fun _ => rfl)); exact rfl; exact rfl; exact rfl; exact rfl; exact rfl; exact rfl; exact rfl; exact rfl; omega)
      intro w10 h10 o10 e10 b10
      refine ⟨(by first | exact e10.only _ | exact trivial | exact Ext.refl _ | assumption | exact Ext.trans (by assumption) (by assumption)), ?_⟩
      have hone : [liftm z q].length = 1 := rfl
      have hz10 : h4.size ≤ h10.size := Nat.le_trans z5 (Nat.le_trans e58.1 (Nat.le_trans z9 e10.1))
      refine runJ ?_
      (apply (s_appendF (bytes := 8)); exact rfl; exact rfl; exact rfl; exact rfl; exact rfl; exact rfl; exact rfl; exact (oi.ext e10); exact o10.sl; exact fun _ => rfl; (first | exact Nat.le_refl _ | exact ext_size (by assumption) | omega); ((try simp only [maxLen]); (try simp only [List.length_nil]); (try simp only [List.length_append]); omega); ((try simp only [List.length_nil]); (try simp only [List.length_append]); omega))
      intro v11 h11 o11 k11 b11
      refine ⟨(by first | exact ((e10.only _).trans k11) | exact trivial | exact Ext.refl _ | assumption | exact Ext.trans (by assumption) (by assumption)), ?_⟩
      have k911 := (e10.only vi.ownBlock).trans k11
      refine runJ ?_
      apply tail_end
      have o9R := (o9.ext e10).only k11 nR
      have v11one := o11.sl.one
      refine runJ ?_
      refine s_storeF ((v11, ws ++ [liftm z q]) : Value × List Nat) rfl rfl rfl rfl rfl o9R v11one (by omega) ?_
      intro h12 o12 k12
      refine ⟨trivial, ?_⟩
      have hs01 : h.size < h1.size := by obtain ⟨j, hj, hl⟩ := x1.blk; rw [b1] at hj; cases hj; exact hl
      have h14s : h1.size < h4.size := by have := k4.1; omega
      have e112 : Ext h1 h12 := ext_onlyR (ext_onlyR (e9.trans e10) k11 fun b hb => by have := hbi b hb; omega) k12 fun b hb => by rw [b2] at hb; cases hb; exact Nat.le_refl _
      have hvr : ∀ b, vr.ownBlock = some b → h7.size ≤ b ∧ b < h8.size := fun b hb => o8.blk b hb
      have nvi : vr.ownBlock = none ∨ vr.ownBlock ≠ vi.ownBlock := by
        cases hb : vr.ownBlock with
        | none => exact .inl rfl
        | some b => exact .inr fun e => by rcases ni with n | n
                                           · rw [n] at e; cases e
                                           · exact n (by rw [← e, hb])
      have nhi : ∀ {w : Value}, (∀ b, w.ownBlock = some b → h4.size ≤ b) → w.ownBlock = none ∨ w.ownBlock ≠ vR.ownBlock := fun {w} hw => by
        cases hb : w.ownBlock with
        | none => exact .inl rfl
        | some b => exact .inr fun e => by rw [b2] at e; cases e; have := hw _ hb; omega
      have nvR := nhi (w := vr) fun b hb => by have := (hvr b hb).1; have := e57.1; omega
      have h11w : ∀ b, v11.ownBlock = some b → h4.size ≤ b := fun b hb => (o11.blk b hb).1
      have hrs : ∀ x ∈ rs, ∀ b, x.1.ownBlock = some b → h4.size ≤ b ∧ b < h9.size := fun x hx b hb => (r9 x hx).blk b hb
      have n4R : pblk p4 ≠ vR.ownBlock := by rw [b1, b2]; intro e; have := Option.some.inj e; omega
      have n5R : pblk p5 ≠ vR.ownBlock := by rw [b3, b2]; intro e; have := Option.some.inj e; omega
      refine runJ ?_
      apply again_normal (i + 1, rs.set i (v11, ws ++ [liftm z q]))
      · exact subs
      · refine ⟨e112, Nat.le_trans z9 (Nat.le_trans k911.1 k12.1), hi, (s9.only k911 nvi).only k12 nvR, (y9.only k911 n4).only k12 n4R, (x9.only k911 n5).only k12 n5R, o12, by dsimp only; rw [List.length_set]; exact l9, fun x hx => ?_, fun x hx => ?_, fun j1 j2 x y hx hy hj => ?_, fun j q' x hx hq' => ?_⟩
        · obtain ⟨j, hj⟩ := List.getElem?_of_mem hx
          rcases set_get9 hj with ⟨-, rfl⟩ | ⟨hne, hj⟩
          · exact o11.only k12 (nhi h11w)
          · have hxm := List.mem_of_getElem? hj
            exact ((r9 x hxm).only k911 (d9 j i x _ hj hri hne)).only k12 (nhi fun b hb => (hrs x hxm b hb).1)
        · obtain ⟨j, hj⟩ := List.getElem?_of_mem hx
          rcases set_get9 hj with ⟨-, rfl⟩ | ⟨hne, hj⟩
          · dsimp only
            rcases b11 with b11 | ⟨b, b11, hb⟩
            · rw [b11]; exact ni
            · rw [b11]; exact .inr fun e => by have := (hvr b e.symm).2; have := e10.1; omega
          · exact n9 x (List.mem_of_getElem? hj)
        · have key : ∀ (j : Nat) (y : Value × List Nat), rs[j]? = some y → j ≠ i → (v11.ownBlock = none ∨ v11.ownBlock ≠ y.1.ownBlock) ∧ (y.1.ownBlock = none ∨ y.1.ownBlock ≠ v11.ownBlock) := fun j y hy hj => by
            rcases b11 with b11 | ⟨b, b11, hb⟩
            · rw [b11]; exact ⟨d9 i j _ y hri hy (fun e => hj e.symm), d9 j i y _ hy hri hj⟩
            · have hlt : y.1.ownBlock ≠ some b := fun e => by have := (hrs y (List.mem_of_getElem? hy) b e).2; have := e10.1; omega
              rw [b11]; exact ⟨.inr fun e => hlt e.symm, .inr hlt⟩
          rcases set_get9 hx with ⟨h1, rfl⟩ | ⟨h1, hx⟩ <;> rcases set_get9 hy with ⟨h2, rfl⟩ | ⟨h2, hy⟩
          · omega
          · exact (key j2 y hy h2).1
          · exact (key j1 x hx h1).2
          · exact d9 j1 j2 x y hx hy hj
        · dsimp only
          rcases set_get9 hx with ⟨rfl, rfl⟩ | ⟨hne, hx⟩
          · rw [hqi] at hq'; cases hq'
            rw [if_pos (Nat.lt_succ_self _), take_snoc hzk, List.map_append, ci]
            unfold liftL
            rw [List.map_append]; rfl
          · rw [c9 j q' x hx hq']
            by_cases hji : j < i
            · rw [if_pos hji, if_pos (by omega)]
            · rw [if_neg hji, if_neg (by omega)]
      · dsimp only; omega
    · have hiq : i = qs.length := by omega
      subst hiq
      refine runJ ?_
      apply again_normal (k + 1, rs)
      · exact subs
      · refine ⟨e9, Nat.le_trans z5 (Nat.le_trans e58.1 z9), hk, y9, x9, o9, l9, r9, d9, fun j q' x hx hq' => ?_⟩
        dsimp only
        rw [c9 j q' x hx hq', if_pos (List.getElem?_eq_some_iff.1 hq').1]
      · dsimp only; omega
  · have hkl : k = zs.length := by omega
    subst hkl
    rw [List.take_length] at c5
    have hs01 : h.size < h1.size := by obtain ⟨j, hj, hl⟩ := x1.blk; rw [b1] at hj; cases hj; exact hl
    have h14s : h1.size < h4.size := by have := k4.1; omega
    have o5one := o5.sl.one
    refine runJ ?_
    (apply s_storeV; exact rfl; exact rfl; exact rfl; exact (OneAll.cons o5one OneAll.nil : OneAll [vR]); exact rfl; exact rfl; exact y5; exact rfl)
    intro h6 x6 k6
    refine ⟨trivial, ?_⟩
    have x6 : Var h6 p4 56 [vR] := x6
    have n4R : vR.ownBlock = none ∨ vR.ownBlock ≠ pblk p4 := by rw [b1, b2]; exact .inr fun e => by have := Option.some.inj e; omega
    have E6 : Ext h h6 := ext_onlyR E5 k6 fun b hb => by rw [b1] at hb; cases hb; exact Nat.le_refl _
    refine runJ ?_
    refine finC rfl rfl x6 rfl rfl ⟨E6, vR, rows, none, rfl, ⟨(o5.only k6 n4R).base e1.1, fun x hx => ?_, fun x hx => ?_, fun x hx => ?_, by rw [b2]; exact .inr fun e => by cases e⟩, ?_⟩
    · refine ((r5 x hx).only k6 ?_).base E4.1
      cases hb : x.1.ownBlock with
      | none => exact .inl rfl
      | some b => exact .inr fun e => by rw [b1] at e; cases e; have := ((r5 x hx).blk _ hb).1; omega
    · cases hb : x.1.ownBlock with
      | none => exact .inl rfl
      | some b => exact .inr fun e => by rw [b2] at e; cases e; have := ((r5 x hx).blk _ hb).1; omega
    · cases hb : x.1.ownBlock with
      | none => exact .inl rfl
      | some b => exact .inr fun e => by cases e
    · apply List.ext_getElem?
      intro i
      rw [List.getElem?_map, List.getElem?_map]
      cases hqi : qs[i]? with
      | none => rw [List.getElem?_eq_none_iff.2 (by have := List.getElem?_eq_none_iff.1 hqi; omega)]; rfl
      | some q =>
        obtain ⟨x, hx⟩ := get_lt (l := rows) (j := i) (by have := (List.getElem?_eq_some_iff.1 hqi).1; omega)
        rw [hx, Option.map_some, Option.map_some, c5 i q x hx hqi]

theorem Tryz_ent175 : Ent Tryz.prog 175 := ent_of Tryz.func175 (by kernel_rfl) rfl
theorem refModulus8_spec (n t w : Nat) (vq : Value) (qs : List Nat) (h : Hp) (sq : SlF h U vq qs) (hal : Al 18446744073709551616 qs) (h0 : 0 < qs.length) (h8 : qs.length ≤ 8) :
    CallsH Tryz.prog 175 [.agg #[N n, U t, vq, N w], N (qs.length - 1)] h fun v' h' => Ext h h' ∧ OwnF h' h.size 26 U v' (dg 18446744073709551616 (prodL qs)) := by
  have hne : qs ≠ [] := fun e => by rw [e] at h0; exact absurd h0 (by decide)
  have hqo := sq.one
  (apply enter Tryz.func175 rfl Tryz.ntmps175 rfl)
  refine runJ ?_
  (apply s_box; exact rfl; exact rfl; exact rfl; exact rfl)
  intro p2 h1 x1 e1 b1
  (try dsimp only [Value.cells, List.toList_toArray] at x1)
  refine clsI ?_
  have c1 := (sq.ext e1).cut (lo := 0) (hi := qs.length - 1 + 1) (Nat.zero_le _) (by omega)
  rw [List.drop_zero, Nat.sub_zero, List.take_of_length_le (by omega)] at c1
  have sq1 := sq.ext e1
  refine runJ ?_
  apply (s_call Tryz_ent89 rfl rfl rfl)
  refine (refProduct_spec _ qs h1 c1 hal (by omega)).mono ?_
  rintro v h2 ⟨e2, o2⟩
  refine ⟨trivial, ?_⟩
  rw [if_neg hne] at o2
  refine runJ ?_
  exact fin1 rfl rfl ⟨e1.trans e2, o2.base e1.1⟩

theorem Tryz_ent134 : Ent Tryz.prog 134 := ent_of Tryz.func134 (by kernel_rfl) rfl
theorem refStep8_spec (n t w : Nat) (vq : Value) (qs : List Nat) (h : Hp) (sq : SlF h U vq qs) (hal : Al 18446744073709551616 qs) (h0 : 0 < qs.length) (h8 : qs.length ≤ 8) (ht0 : 0 < t) (ht : t < 18446744073709551616) :
    CallsH Tryz.prog 134 [.agg #[N n, U t, vq, N w], N (qs.length - 1)] h fun v' h' => Ext h h' ∧ ∃ vs, v' = .tuple #[vs, U (prodL qs % t)] ∧ OwnF h' h.size 26 U vs (dg 18446744073709551616 (prodL qs / t)) := by
  have b64 : (1 : Nat) < 18446744073709551616 := by decide
  have b640 : (0 : Nat) < 18446744073709551616 := by decide
  have hqo := sq.one
  have lQ : (dg 18446744073709551616 (prodL qs)).length < 1000 := by
    have := dg_len (b := 18446744073709551616) b64 (prodL_lt hal)
    omega
  (apply enter Tryz.func134 rfl Tryz.ntmps134 rfl)
  refine runJ ?_
  (apply s_box; exact rfl; exact rfl; exact rfl; exact rfl)
  intro p2 h1 x1 e1 b1
  (try dsimp only [Value.cells, List.toList_toArray] at x1)
  refine clsI ?_
  refine runJ ?_
  apply (s_call Tryz_ent175 rfl rfl rfl)
  refine (refModulus8_spec n t w vq qs h1 (sq.ext e1) hal h0 h8).mono ?_
  rintro vQ h2 ⟨e2, o2⟩
  refine ⟨trivial, ?_⟩
  have x2 := x1.ext e2
  refine runJ ?_
  (apply (s_litF (f := U) [t] (fun _ => rfl)); exact rfl; exact rfl; exact rfl; exact rfl; exact rfl; exact rfl; exact rfl; exact rfl; omega)
  intro w3 h3 o3 e3 b3
  refine clsI ?_
  have x3 := x2.ext e3
  have o23 := o2.ext e3
  have RD := rdiv_spec vQ w3 _ [t] h3 o23.sl o3.sl (al_dg b640 _) (Al.cons ht Al.nil) (by omega) (by simp)
  rw [vl_dg b64, show vl 18446744073709551616 [t] = t by simp [vl]] at RD
  refine runJ ?_
  apply (s_call Tryz_ent176 rfl rfl rfl)
  refine (RD).mono ?_
  rintro _ h4 ⟨vs, vr, rfl, e4, o4, -⟩
  refine ⟨trivial, ?_⟩
  have x4 := x3.ext e4
  have RM := rmod_spec vQ _ t h4 (o23.ext e4).sl (al_dg b640 _) (by omega) ht
  rw [vl_dg b64, if_neg (by omega)] at RM
  refine runJ ?_
  apply (s_call Tryz_ent177 rfl rfl rfl)
  refine (RM).mono ?_
  rintro _ h5 ⟨rfl, e5⟩
  refine ⟨trivial, ?_⟩
  have hE := ((e1.trans e2).trans e3).trans e4
  refine runJ ?_
  exact fin2 rfl rfl rfl ⟨hE.trans e5, vs, rfl, (o4.ext e5).base ((e1.trans e2).trans e3).1⟩

theorem Tryz_ent77 : Ent Tryz.prog 77 := ent_of Tryz.func77 (by kernel_rfl) rfl
set_option maxHeartbeats 4000000 in
theorem refSpread12_spec (n t w : Nat) (vq vt : Value) (ms qs : List Nat) (h : Hp) (sq : SlF h U vq qs) (hq : ∀ q ∈ qs, 0 < q ∧ q < 18446744073709551616) (h0 : 0 < qs.length) (h8 : qs.length ≤ 8) (ht0 : 0 < t) (ht30 : t < 1073741824) (sm : SlF h U vt ms) (hm : Fit n t ms) (hn : n ≤ 4096) :
    CallsH Tryz.prog 77 [.agg #[N n, U t, vq, N w], vt, N (qs.length - 1)] h fun v' h' => Ext h h' ∧ ∃ vr rows p, v' = .agg #[vr] ∧ RowsAt h' h.size p vr rows ∧ rows.map (·.2) = qs.map (liftL (sprZ (prodL qs / t) t ms)) := by
  have b64 : (1 : Nat) < 18446744073709551616 := by decide
  have b640 : (0 : Nat) < 18446744073709551616 := by decide
  have hqo := sq.one
  have hal : Al 18446744073709551616 qs := fun q h => (hq q h).2
  have lm := hm.1
  have hSl : prodL qs / t < 18446744073709551616 ^ (qs.length + 1) := Nat.lt_of_le_of_lt (Nat.div_le_self _ _) (prodL_lt hal)
  have ST := fun h sq => refStep8_spec n t w vq qs h sq hal h0 h8 ht0 (by omega)
  generalize hSe : prodL qs / t = S at *
  have lS : (dg 18446744073709551616 S).length ≤ 9 := by
    have := dg_len (b := 18446744073709551616) (n := S) (k := qs.length + 1) (by decide) hSl
    omega
  (apply enter Tryz.func77 rfl Tryz.ntmps77 rfl)
  refine runJ ?_
  (apply s_box; exact rfl; exact rfl; exact rfl; exact rfl)
  intro p3 h1 x1 e1 b1
  (try dsimp only [Value.cells, List.toList_toArray] at x1)
  refine clsI ?_
  refine runJ ?_
  (apply s_alloc; exact rfl; exact rfl; exact rfl)
  intro p6 h2 x2 e2 b2
  (try dsimp only [Value.cells, List.toList_toArray] at x2)
  refine clsI ?_
  have x12 := x1.ext e2
  have E2 := e1.trans e2
  refine runJ ?_
  apply (s_call Tryz_ent134 rfl rfl rfl)
  refine (ST h2 (sq.ext E2)).mono ?_
  rintro _ h3 ⟨e3, vs, rfl, os⟩
  refine ⟨trivial, ?_⟩
  have E3 := E2.trans e3
  have x13 := x12.ext e3
  have x23 := x2.ext e3
  have sm3 := sm.ext E3
  refine runJ ?_
  (first | (apply w_seqB; exact rfl; apply w_block; exact rfl) | skip)
  apply (w_loop (σ := Nat × Value × List (Value × Int)) rfl (fun j => [(2, N (qs.length - 1)), (3, p3), (6, p6), (7, vs), (9, j.2.1), (20, vt), (21, N ms.length), (22, N j.1)])
    (fun j h' => Ext h3 h' ∧ j.1 ≤ ms.length ∧ IntsAt h' h3.size j.2.1 j.2.2 ∧ j.2.2.map (·.2) = (sprZ S t ms).take j.1) (fun j => ms.length - j.1) (0, .slice none 0 0, []))
  · exact subs
  · exact ⟨Ext.refl _, Nat.zero_le _, ⟨Own.nil _ _ _ _, fun x hx => absurd hx List.not_mem_nil, fun x hx => absurd hx List.not_mem_nil⟩, rfl⟩
  rintro ⟨j, vO, xs⟩ h5 ⟨e5, j1, I5, m5⟩
  dsimp only at e5 j1 I5 m5 ⊢
  have E5 := E3.trans e5
  have sm5 := sm3.ext e5
  have x35 := x13.ext e5
  have os5 := os.ext e5
  have hlz : (sprZ S t ms).length = ms.length := by unfold sprZ; rw [List.length_map]
  have hxl : xs.length = j := by
    have := congrArg List.length m5
    rw [List.length_map, List.length_take] at this
    omega
  refine runJ ?_
  (apply w_condD; exact rfl; exact rfl) <;> intro hj
  · obtain ⟨x, hxj⟩ := get_lt hj
    have hxt := hm.2 x (List.mem_of_getElem? hxj)
    obtain ⟨c1, c2, c3⟩ := cent_facts hxt ht30
    refine runJ ?_
    apply (s_call Tryz_ent135 rfl rfl rfl)
    refine (refCenter_spec x t h5 (by omega) (by omega)).mono ?_
    rintro _ _ ⟨rfl, rfl⟩
    refine ⟨trivial, ?_⟩
    have hzj : (sprZ S t ms)[j]? = some (centerm x t * (S : Int)) := by
      unfold sprZ
      rw [List.getElem?_map, hxj]; rfl
    generalize hce : centerm x t = c at *
    obtain ⟨cu, hcu⟩ : ∃ m : Nat, c % 18446744073709551616 = (m : Int) := ⟨(c % 18446744073709551616).toNat, by omega⟩
    have hcu2 : 0 ≤ c → cu = c.natAbs := by omega
    refine runJ ?_
    (apply s_convUw cu; exact rfl; exact rfl; exact rfl; exact rfl; exact hcu)
    refine runJ ?_
    (apply (s_litF (f := U) [cu] (fun _ => rfl)); exact rfl; exact rfl; exact rfl; exact rfl; exact rfl; exact rfl; exact rfl; exact rfl; omega)
    intro w6 h6 o6 e6 b6
    refine clsI ?_
    have RW := rwhole_spec false w6 [cu] h6 o6.sl (Al.cons (by omega) Al.nil) (by simp)
    rw [show vl 18446744073709551616 [cu] = cu by simp [vl]] at RW
    refine runJ ?_
    apply (s_call Tryz_ent136 rfl rfl rfl)
    refine (RW).mono ?_
    rintro _ h7 ⟨va, rfl, e7, o7⟩
    refine ⟨trivial, ?_⟩
    have hva := o7.sl.one
    have e57 := e6.trans e7
    have x37 := x35.ext e57
    refine runJ ?_
    (apply s_alloc; exact rfl; exact rfl; exact rfl)
    intro p13 h8 x8 e8 b8
    (try dsimp only [Value.cells, List.toList_toArray] at x8)
    refine clsI ?_
    refine runJ ?_
    (apply s_storeV; exact rfl; exact rfl; exact rfl; exact (OneAll.cons rfl (OneAll.cons hva OneAll.nil) : OneAll [.bool (false && decide (cu ≠ 0)), va]); exact rfl; exact rfl; exact x8; exact rfl)
    intro h9 x9 k9
    refine ⟨trivial, ?_⟩
    have x9 : Var h9 p13 124 [.bool (false && decide (cu ≠ 0)), va] := x9
    have e79 : Ext h7 h9 := k9.oldV e8 b8 (Nat.le_refl _)
    have e59 := e57.trans e79
    have hs78 : h7.size < h9.size := by obtain ⟨b, hb, hl⟩ := x9.blk; rw [b8] at hb; cases hb; exact hl
    refine runJ ?_
    apply (w_tcut (σ := Value) (fun _ => [(2, N (qs.length - 1)), (3, p3), (6, p6), (7, vs), (9, vO), (12, I c), (13, p13), (20, vt), (21, N ms.length), (22, N j)])
      (fun s h' => Ext h5 h' ∧ Var h' p13 124 [.bool (decide (c < 0)), s] ∧ OwnF h' h5.size 26 U s (dg 18446744073709551616 c.natAbs)))
    · (apply w_condD; exact rfl; exact rfl) <;> intro hc
      · refine runJ ?_
        refine o_know (t := 37) (u := N c.natAbs) rfl (congrArg I (by omega)) ?_
        refine runJ ?_
        (apply (s_litF (f := U) [c.natAbs] (fun _ => rfl)); exact rfl; exact rfl; exact rfl; exact rfl; exact rfl; exact rfl; exact rfl; exact rfl; omega)
        intro w10 h10 o10 e10 b10
        refine clsI ?_
        have RW2 := rwhole_spec true w10 [c.natAbs] h10 o10.sl (Al.cons (by omega) Al.nil) (by simp)
        rw [show vl 18446744073709551616 [c.natAbs] = c.natAbs by simp [vl]] at RW2
        refine runJ ?_
        apply (s_call Tryz_ent136 rfl rfl rfl)
        refine (RW2).mono ?_
        rintro _ h11 ⟨vb, rfl, e11, o11⟩
        refine ⟨trivial, ?_⟩
        have hvb := o11.sl.one
        have x11 := (x9.ext e10).ext e11
        refine runJ ?_
        (apply s_storeV; exact rfl; exact rfl; exact rfl; exact (OneAll.cons rfl (OneAll.cons hvb OneAll.nil) : OneAll [.bool (true && decide (c.natAbs ≠ 0)), vb]); exact rfl; exact rfl; exact x11; exact rfl)
        intro h12 x12' k12
        refine ⟨trivial, ?_⟩
        have e512 : Ext h5 h12 := k12.oldV (e59.trans (e10.trans e11)) b8 e57.1
        have nb : vb.ownBlock = none ∨ vb.ownBlock ≠ pblk p13 := by
          cases hb : vb.ownBlock with
          | none => exact .inl rfl
          | some b => exact .inr fun e => by rw [b8] at e; cases e; have := (o11.blk _ hb).1; have := e10.1; omega
        refine runJ ?_
        apply cut_normal vb
        · exact subs
        · refine ⟨e512, ?_, (o11.only k12 nb).base (e59.trans e10).1⟩
          have hd : (true && decide (c.natAbs ≠ 0)) = decide (c < 0) := by
            rw [Bool.true_and, decide_eq_true hc, decide_eq_true (by omega)]
          rw [← hd]
          exact x12'
      · have hva9 : OwnF h9 h5.size 26 U va (dg 18446744073709551616 c.natAbs) := by
          rw [← hcu2 (by omega)]
          have na : va.ownBlock = none ∨ va.ownBlock ≠ pblk p13 := by
            cases hb : va.ownBlock with
            | none => exact .inl rfl
            | some b => exact .inr fun e => by rw [b8] at e; cases e; have := (o7.blk _ hb).2; omega
          exact ((o7.ext e8).only k9 na).base e6.1
        refine runJ ?_
        apply cut_normal va
        · exact subs
        · refine ⟨e59, ?_, hva9⟩
          have hd : (false && decide (cu ≠ 0)) = decide (c < 0) := by
            rw [Bool.false_and, decide_eq_false (by omega)]
          rw [← hd]
          exact x9
    clear x9 k9
    rintro vsz h10 ⟨e10, x10, o10⟩
    have x310 := x35.ext e10
    have os10 := os5.ext e10
    have hvs := os10.sl.one
    have lc : (dg 18446744073709551616 c.natAbs).length ≤ 1 := dg_len (by decide) (by omega)
    have NT := rtimes_spec (decide (c < 0)) false vsz vs _ _ h10 o10.sl os10.sl (al_dg (by decide) _) (al_dg (by decide) _) (by omega) (by omega)
    rw [vl_dg (by decide), vl_dg (by decide), iv_nat, show IV false S = (S : Int) from rfl] at NT
    refine runJ ?_
    (apply (s_build ([.bool false, vs])); exact rfl; exact rfl; exact rfl; (repeat (first | exact CellsAll.nil | (apply CellsAll.cons; (first | exact oneL (by assumption) | exact oneL (SlF.one (by assumption)) | exact oneL (SlF.one (OwnF.sl (by assumption))) | exact oneL (Var.one (by assumption)) | exact rfl)))); exact rfl; exact rfl)
    refine runJ ?_
    apply (s_call Tryz_ent137 rfl rfl rfl)
    refine (NT).mono ?_
    rintro _ h11 ⟨e11, a, rfl, oa⟩
    refine ⟨trivial, ?_⟩
    have hza := oa.sl.one
    have I11 := (I5.ext e10).ext e11
    refine runJ ?_
    (apply (s_litC (s := 2) ([.bool (decide (c * (S : Int) < 0)), a])); exact rfl; (repeat (first | exact CellsAll.nil | (apply CellsAll.cons; (first | exact oneL (by assumption) | exact oneL (SlF.one (by assumption)) | exact oneL (SlF.one (OwnF.sl (by assumption))) | exact oneL (Var.one (by assumption)) | exact rfl)))); exact rfl; exact rfl; exact rfl; exact rfl; exact rfl; exact rfl; exact rfl; exact rfl; exact rfl; exact rfl)
    intro vl h12 o12 e12 b12
    refine clsI ?_
    have I12 := I11.ext e12
    have oa12 := oa.ext e12
    have e512 := (e10.trans e11).trans e12
    refine runJ ?_
    (apply (s_append (s := 2) (bytes := 32) (B := h3.size) (m := xs.length) (k' := 1)); exact rfl; exact rfl; exact rfl; exact rfl; exact rfl; exact (by decide); exact rfl; exact rfl; exact I12.own; exact o12.sl; exact rfl; exact (fun u hu => by
      rcases List.mem_cons.1 hu with rfl | hu
      · rfl
      rw [List.mem_singleton.1 hu]; exact hza); exact (Nat.le_trans e5.1 e512.1); (simp only [maxLen]; omega); omega)
    intro v13 h13 o13 k13 b13
    refine ⟨trivial, ?_⟩
    have I13 := I12.push (z := h5.size) (oa12.base (Nat.le_trans e5.1 e10.1)) (fun k hk => Nat.le_trans e10.1 (oa12.blk k hk).1) (fun k hk => (I5.own.blk k hk).2) o13 k13 b13
    have e13 : Ext h3 h13 := ext_onlyR (e5.trans e512) k13 fun k hk => (I12.own.blk k hk).1
    refine runJ ?_
    apply again_normal (j + 1, v13, xs ++ [(a, c * (S : Int))])
    · exact subs
    · refine ⟨e13, hj, I13, ?_⟩
      dsimp only
      rw [List.map_append, m5, take_snoc hzj]; rfl
    · dsimp only; omega
  · have hjl : j = ms.length := by omega
    subst hjl
    rw [← hlz, List.take_length] at m5
    have sq5 := sq.ext E5
    have c5 := sq5.cut (lo := 0) (hi := qs.length - 1 + 1) (Nat.zero_le _) (by omega)
    rw [List.drop_zero, Nat.sub_zero, List.take_of_length_le (by omega)] at c5
    have sI5 := I5.sla
    have hzl : ∀ x ∈ xs, (dg 18446744073709551616 x.2.natAbs).length < 1000000 := fun x hx => by
      have hxm : x.2 ∈ sprZ S t ms := by rw [← m5]; exact List.mem_map.2 ⟨x, hx, rfl⟩
      unfold sprZ at hxm
      obtain ⟨y, hy, hye⟩ := List.mem_map.1 hxm
      obtain ⟨c1, c2, -⟩ := cent_facts (hm.2 y hy) ht30
      have hb := nab_mul (S := S) (show (centerm y t).natAbs ≤ 18446744073709551616 by omega)
      rw [hye] at hb
      have h2 : 18446744073709551616 * S < 18446744073709551616 ^ (qs.length + 1 + 1) := by
        rw [Nat.pow_succ _ (qs.length + 1), Nat.mul_comm]
        exact Nat.mul_lt_mul_of_pos_right hSl (by decide)
      have := dg_len (b := 18446744073709551616) (n := x.2.natAbs) (k := qs.length + 1 + 1) (by decide) (Nat.lt_of_le_of_lt hb h2)
      omega
    refine runJ ?_
    apply (s_call Tryz_ent138 rfl rfl rfl)
    refine (refElement6_spec vO _ xs qs h5 sI5 (fun x hx => (I5.el x hx).sl) hzl c5 hq (by omega) (by omega)).mono ?_
    rintro _ h6 ⟨e6, vr, rows, p, rfl, RW, mr⟩
    refine ⟨trivial, ?_⟩
    have x26 := (x23.ext e5).ext e6
    have hvr := RW.own.sl.one
    refine runJ ?_
    (apply s_storeV; exact rfl; exact rfl; exact rfl; exact (OneAll.cons hvr OneAll.nil : OneAll [vr]); exact rfl; exact rfl; exact x26; exact rfl)
    intro h7 x7 k7
    refine ⟨trivial, ?_⟩
    have x7 : Var h7 p6 56 [vr] := x7
    have e7 : Ext h h7 := k7.oldV (E5.trans e6) b2 e1.1
    have R7 : RowsAt h7 h5.size p vr rows := by
      obtain ⟨b, hb, hl⟩ := x2.blk
      rw [hb] at k7
      exact RW.low k7 (Nat.lt_of_lt_of_le hl (Nat.le_trans e3.1 e5.1))
    rw [m5] at mr
    refine runJ ?_
    exact finC rfl rfl x7 rfl rfl ⟨e7, vr, rows, p, rfl, R7.base E5.1, mr⟩
end Go.Proofs.YtfcmdefigldpnaaGreatDoor


namespace Go.Proofs.YtfcmdefigldpnaaGreatDoor
set_option linter.unusedVariables false
set_option maxRecDepth 8000
open Go Go.Den Go.RowKit Go.Mth Go.Dig

def mostN : List Int → Nat
  | [] => 0
  | z :: zs => max z.natAbs (mostN zs)
theorem mostN_snoc (zs : List Int) (z : Int) : mostN (zs ++ [z]) = max (mostN zs) z.natAbs := by
  induction zs with
  | nil => simp [mostN]
  | cons a zs ih => rw [List.cons_append, mostN, ih, mostN]; omega
theorem mostN_take {zs : List Int} {j : Nat} {z : Int} (h : zs[j]? = some z) : mostN (zs.take (j + 1)) = max (mostN (zs.take j)) z.natAbs := by
  rw [take_snoc h, mostN_snoc]
theorem mostN_le {zs : List Int} {B : Nat} (h : ∀ z ∈ zs, -(B : Int) ≤ z ∧ z ≤ B) : mostN zs ≤ B := by
  induction zs with
  | nil => exact Nat.zero_le _
  | cons z zs ih =>
    have h1 := h z (by simp)
    have h2 := ih fun x hx => h x (by simp [hx])
    unfold mostN
    omega
theorem mostN_lt {zs : List Int} {Q : Nat} (h0 : 0 < Q) (h : ∀ z ∈ zs, -(Q : Int) < 2 * z ∧ 2 * z < Q) : mostN zs < Q := by
  have := mostN_le (zs := zs) (B := Q - 1) fun z hz => by have := h z hz; omega
  omega

def noiseZ (n : Nat) (ss es us xs ys : List Int) : List Int := (List.range n).map fun p => noise n ss es us xs ys p
theorem noiseZ_gi {n : Nat} {ss es us xs ys : List Int} {p : Nat} (hp : p < n) : gi (noiseZ n ss es us xs ys) p = noise n ss es us xs ys p := by
  unfold noiseZ gi
  rw [List.getD_eq_getElem?_getD, List.getElem?_map, List.getElem?_range hp]
  rfl
theorem liftL_gt {zs : List Int} {q k : Nat} (hq : 0 < q) (hk : k < zs.length) : Cg q (gt (liftL zs q) k) (gi zs k) := by
  obtain ⟨z, hz⟩ := get_lt hk
  unfold gt gi liftL
  rw [List.getD_eq_getElem?_getD, List.getD_eq_getElem?_getD, List.getElem?_map, hz]
  exact cg_liftm hq z
theorem subL_len {q : Nat} {xs ys : List Nat} (h : xs.length = ys.length) : (subL q xs ys).length = xs.length := by unfold subL; simp [h]
theorem subL_get {q i a b : Nat} {xs ys : List Nat} (h1 : xs[i]? = some a) (h2 : ys[i]? = some b) : (subL q xs ys)[i]? = some (subm a b q) := by
  unfold subL; rw [List.getElem?_zipWith, h1, h2]
theorem subm_lt9 {a b q : Nat} (hq : 0 < q) : subm a b q < q := by
  unfold subm
  rw [if_neg (by omega)]
  exact Nat.mod_lt _ hq
theorem subL_fit {n q : Nat} {xs ys : List Nat} (hq : 0 < q) (h1 : xs.length = n) (h2 : ys.length = n) : Fit n q (subL q xs ys) := ⟨by rw [subL_len (by omega), h1], fun x hx => by
  obtain ⟨i, hi⟩ := List.getElem?_of_mem hx
  have hil := (List.getElem?_eq_some_iff.1 hi).1
  rw [subL_len (by omega)] at hil
  rw [subL_get (List.getElem?_eq_getElem hil) (List.getElem?_eq_getElem (show i < ys.length by omega))] at hi
  cases hi
  exact subm_lt9 hq⟩
theorem subL_gt {q i : Nat} {xs ys : List Nat} (hq : 0 < q) (h1 : i < xs.length) (h2 : i < ys.length) : Cg q (gt (subL q xs ys) i) (gt xs i - gt ys i) := by
  obtain ⟨a, ha⟩ := get_lt h1
  obtain ⟨b, hb⟩ := get_lt h2
  unfold gt
  rw [List.getD_eq_getElem?_getD, List.getD_eq_getElem?_getD, List.getD_eq_getElem?_getD, subL_get ha hb, ha, hb]
  exact cg_subm hq a b
theorem negL_gt {q i : Nat} {ys : List Nat} (hq : 0 < q) (h2 : i < ys.length) : Cg q (gt (negL q ys) i) (-(gt ys i)) := by
  obtain ⟨b, hb⟩ := get_lt h2
  unfold gt negL
  rw [List.getD_eq_getElem?_getD, List.getD_eq_getElem?_getD, List.getElem?_map, hb]
  exact (cg_subm hq 0 b).trans (Cg.of_eq (by simp))
theorem res_noise {n : Nat} {qs : List Nat} (hq : ∀ q ∈ qs, 0 < q) {rx ry rd : List (List Nat)} {ss es us xs ys zs : List Int} (lz : zs.length = n) (hx : ResOf n qs rx (heldZ n ss es us xs ys zs)) (hy : ry = qs.map (liftL zs)) (hl : rd.length = qs.length)
    (hd : ∀ (i q : Nat) (a b d : List Nat), qs[i]? = some q → rx[i]? = some a → ry[i]? = some b → rd[i]? = some d → d = subL q a b ∨ d = addL q a (negL q b)) : ResOf n qs rd (noiseZ n ss es us xs ys) := by
  refine ⟨hl, by unfold noiseZ; rw [List.length_map, List.length_range], fun i q d hd' hqi => ?_⟩
  have hi := (List.getElem?_eq_some_iff.1 hqi).1
  obtain ⟨a, ha⟩ := get_lt (l := rx) (j := i) (by rw [hx.1]; exact hi)
  have hb : ry[i]? = some (liftL zs q) := by rw [hy, List.getElem?_map, hqi]; rfl
  obtain ⟨fa, ca⟩ := hx.2.2 i q a ha hqi
  have hq0 := hq q (List.mem_of_getElem? hqi)
  have ll : (liftL zs q).length = n := by rw [lift_len]; exact lz
  have key : ∀ k, k < n → Cg q ((gt a k : Int) - gt (liftL zs q) k) (gi (noiseZ n ss es us xs ys) k) := fun k hk => by
    rw [noiseZ_gi hk]
    have h1 := ca k hk
    rw [held_gi hk] at h1
    exact (h1.sub (liftL_gt hq0 (by omega))).trans (Cg.of_eq (by omega))
  rcases hd i q a _ d hqi ha hb hd' with rfl | rfl
  · refine ⟨subL_fit hq0 fa.1 ll, fun k hk => ?_⟩
    exact (subL_gt hq0 (by rw [fa.1]; exact hk) (by omega)).trans (key k hk)
  · have ln : (negL q (liftL zs q)).length = n := by unfold negL; rw [List.length_map]; exact ll
    refine ⟨addL_fit hq0 fa.1 ln, fun k hk => ?_⟩
    exact ((addL_gt hq0 (by rw [fa.1]; exact hk) (by omega)).trans (((Cg.refl _ _).add (negL_gt hq0 (by omega))).trans (Cg.of_eq (by omega)))).trans (key k hk)

def invB (qs : List Nat) : Bool := qs.all fun q => Nat.beq (prodL qs / q % q * fp q 64 (prodL qs / q % q) (q - 2) % q) 1
theorem invB_inv {qs : List Nat} (h0 : ∀ q ∈ qs, 0 < q ∧ q < 18446744073709551616) (h : invB qs = true) : Inv6 qs := fun q hq => by
  have := List.all_eq_true.1 h q hq
  have e := Nat.eq_of_beq_eq_true this
  rwa [← powm_fp (by have := h0 q hq; omega) (by have := h0 q hq; omega)] at e
theorem q_inv : ∀ i, i < 3 → ∀ j, j < 4 → ∀ c, c < 6 → invB ((qOf i j).take c) = true := by decide +kernel
theorem made_inv (a b : Nat) : Inv6 (qPar a b) := by
  have hi : pI a < 3 := Nat.mod_lt _ (by decide)
  have hk : pK b < 4 := Nat.mod_lt _ (by decide)
  have hc : pC b < 6 := by unfold pC; omega
  obtain ⟨-, q2, -, -⟩ := qPar_facts a b
  exact invB_inv (fun q hq => by have := q2 q hq; omega) (q_inv _ hi _ hk _ hc)
end Go.Proofs.YtfcmdefigldpnaaGreatDoor

