/- Texts PckL to DrwA of this work, joined: each says in its own head what it proves, and of which condition. -/
import Derived.Test.YtfcmdefigldpnaaDoorMPk26
import Derived.Laws.BytesString
/- Package pack: a ciphertext is read. Condition: the table of math/bits reads as it is laid. -/
namespace Go.Proofs.YtfcmdefigldpnaaDoor
set_option linter.unusedVariables false
set_option maxRecDepth 8000
open Go Go.Den Go.RowKit Go.Dig

def polsR (ps : List (List (List Nat))) : List Nat := ps.flatMap polyB
theorem polsR_drop {rows : List (List (List Nat))} {i : Nat} {x : List (List Nat)} (h : rows[i]? = some x) : polsR (rows.drop i) = polyB x ++ polsR (rows.drop (i + 1)) := by
  obtain ⟨hl, rfl⟩ := List.getElem?_eq_some_iff.1 h
  rw [List.drop_eq_getElem_cons hl]
  unfold polsR
  rw [List.flatMap_cons]

theorem Tryd_ent26 : Ent Tryd.prog 26 := ent_of Tryd.func26 (by kernel_rfl) rfl
set_option maxHeartbeats 4000000 in
theorem readCipher_spec (vb : Value) (bs : List Nat) (md : Option (List Nat)) (n t w : Nat) (q : List Nat) (ps : List (List (List Nat))) (vq0 : Value) (h : Hp) (T : TB h) (b : BytAt h vb bs) (hR : Rl md bs (hdrB 2 n t w q ++ ([2] ++ ([q.length - 1] ++ polsR ps)))) (hn : n < 65536) (ht : t < 4294967296) (hw : w < 256) (hq : q.length < 256) (hq0 : 0 < q.length) (hqa : ∀ x ∈ q, x < 18446744073709551616)
    (P : parP ⟨(n : Int), t, vq0, q, (w : Int)⟩) (hl : ps.length = 2) (ha : ∀ rows ∈ ps, rows.length = q.length ∧ (∀ l ∈ rows, l.length = n) ∧ ∀ (i a : Nat) (l : List Nat), rows[i]? = some l → q[i]? = some a → ∀ x ∈ l, x < a) (hE : endE md ≠ 0) :
    CallsH Tryd.prog 26 [vb] h fun v' h' => Ext h h' ∧ v' = .tuple #[.agg #[I 0, U 0, .slice none 0 0, I 0], .agg #[.slice none 0 0], N (endE md)] := by
  have row := b.row
  have hone := row.one
  (apply enter Tryd.func26 rfl Tryd.ntmps26 rfl)
  refine runJ ?_
  (apply s_alloc; exact rfl; exact rfl; exact rfl)
  intro p2 h1 x1 e1 b1
  (try dsimp only [Value.cells, List.toList_toArray] at x1)
  refine ⟨(by first | exact trivial | exact Ext.refl _ | assumption | exact Ext.trans (by assumption) (by assumption)), ?_⟩
  have x1 : Var h1 p2 25 [I 0, U 0, .slice none 0 0, I 0] := x1
  refine runJ ?_
  (apply s_alloc; exact rfl; exact rfl; exact rfl)
  intro p3 h2 x2 e2 b2
  (try dsimp only [Value.cells, List.toList_toArray] at x2)
  refine ⟨(by first | exact trivial | exact Ext.refl _ | assumption | exact Ext.trans (by assumption) (by assumption)), ?_⟩
  have x2 : Var h2 p3 65 [.slice none 0 0] := x2
  refine runJ ?_
  (apply (s_build ([vb, I 0, U 0, .slice none 0 0, I 0, N 0])); exact rfl; exact rfl; exact rfl; (repeat (first | exact CellsAll.nil | (apply CellsAll.cons; (first | exact oneL (by assumption) | exact oneL (SlF.one (by assumption)) | exact oneL (SlF.one (OwnF.sl (by assumption))) | exact oneL (Var.one (by assumption)) | exact rfl)))); exact rfl; exact rfl)
  refine runJ ?_
  (apply s_box; exact rfl; exact rfl; exact rfl; exact rfl)
  intro r h3 x3 e3 b3
  (try dsimp only [Value.cells, List.toList_toArray] at x3)
  refine ⟨(by first | exact trivial | exact Ext.refl _ | assumption | exact Ext.trans (by assumption) (by assumption)), ?_⟩
  have x3 : Var h3 r 101 [vb, I 0, U 0, .slice none 0 0, I 0, N 0] := x3
  have E2 := e1.trans e2
  have E3 := E2.trans e3
  have hs1 : h.size < h1.size := by obtain ⟨j, hj, hl⟩ := x1.blk; rw [b1] at hj; cases hj; exact hl
  have hs2 : h1.size < h2.size := by obtain ⟨j, hj, hl⟩ := x2.blk; rw [b2] at hj; cases hj; exact hl
  have hs3 : h2.size < h3.size := by obtain ⟨j, hj, hl⟩ := x3.blk; rw [b3] at hj; cases hj; exact hl
  have s3 : RdAt h3 r h2.size md (hdrB 2 n t w q ++ ([2] ++ ([q.length - 1] ++ polsR ps))) 0 parZ := ⟨vb, bs, ⟨b3, x3, row.ext E3, fun j hj => by have := b.lo j hj; omega, b.al, b.ln⟩, .inl ⟨rfl, hR⟩⟩
  have x13 := (x1.ext e2).ext e3
  have x23 := x2.ext e3
  have nr1 : pblk p2 ≠ pblk r := by rw [b1, b3]; intro e; have := Option.some.inj e; omega
  have nr2 : pblk p3 ≠ pblk r := by rw [b2, b3]; intro e; have := Option.some.inj e; omega
  have n12 : pblk p2 ≠ pblk p3 := by rw [b1, b2]; intro e; have := Option.some.inj e; omega
  refine runJ ?_
  apply (s_call Tryd_ent44 rfl rfl rfl)
  refine (rstart_spec r h2.size 2 n t w md q _ vq0 h3 (fun h' k => tb_only (T.ext E2) ⟨Nat.le_trans e3.1 k.1, fun i hi hn => (k.2 i (Nat.lt_of_lt_of_le hi e3.1) hn).trans (e3.2 i hi)⟩ fun j hj => by rw [b3] at hj; have := Option.some.inj hj; omega) s3 (by decide) hn ht hw hq hqa P).mono ?_
  rintro _ h4 ⟨k4, e4, p, s4, R4, c4⟩
  refine ⟨(by first | exact trivial | exact trivial), ?_⟩
  have vB1 : ∀ x, vB [x] = x := fun x => by unfold vB; simp
  have hkR : h2.size < h3.size := hs3
  refine runJ ?_
  apply (s_call Tryd_ent45 rfl rfl rfl)
  refine (rnumber_spec r h2.size e4 md [2] _ p h4 s4 (by simp)).mono ?_
  rintro _ h5 ⟨k5, y5, e5, rfl, s5, b5, c5⟩
  refine ⟨(by first | exact trivial | exact trivial), ?_⟩
  have b5' : y5 < 256 := b5
  rw [vB1] at c5
  have R5 := R4.only hkR (by rw [b3] at k5; exact k5)
  have K5 := k4.trans k5
  refine runJ ?_
  apply (s_tcut (σ := Unit) (fun _ => [(2, p2), (3, p3), (5, r), (6, N y5)]) (fun _ h' => Only (pblk r) h5 h' ∧ RdAt h' r h2.size md ([q.length - 1] ++ polsR ps) e5 p))
  · (apply s_splitG; exact rfl; exact rfl; exact rfl; exact rfl) <;> intro g1
    · refine runJ ?_
      apply (s_call Tryd_ent46 rfl rfl rfl)
      refine (failR_spec r h2.size e5 3 md _ p _ h5 s5 (fun h0 => by exact absurd (c5 h0).2 g1)).mono ?_
      rintro _ h6 ⟨k6, s6⟩
      refine ⟨(by first | exact trivial | exact trivial), ?_⟩
      refine runJ ?_
      apply cut_normal ()
      · exact (Sub.cons rfl (Sub.cons rfl (Sub.cons rfl (Sub.cons rfl (Sub.nil _)))))
      · exact ⟨k6, s6⟩
    · refine runJ ?_
      apply (s_call Tryd_ent46 rfl rfl rfl)
      refine (failR_spec r h2.size e5 3 md _ p _ h5 s5 (fun h0 => by rfl)).mono ?_
      rintro _ h6 ⟨k6, s6⟩
      refine ⟨(by first | exact trivial | exact trivial), ?_⟩
      refine runJ ?_
      apply cut_normal ()
      · exact (Sub.cons rfl (Sub.cons rfl (Sub.cons rfl (Sub.cons rfl (Sub.nil _)))))
      · exact ⟨k6, s6⟩
  rintro - h6 ⟨k6, s6⟩
  have R6 := R5.only hkR (by rw [b3] at k6; exact k6)
  have K6 := K5.trans k6
  refine runJ ?_
  apply (s_call Tryd_ent45 rfl rfl rfl)
  refine (rnumber_spec r h2.size e5 md [q.length - 1] _ p h6 s6 (by simp)).mono ?_
  rintro _ h7 ⟨k7, y7, e7, rfl, s7, b7, c7⟩
  refine ⟨(by first | exact trivial | exact trivial), ?_⟩
  have b7' : y7 < 256 := b7
  rw [vB1] at c7
  have R7 := R6.only hkR (by rw [b3] at k7; exact k7)
  have rq7 := R7.own.sl
  have K7 := K6.trans k7
  obtain ⟨vb7, bs7, S7, T7⟩ := id s7
  have x7 := S7.var
  refine runJ ?_
  apply (s_call Tryd_ent46 rfl rfl rfl)
  refine (failR_spec r h2.size e7 3 md _ p _ h7 s7 (fun h0 => by
  obtain ⟨z1, z2⟩ := c7 h0
  obtain ⟨z3, -⟩ := c5 z1
  rw [(c4 z3).2.2.1, z2]
  exact decide_eq_false (by omega))).mono ?_
  rintro _ h8 ⟨k8, s8⟩
  refine ⟨(by first | exact trivial | exact trivial), ?_⟩
  have R8 := R7.only hkR (by rw [b3] at k8; exact k8)
  have K8 := K7.trans k8
  have E8 : Ext h h8 := ext_only E3 K8 fun j hj => by rw [b3] at hj; have := Option.some.inj hj; omega
  have x18 := x13.only K8 nr1
  have x28 := x23.only K8 nr2
  refine runJ ?_
  (apply (s_build ([.slice none 0 0])); exact rfl; exact rfl; exact rfl; (repeat (first | exact CellsAll.nil | (apply CellsAll.cons; (first | exact oneL (by assumption) | exact oneL (SlF.one (by assumption)) | exact oneL (SlF.one (OwnF.sl (by assumption))) | exact oneL (Var.one (by assumption)) | exact rfl)))); exact rfl; exact rfl)
  refine runJ ?_
  (apply s_alloc; exact rfl; exact rfl; exact rfl)
  intro p8 h9a x9a e9a b9a
  (try dsimp only [Value.cells, List.toList_toArray] at x9a)
  refine ⟨(by first | exact trivial | exact Ext.refl _ | assumption | exact Ext.trans (by assumption) (by assumption)), ?_⟩
  refine runJ ?_
  (apply s_storeV; exact rfl; exact rfl; exact rfl; (repeat (first | exact OneAll.nil | (apply OneAll.cons; (first | exact rfl | exact SlF.one (by assumption) | exact SlF.one (OwnF.sl (by assumption)) | exact Var.one (by assumption))))); exact rfl; exact rfl; exact x9a; exact rfl)
  intro h9 x9 k9
  (try dsimp only [Value.cells, List.toList_toArray] at x9)
  refine ⟨(by first | exact trivial | exact Ext.refl _ | assumption | exact Ext.only (by assumption) _ | exact Only.trans (Ext.only (by assumption) _) (by assumption)), ?_⟩
  have x9 : Var h9 p8 65 [.slice none 0 0] := x9
  have e9 : Ext h8 h9 := k9.oldV e9a b9a (Nat.le_refl _)
  have hs8 : h8.size < h9.size := by obtain ⟨j, hj, hl⟩ := x9.blk; rw [b9a] at hj; cases hj; exact hl
  have h38 := K8.1
  have nr8 : pblk p8 ≠ pblk r := by rw [b9a, b3]; intro e; have := Option.some.inj e; omega
  refine runJ ?_
  (first | (apply w_seqB; exact rfl; apply w_block; exact rfl) | skip)
  apply (w_loop (σ := Nat × Nat × Value × List Value) rfl (fun j => [(2, p2), (3, p3), (5, r), (6, N y5), (7, N y7), (8, p8), (9, N j.1)])
    (fun j h' => j.1 ≤ y5 ∧ Ext h h' ∧ h9.size ≤ h'.size ∧ Var h' p2 25 [I 0, U 0, .slice none 0 0, I 0] ∧ Var h' p3 65 [.slice none 0 0] ∧ Var h' p8 65 [j.2.2.1] ∧ Own h' h9.size 37 1 j.2.2.1 j.1 j.2.2.2 ∧ RdAt h' r h2.size md (polsR (ps.drop j.1)) j.2.1 p ∧ RPar h' h3.size p ∧ (j.2.1 = 0 → e7 = 0)) (fun j => y5 - j.1) (0, e7, .slice none 0 0, []))
  · exact (Sub.cons rfl (Sub.cons rfl (Sub.cons rfl (Sub.cons rfl (Sub.cons rfl (Sub.cons rfl (Sub.cons rfl (Sub.nil _))))))))
  · exact ⟨Nat.zero_le _, E8.trans e9, Nat.le_refl _, x18.ext e9, x28.ext e9, x9, Own.nil _ _ _ _, s8.ext e9, R8.ext e9, id⟩
  rintro ⟨j, e, vC, cs⟩ h10 ⟨j1, E10, z10, x110, x210, x810, o10, s10, R10, c10⟩
  dsimp only at j1 x810 o10 s10 c10 ⊢
  obtain ⟨vb10, bs10, S10, T10⟩ := id s10
  have xr10 := S10.var
  have fin : (e ≠ 0 ∨ j = y5) → RdAt h10 r h2.size md [] e p := by
    intro hE
    rcases s10.e2 with rfl | rfl
    · have hj : j = ps.length := by
        rcases hE with h | h
        · exact absurd rfl h
        · obtain ⟨z1, z2⟩ := c7 (c10 rfl)
          obtain ⟨z3, z4⟩ := c5 z1
          omega
      subst hj
      rw [List.drop_length] at s10
      exact s10
    · exact s10.any _
  refine runJ ?_
  (apply s_splitG; exact rfl; exact rfl; exact rfl; exact rfl) <;> intro g1
  · refine runJ ?_
    (apply w_condD; exact rfl; exact rfl) <;> intro he
    · subst he
      obtain ⟨z1, z2⟩ := c7 (c10 rfl)
      obtain ⟨z3, z4⟩ := c5 z1
      obtain ⟨z5, z6, z7, z8⟩ := c4 z3
      obtain ⟨x, hx⟩ := get_lt (l := ps) (j := j) (by omega)
      obtain ⟨a1, a2, a3⟩ := ha x (List.mem_of_getElem? hx)
      rw [polsR_drop hx] at s10
      have hvC : ∀ i, vC.ownBlock = some i → h9.size ≤ i := fun i hi => (o10.blk i hi).1
      have hn8 : pblk p8 ≠ vC.ownBlock := by rw [b9a]; intro e; have := hvC _ e.symm; omega
      have hCk : vC.ownBlock = none ∨ vC.ownBlock ≠ pblk r := by
        rw [b3]
        cases hv : vC.ownBlock with
        | none => exact .inl rfl
        | some i => exact .inr fun e => by have := Option.some.inj e; have := hvC i hv; omega
      have PC : ∀ h', Two (some h2.size) vC.ownBlock h10 h' → Var h' p8 65 [vC] := fun h' c => var_two x810 c (by omega) (by rw [← b3]; exact nr8) hn8
      refine runJN ?_
      (apply (r_drawnT 9 (Two (some h2.size) vC.ownBlock h10)); exact rfl; exact mixed; kernel_rfl; exact rfl; exact Two.refl _ _ _)
      refine runJ ?_
      refine s_loadCell (u := vC) (off := 0) rfl rfl (rd_cl fun h' hc => ⟨_, _, PC h' hc, rfl⟩) rfl ?_
      refine runJ ?_
      apply (s_call Tryd_ent47 rfl rfl rfl)
      refine (rpoly_spec r h2.size (y7 + 1) n 0 h3.size md x _ p h10 s10 R10 hkR (by omega) (fun _ => ⟨z5, by omega, by rw [z7]; omega, a2, fun i a l hi hq => a3 i a l hi (by rw [← z7]; exact hq)⟩)).mono ?_
      rintro _ h11 ⟨k11, vr, e11, rfl, h1r, s11, c11⟩
      refine ⟨(by first | exact trivial | exact by rw [← b3]; exact only_two1 k11), ?_⟩
      have C11 : Two (some h2.size) vC.ownBlock h10 h11 := by rw [← b3]; exact only_two1 k11
      have R11 := R10.only hkR (by rw [b3] at k11; exact k11)
      refine runJ ?_
      (apply (s_litC (s := 1) ([vr])); exact rfl; (repeat (first | exact CellsAll.nil | (apply CellsAll.cons; (first | exact oneL (by assumption) | exact oneL (SlF.one (by assumption)) | exact oneL (SlF.one (OwnF.sl (by assumption))) | exact oneL (Var.one (by assumption)) | exact rfl)))); exact rfl; exact rfl; exact rfl; exact rfl; exact rfl; exact rfl; exact rfl; exact rfl; exact rfl; exact rfl)
      intro v12 h12 o12 e12 b12
      refine ⟨(by first | exact C11.trans ⟨e12.1, fun i hi _ _ => e12.2 i hi⟩ | exact trivial | exact Ext.refl _ | assumption | exact Ext.trans (by assumption) (by assumption)), ?_⟩
      have C12 : Two (some h2.size) vC.ownBlock h10 h12 := C11.trans ⟨e12.1, fun i hi _ _ => e12.2 i hi⟩
      have o1012 := (o10.only k11 hCk).ext e12
      have hz12 : h9.size ≤ h12.size := Nat.le_trans z10 C12.1
      refine runJ ?_
      refine s_append (bytes := 24) (s := 1) (k' := 1) rfl rfl rfl rfl rfl (by decide) rfl rfl o1012 o12.sl rfl (by intro u hu; rw [List.mem_singleton.1 hu]; exact h1r) hz12 (by simp only [maxLen]; omega) (by omega) ?_
      intro v13 h13 o13 k13 b13
      refine ⟨C12.trans (only_two2 k13), ?_⟩
      have x813 := PC h13 (C12.trans (only_two2 k13))
      have o13one := o13.sl.one
      refine runJ ?_
      apply tail_end
      refine runJ ?_
      (apply s_storeC; exact rfl; exact rfl; exact o13one; exact rfl; exact rfl; exact x813; exact rfl)
      intro h14 x14 k14
      refine ⟨trivial, ?_⟩
      have E12 : Ext h h12 := (ext_only E10 k11 fun j hj => by rw [b3] at hj; have := Option.some.inj hj; omega).trans e12
      have E13 : Ext h h13 := ext_only E12 k13 fun i hi => by have := hvC i hi; omega
      have E14 : Ext h h14 := ext_only E13 k14 fun i hi => by rw [b9a] at hi; have := Option.some.inj hi; omega
      have hn1 : pblk p2 ≠ vC.ownBlock := by rw [b1]; intro e; have := hvC _ e.symm; omega
      have hn2 : pblk p3 ≠ vC.ownBlock := by rw [b2]; intro e; have := hvC _ e.symm; omega
      have hn18 : pblk p2 ≠ pblk p8 := by rw [b1, b9a]; intro e; have := Option.some.inj e; omega
      have hn28 : pblk p3 ≠ pblk p8 := by rw [b2, b9a]; intro e; have := Option.some.inj e; omega
      have x114 := (((x110.only k11 nr1).ext e12).only k13 hn1).only k14 hn18
      have x214 := (((x210.only k11 nr2).ext e12).only k13 hn2).only k14 hn28
      have hv13 : v13.ownBlock = none ∨ v13.ownBlock ≠ pblk p8 := by
        rw [b9a]
        cases hv : v13.ownBlock with
        | none => exact .inl rfl
        | some i => exact .inr fun e => by have := Option.some.inj e; have := (o13.blk i hv).1; omega
      have hvq : ∀ i, p.vq.ownBlock = some i → i < h4.size := fun i hi => (R4.own.blk i hi).2
      have hz49 : h4.size ≤ h8.size := by
        have := k5.1; have := k6.1; have := k7.1; have := k8.1; omega
      have hs14 := (((s11.ext e12).high k13 fun i hi => by have := hvC i hi; omega).high k14 fun i hi => by rw [b9a] at hi; have := Option.some.inj hi; omega)
      have R14 := (((R11.ext e12).high k13 hvq fun i hi => by have := hvC i hi; omega).high k14 hvq fun i hi => by rw [b9a] at hi; have := Option.some.inj hi; omega)
      refine runJ ?_
      apply again_normal (j + 1, e11, v13, cs ++ [vr])
      · exact (Sub.cons rfl (Sub.cons rfl (Sub.cons rfl (Sub.cons rfl (Sub.cons rfl (Sub.cons rfl (Sub.cons rfl (Sub.nil _))))))))
      · exact ⟨by dsimp only; omega, E14, Nat.le_trans hz12 (Nat.le_trans k13.1 k14.1), x114, x214, x14, o13.only k14 hv13, hs14, R14, fun h0 => c10 (c11 h0)⟩
      · dsimp only; omega
    · skip
      have s10' := fin (.inl he)
      refine runJ ?_
      apply (s_call Tryd_ent48 rfl rfl rfl)
      refine (rend_spec r h2.size e md p h10 s10').mono ?_
      rintro _ h11 ⟨k11, rfl, vb11, bs11, e11, S11⟩
      refine ⟨(by first | exact trivial | exact trivial), ?_⟩
      have x111 := x110.only k11 nr1
      have x211 := x210.only k11 nr2
      have E11 : Ext h h11 := ext_only E10 k11 fun j hj => by rw [b3] at hj; have := Option.some.inj hj; omega
      refine runJ ?_
      (apply w_condT; exact rfl; exact rfl; exact hE)
      refine runJ ?_
      (apply (s_build ([I 0, U 0, .slice none 0 0, I 0])); exact rfl; exact rfl; exact rfl; (repeat (first | exact CellsAll.nil | (apply CellsAll.cons; (first | exact oneL (by assumption) | exact oneL (SlF.one (by assumption)) | exact oneL (SlF.one (OwnF.sl (by assumption))) | exact oneL (Var.one (by assumption)) | exact rfl)))); exact rfl; exact rfl)
      refine runJ ?_
      (apply (s_build ([.slice none 0 0])); exact rfl; exact rfl; exact rfl; (repeat (first | exact CellsAll.nil | (apply CellsAll.cons; (first | exact oneL (by assumption) | exact oneL (SlF.one (by assumption)) | exact oneL (SlF.one (OwnF.sl (by assumption))) | exact oneL (Var.one (by assumption)) | exact rfl)))); exact rfl; exact rfl)
      refine runJ ?_
      (apply s_storeV; exact rfl; exact rfl; exact rfl; (repeat (first | exact OneAll.nil | (apply OneAll.cons; (first | exact rfl | exact SlF.one (by assumption) | exact SlF.one (OwnF.sl (by assumption)) | exact Var.one (by assumption))))); exact rfl; exact rfl; exact x111; exact rfl)
      intro h12 x12 k12
      (try dsimp only [Value.cells, List.toList_toArray] at x12)
      refine ⟨(by first | exact trivial | exact Ext.refl _ | assumption | exact Ext.only (by assumption) _ | exact Only.trans (Ext.only (by assumption) _) (by assumption)), ?_⟩
      have x12 : Var h12 p2 25 [I 0, U 0, .slice none 0 0, I 0] := x12
      have x212 := x211.only k12 (fun e => n12 e.symm)
      refine runJ ?_
      (apply s_storeV; exact rfl; exact rfl; exact rfl; (repeat (first | exact OneAll.nil | (apply OneAll.cons; (first | exact rfl | exact SlF.one (by assumption) | exact SlF.one (OwnF.sl (by assumption)) | exact Var.one (by assumption))))); exact rfl; exact rfl; exact x212; exact rfl)
      intro h13 x13 k13
      (try dsimp only [Value.cells, List.toList_toArray] at x13)
      refine ⟨(by first | exact trivial | exact Ext.refl _ | assumption | exact Ext.only (by assumption) _ | exact Only.trans (Ext.only (by assumption) _) (by assumption)), ?_⟩
      have x13 : Var h13 p3 65 [.slice none 0 0] := x13
      have x113 := x12.only k13 n12
      refine runJ ?_
      exact finCCT rfl rfl rfl rfl x113 x13 rfl rfl rfl rfl ⟨k13.oldV (k12.oldV E11 b1 (Nat.le_refl _)) b2 (by omega), rfl⟩
  · skip
    have s10' := fin (.inr (by omega))
    refine runJ ?_
    apply (s_call Tryd_ent48 rfl rfl rfl)
    refine (rend_spec r h2.size e md p h10 s10').mono ?_
    rintro _ h11 ⟨k11, rfl, vb11, bs11, e11, S11⟩
    refine ⟨(by first | exact trivial | exact trivial), ?_⟩
    have x111 := x110.only k11 nr1
    have x211 := x210.only k11 nr2
    have E11 : Ext h h11 := ext_only E10 k11 fun j hj => by rw [b3] at hj; have := Option.some.inj hj; omega
    refine runJ ?_
    (apply w_condT; exact rfl; exact rfl; exact hE)
    refine runJ ?_
    (apply (s_build ([I 0, U 0, .slice none 0 0, I 0])); exact rfl; exact rfl; exact rfl; (repeat (first | exact CellsAll.nil | (apply CellsAll.cons; (first | exact oneL (by assumption) | exact oneL (SlF.one (by assumption)) | exact oneL (SlF.one (OwnF.sl (by assumption))) | exact oneL (Var.one (by assumption)) | exact rfl)))); exact rfl; exact rfl)
    refine runJ ?_
    (apply (s_build ([.slice none 0 0])); exact rfl; exact rfl; exact rfl; (repeat (first | exact CellsAll.nil | (apply CellsAll.cons; (first | exact oneL (by assumption) | exact oneL (SlF.one (by assumption)) | exact oneL (SlF.one (OwnF.sl (by assumption))) | exact oneL (Var.one (by assumption)) | exact rfl)))); exact rfl; exact rfl)
    refine runJ ?_
    (apply s_storeV; exact rfl; exact rfl; exact rfl; (repeat (first | exact OneAll.nil | (apply OneAll.cons; (first | exact rfl | exact SlF.one (by assumption) | exact SlF.one (OwnF.sl (by assumption)) | exact Var.one (by assumption))))); exact rfl; exact rfl; exact x111; exact rfl)
    intro h12 x12 k12
    (try dsimp only [Value.cells, List.toList_toArray] at x12)
    refine ⟨(by first | exact trivial | exact Ext.refl _ | assumption | exact Ext.only (by assumption) _ | exact Only.trans (Ext.only (by assumption) _) (by assumption)), ?_⟩
    have x12 : Var h12 p2 25 [I 0, U 0, .slice none 0 0, I 0] := x12
    have x212 := x211.only k12 (fun e => n12 e.symm)
    refine runJ ?_
    (apply s_storeV; exact rfl; exact rfl; exact rfl; (repeat (first | exact OneAll.nil | (apply OneAll.cons; (first | exact rfl | exact SlF.one (by assumption) | exact SlF.one (OwnF.sl (by assumption)) | exact Var.one (by assumption))))); exact rfl; exact rfl; exact x212; exact rfl)
    intro h13 x13 k13
    (try dsimp only [Value.cells, List.toList_toArray] at x13)
    refine ⟨(by first | exact trivial | exact Ext.refl _ | assumption | exact Ext.only (by assumption) _ | exact Only.trans (Ext.only (by assumption) _) (by assumption)), ?_⟩
    have x13 : Var h13 p3 65 [.slice none 0 0] := x13
    have x113 := x12.only k13 n12
    refine runJ ?_
    exact finCCT rfl rfl rfl rfl x113 x13 rfl rfl rfl rfl ⟨k13.oldV (k12.oldV E11 b1 (Nat.le_refl _)) b2 (by omega), rfl⟩
end Go.Proofs.YtfcmdefigldpnaaDoor

/- Walking rules: bytes as a string, strings held against each other. No condition. -/
namespace Go.Den
set_option linter.unusedVariables false
set_option maxRecDepth 8000
open Go Go.RowKit

/-- A string of bytes. -/
def strB (bs : List Nat) : ByteArray := bs.foldl (fun r n => r.push (UInt8.ofNat n)) ByteArray.empty

section rules
variable {P : Program} {n : Nat} {Q : Post} {l : Fr} {h : Hp} {ops : List Oper} {Ch : Hp → Prop} {E : Nat → Bool} {i : Nat}
variable {d : Nat} {t yt : TypeId} {x y : Operand}

theorem s_strB {src dst e : TypeId} {v : Value} {bs : List Nat} (hx : ev l x = some v) (hs : P.underlying src = some (.slice e)) (he : P.underlying e = some (.int .u8)) (hd : P.underlying dst = some .string) (hr : Rd Ch E i h (fun h' => SlF h' Y v bs)) (hb : Nat.blt d n = true)
    (k : S P n ops Ch E Q (i + 1) ((d, .string (strB bs)) :: l) h) : O P n ops Ch E Q i d (.convert src dst x) l h :=
  s_read hb _ hr (fun a w' hf hsl => by
    have hns : bs.map Y = (bs.map fun n : Nat => (n : Int)).map (Value.int .u8) := by rw [List.map_map]; rfl
    have hst : (bs.map fun n : Nat => (n : Int)).foldl (fun r n => r.push (UInt8.ofNat n.toNat)) ByteArray.empty = strB bs := by
      unfold strB
      rw [List.foldl_map]
      rfl
    rcases hsl with ⟨⟨ad, c, rfl, ha⟩, h0, -⟩ | ⟨b, o, c, rfl, hc, hcell⟩
    · obtain rfl : bs = [] := List.eq_nil_of_length_eq_zero h0
      have hrun : (Conv.bytesToString (.slice ad 0 c)).run P w' = .ok (.string (strB [])) w' := by
        cases ad with
        | none => rfl
        | some ad =>
          have := run_bytesToString (P := P) w' ad 0 c [] (run_loadCells_list w' ad [] (by intro j v hv; cases hv))
          exact this
      simp only [execOp, hf.ev hx, Sem.run_bind, run_convert_bytes_string w' src dst e ad 0 c hs he hd, hrun]
      rfl
    · have hld : (loadCells ⟨b, o, none⟩ bs.length).run P w' = .ok ((bs.map fun n : Nat => (n : Int)).map (Value.int .u8)).toArray w' := by
        rw [← hns]
        have := run_loadCells_list (P := P) w' ⟨b, o, none⟩ (bs.map Y) (fun j u hu => by rw [Addr.add_lit, cell?_cellH]; exact hcell j u hu)
        rw [List.length_map] at this
        exact this
      have hrun := run_bytesToString (P := P) w' ⟨b, o, none⟩ bs.length c _ hld
      rw [hst] at hrun
      simp only [execOp, hf.ev hx, Sem.run_bind, run_convert_bytes_string w' src dst e _ _ c hs he hd, hrun]
      rfl) k
theorem s_eqS {a b : ByteArray} (hx : ev l x = some (.string a)) (hy : ev l y = some (.string b)) (hb : Nat.blt d n = true)
    (k : S P n ops Ch E Q (i + 1) ((d, .bool (a.toList == b.toList)) :: l) h) : O P n ops Ch E Q i d (.binOp .eql t x y yt) l h :=
  s_pure hb (fun A w' hf => by
    simp only [execOp, hf.ev hx, hf.ev hy]
    rfl) k
end rules
end Go.Den

/- Package arraslaw15: fixed calls. Condition: the table of math/bits reads as it is laid. -/
namespace Go.Proofs.YtfcmdefigldpnaaDoor
set_option linter.unusedVariables false
set_option maxRecDepth 8000
open Go Go.Den Go.RowKit Go.Dig Go.Mth

theorem qok97 : QOk 3 97 := ⟨by decide, by decide, by decide, by decide +kernel, 5, by decide, by decide, by decide +kernel⟩
theorem str17 : ((strB (hdrB 1 (2 ^ 3) 17 1 [97])).toList == ByteArray.toList { data := #[1, 0, 8, 0, 0, 0, 17, 1, 1, 0, 0, 0, 0, 0, 0, 0, 97] }) = true := by decide +kernel

theorem Tryd_ent19 : Ent Tryd.prog 19 := ent_of Tryd.func19 (by kernel_rfl) rfl
set_option maxHeartbeats 2000000 in
theorem fixed15_spec (h : Hp) (T : TB h) : CallsH Tryd.prog 19 [] h fun v' h' => v' = .bool true ∧ Ext h h' := by
  have WP := fun w h T A => wparams_spec 3 ⟨8, 17, w, [97], 1⟩ h T A (par17 w) rfl (by decide) (by decide) (by intro q hq; rw [List.mem_singleton.1 hq]; exact qok97)
  unfold ParD.cells at WP
  (apply enter Tryd.func19 rfl Tryd.ntmps19 rfl)
  refine runJ ?_
  (apply (s_litF (f := U) [97] (fun _ => rfl)); exact rfl; exact rfl; exact rfl; exact rfl; exact rfl; exact rfl; exact rfl; exact rfl; omega)
  intro w1 h1 o1 e1 b1
  refine ⟨(by first | exact trivial | exact Ext.refl _ | assumption | exact Ext.trans (by assumption) (by assumption)), ?_⟩
  refine runJ ?_
  (apply (s_build ([I 8, U 17, w1, I 1])); exact rfl; exact rfl; exact rfl; (repeat (first | exact CellsAll.nil | (apply CellsAll.cons; (first | exact oneL (by assumption) | exact oneL (SlF.one (by assumption)) | exact oneL (SlF.one (OwnF.sl (by assumption))) | exact oneL (Var.one (by assumption)) | exact rfl)))); exact rfl; exact rfl)
  refine runJ ?_
  have A1 : ParAt h1 ⟨8, 17, w1, [97], 1⟩ := ⟨o1.sl, by intro x hx; rw [List.mem_singleton.1 hx]; decide, (by decide : 17 < 18446744073709551616), (by decide : 1 ≤ 4611686018427387904)⟩
  apply (s_call Tryd_ent36 rfl rfl rfl)
  refine (WP w1 h1 (T.ext e1) A1).mono ?_
  rintro _ h2 ⟨e2, vb, rfl, o2⟩
  refine ⟨(by first | exact trivial | exact trivial), ?_⟩
  have o2 : OwnF h2 h1.size 5 Y vb (hdrB 1 (2 ^ 3) 17 1 [97]) := o2
  have o2one := o2.sl.one
  have E2 := e1.trans e2
  have hR : Rl (some []) (hdrB 1 (2 ^ 3) 17 1 [97]) (hdrB 1 (2 ^ 3) 17 1 [97] ++ []) := (List.append_nil _).symm.trans (by simp)
  have B2 : BytAt h2 vb (hdrB 1 (2 ^ 3) 17 1 [97]) := ⟨o2.sl, fun j hj => (o2.blk j hj).2, by decide +kernel, by decide +kernel⟩
  have RP := readParams_spec vb _ (some []) (2 ^ 3) 17 1 [97] w1 h2 (T.ext E2) B2 hR (by decide) (by decide) (by decide) (by decide) (by intro x hx; rw [List.mem_singleton.1 hx]; decide) (par17 w1)
  refine runJ ?_
  apply (s_call Tryd_ent37 rfl rfl rfl)
  refine (RP).mono ?_
  rintro _ h3 ⟨e3, p, rfl, hone, c3⟩
  refine ⟨(by first | exact trivial | exact trivial), ?_⟩
  have c3 := c3 rfl
  refine runJ ?_
  (apply s_alloc; exact rfl; exact rfl; exact rfl)
  intro p3 h4 x4 e4 b4
  (try dsimp only [Value.cells, List.toList_toArray] at x4)
  refine ⟨(by first | exact trivial | exact Ext.refl _ | assumption | exact Ext.trans (by assumption) (by assumption)), ?_⟩
  refine runJ ?_
  (apply s_storeV; exact rfl; exact rfl; exact rfl; exact (OneAll.cons rfl (OneAll.cons rfl (OneAll.cons hone (OneAll.cons rfl OneAll.nil))) : OneAll [I p.n, U p.t, p.vq, I p.w]); exact rfl; exact rfl; exact x4; exact rfl)
  intro h5 x5 k5
  refine ⟨trivial, ?_⟩
  have x5 : Var h5 p3 25 [I p.n, U p.t, p.vq, I p.w] := x5
  have e35 : Ext h3 h5 := k5.oldV e4 b4 (Nat.le_refl _)
  have s5 := (o2.sl.ext e3).ext e35
  have ht : U p.t = U 17 := by rw [c3]
  rw [ht] at x5
  refine runJ ?_
  refine s_strB rfl rfl rfl rfl (rd_plain s5) rfl ?_
  refine runJ ?_
  refine s_eqS rfl rfl rfl ?_
  rw [str17]
  refine runJ ?_
  exact fin1 rfl rfl ⟨rfl, (E2.trans e3).trans e35⟩
end Go.Proofs.YtfcmdefigldpnaaDoor

/- arrasmake.Draws: so many words, every second one such that each draw takes it. No condition. -/
namespace Go.Proofs.YtfcmdefigldpnaaDoor
set_option linter.unusedVariables false
set_option maxRecDepth 8000
open Go Go.Den Go.RowKit Go.Dig

/-- What the draws are like. -/
def DrawsOk (ds : List Nat) : Prop := Al 18446744073709551616 ds ∧ ∀ i d, ds[i]? = some d → i % 2 = 1 → d < 9223372036854775808 ∧ d % 4 ≠ 3
theorem DrawsOk.snoc {ds : List Nat} {d : Nat} (h : DrawsOk ds) (h1 : d < 18446744073709551616) (h2 : ds.length % 2 = 1 → d < 9223372036854775808 ∧ d % 4 ≠ 3) : DrawsOk (ds ++ [d]) := by
  refine ⟨fun x hx => ?_, fun i x hi ho => ?_⟩
  · rcases List.mem_append.1 hx with hx | hx
    · exact h.1 x hx
    · rw [List.mem_singleton.1 hx]; exact h1
  · by_cases hl : i < ds.length
    · rw [List.getElem?_append_left hl] at hi
      exact h.2 i x hi ho
    · rw [List.getElem?_append_right (by omega)] at hi
      have : i - ds.length = 0 := by
        rcases Nat.lt_or_ge (i - ds.length) 1 with h | h
        · omega
        · rw [List.getElem?_eq_none (by simpa using h)] at hi; cases hi
      rw [this] at hi
      cases hi
      exact h2 (by rw [show ds.length = i by omega]; exact ho)

theorem Tryd_ent21 : Ent Tryd.prog 21 := ent_of Tryd.func21 (by kernel_rfl) rfl
set_option maxHeartbeats 2000000 in
theorem draws_spec (vs : Value) (xs : List Nat) (n : Nat) (h : Hp) (s : SlF h U vs xs) (al : Al 18446744073709551616 xs) (hl : xs.length < 4611686018427387904) (hn : n ≤ 1000000) :
    CallsH Tryd.prog 21 [vs, N n] h fun v' h' => Ext h h' ∧ ∃ ds, OwnF h' h.size 22 U v' ds ∧ ds.length = n ∧ DrawsOk ds := by
  have e64 : (2 : Nat) ^ 64 = 18446744073709551616 := by decide
  have xlt : ∀ a b : Nat, a < 18446744073709551616 → b < 18446744073709551616 → a ^^^ b < 18446744073709551616 := fun a b ha hb => by
    rw [← e64] at *
    exact Nat.xor_lt_two_pow ha hb
  (apply enter Tryd.func21 rfl Tryd.ntmps21 rfl)
  refine runJ ?_
  (first | (apply w_seqB; exact rfl; apply w_block; exact rfl) | skip)
  apply (w_loop (σ := Nat × Nat × Value × List Nat) rfl (fun j => [(0, vs), (1, N n), (5, U j.2.1), (6, j.2.2.1), (7, N j.1)])
    (fun j h' => j.1 ≤ n ∧ Ext h h' ∧ OwnF h' h.size 22 U j.2.2.1 j.2.2.2 ∧ j.2.2.2.length = j.1 ∧ DrawsOk j.2.2.2 ∧ j.2.1 < 18446744073709551616) (fun j => n - j.1) (0, 11400714819323198485, .slice none 0 0, []))
  · exact (Sub.cons rfl (Sub.cons rfl (Sub.cons rfl (Sub.cons rfl (Sub.cons rfl (Sub.nil _))))))
  · exact ⟨Nat.zero_le _, Ext.refl _, OwnF.nil _ _ _ _, rfl, ⟨(by intro x hx; cases hx), (by intro i d hd; cases hd)⟩, by decide⟩
  rintro ⟨j, x, v, ds⟩ h1 ⟨j1, e1, o1, l1, d1, hx⟩
  dsimp only at j1 o1 l1 d1 hx ⊢
  have s1 := s.ext e1
  refine runJ ?_
  (apply w_condD; exact rfl; exact rfl) <;> intro hj
  · refine runJ ?_
    apply (w_tcut (σ := Nat) (fun y => [(0, vs), (1, N n), (5, U y), (6, v), (7, N j)]) (fun y h' => h1 = h' ∧ y < 18446744073709551616))
    · (apply w_condD; exact rfl; exact rfl) <;> intro h0
      · obtain ⟨a, ha⟩ := get_lt (l := xs) (j := j % xs.length) (Nat.mod_lt _ h0)
        have haa := al a (List.mem_of_getElem? ha)
        have hlt := Nat.mod_lt j h0
        refine runJ ?_
        apply cut_normal (x ^^^ a)
        · exact (Sub.cons rfl (Sub.cons rfl (Sub.cons rfl (Sub.cons rfl (Sub.cons rfl (Sub.nil _))))))
        · exact ⟨rfl, xlt _ _ hx haa⟩
      · refine runJ ?_
        apply cut_normal x
        · exact (Sub.cons rfl (Sub.cons rfl (Sub.cons rfl (Sub.cons rfl (Sub.cons rfl (Sub.nil _))))))
        · exact ⟨rfl, hx⟩
    rintro y h' ⟨rfl, hy⟩
    have hy1 := xlt y (y * 2 ^ 13 % 18446744073709551616) hy (Nat.mod_lt _ (by decide))
    refine runJ ?_
    generalize y ^^^ y * 2 ^ 13 % 18446744073709551616 = y1 at *
    have hy2 := xlt y1 (y1 / 2 ^ 7) hy1 (Nat.lt_of_le_of_lt (Nat.div_le_self _ _) hy1)
    refine runJ ?_
    generalize y1 ^^^ y1 / 2 ^ 7 = y2 at *
    have hy3 := xlt y2 (y2 * 2 ^ 17 % 18446744073709551616) hy2 (Nat.mod_lt _ (by decide))
    refine runJ ?_
    generalize y2 ^^^ y2 * 2 ^ 17 % 18446744073709551616 = y3 at *
    (apply s_addUw; (first | exact isK_c | exact isK_t rfl); (first | exact isK_c | exact isK_t rfl); exact rfl)
    have hz : (y3 + j) % 18446744073709551616 < 18446744073709551616 := Nat.mod_lt _ (by decide)
    generalize (y3 + j) % 18446744073709551616 = z at *
    have hj64 : j < 9223372036854775808 := by omega
    refine runJ ?_
    apply (w_tcut (σ := Nat) (fun z => [(0, vs), (1, N n), (5, U y3), (6, v), (7, N j), (8, U z)]) (fun z h' => h1 = h' ∧ z < 18446744073709551616 ∧ (j % 2 = 1 → z < 9223372036854775808 ∧ z % 4 ≠ 3)))
    · (apply w_condD; exact rfl; exact rfl) <;> intro h0
      · have hz3 : z % 9223372036854775808 < 9223372036854775808 := Nat.mod_lt _ (by decide)
        refine runJ ?_
        generalize z % 9223372036854775808 = z3 at *
        (apply w_condD; exact rfl; exact rfl) <;> intro h4
        · refine runJ ?_
          apply cut_normal (z3 - 1)
          · exact (Sub.cons rfl (Sub.cons rfl (Sub.cons rfl (Sub.cons rfl (Sub.cons rfl (Sub.cons rfl (Sub.nil _)))))))
          · exact ⟨rfl, by omega, fun _ => ⟨by omega, by omega⟩⟩
        · refine runJ ?_
          apply cut_normal z3
          · exact (Sub.cons rfl (Sub.cons rfl (Sub.cons rfl (Sub.cons rfl (Sub.cons rfl (Sub.cons rfl (Sub.nil _)))))))
          · exact ⟨rfl, by omega, fun _ => ⟨hz3, h4⟩⟩
      · refine runJ ?_
        apply cut_normal z
        · exact (Sub.cons rfl (Sub.cons rfl (Sub.cons rfl (Sub.cons rfl (Sub.cons rfl (Sub.cons rfl (Sub.nil _)))))))
        · exact ⟨rfl, hz, fun h => absurd h h0⟩
    clear hz
    rintro w h' ⟨rfl, hw, hw2⟩
    refine runJ ?_
    obtain ⟨hsz, ex1⟩ := cutH_ext e1.1
    have hl1 : ds.length ≤ 1000000 := by omega
    rw [← hsz] at o1
    (refine s_app1 (bytes := 8) (w) o1 ex1 rfl rfl rfl rfl rfl rfl rfl rfl rfl (by first | exact rfl | exact congrArg some (congrArg I (by omega))) (fun _ => rfl) rfl rfl (fun _ _ => trivial) (by omega) (by simp only [maxLen]; omega) ?_)
    intro v2 h2 o2 e2 k2 b2
    rw [hsz] at o1 o2
    have hb : ∀ b, v.ownBlock = some b → h.size ≤ b := fun b hb => (o1.blk b hb).1
    refine runJ ?_
    apply again_normal (j + 1, y3, v2, ds ++ [w])
    · exact (Sub.cons rfl (Sub.cons rfl (Sub.cons rfl (Sub.cons rfl (Sub.cons rfl (Sub.nil _))))))
    · exact ⟨hj, k2.old e1 hb, o2, by dsimp only; rw [List.length_append, l1]; rfl, d1.snoc hw (by rw [l1]; exact hw2), hy3⟩
    · dsimp only; omega
  · obtain rfl : j = n := by omega
    refine runJ ?_
    exact fin1 rfl rfl ⟨e1, ds, o1, l1, d1⟩
end Go.Proofs.YtfcmdefigldpnaaDoor
