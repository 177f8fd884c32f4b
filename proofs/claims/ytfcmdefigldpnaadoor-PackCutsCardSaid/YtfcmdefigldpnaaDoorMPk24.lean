/- Texts PckB to PckF of this work, joined: each says in its own head what it proves, and of which condition. -/
import Derived.Test.YtfcmdefigldpnaaDoorMPk23
/- Package pack: a writer writes parameters and elements. No condition. -/
namespace Go.Proofs.YtfcmdefigldpnaaDoor
set_option linter.unusedVariables false
set_option maxRecDepth 8000
open Go Go.Den Go.RowKit Go.Dig

theorem WrAt.ext {h h' : Hp} {w vb : Value} {k : Nat} {bs : List Nat} (W : WrAt h w k vb bs) (e : Ext h h') : WrAt h' w k vb bs := ⟨W.pw, W.var.ext e, W.own.ext e⟩
theorem Two.refl (r1 r2 : Option Nat) (h : Hp) : Two r1 r2 h h := ⟨Nat.le_refl _, fun _ _ _ _ => rfl⟩
theorem Two.trans {r1 r2 : Option Nat} {a b c : Hp} (h : Two r1 r2 a b) (k : Two r1 r2 b c) : Two r1 r2 a c :=
  ⟨Nat.le_trans h.1 k.1, fun i hi h1 h2 => (k.2 i (Nat.lt_of_lt_of_le hi h.1) h1 h2).trans (h.2 i hi h1 h2)⟩
theorem wr_step {h h2 h3 : Hp} {w vb v2 : Value} {k : Nat} {bs bs' : List Nat} (W : WrAt h w k vb bs) (k2 : Only vb.ownBlock h h2) (o2 : OwnF h2 (k + 1) 5 Y v2 bs') (b2 : v2.ownBlock = vb.ownBlock ∨ ∃ j, v2.ownBlock = some j ∧ h.size ≤ j) (x3 : Var h3 w 96 [v2]) (k3 : Only (pblk w) h2 h3) : WrAt h3 w k v2 bs' ∧ Grw h h3 k vb v2 := by
  rw [W.pw] at k3
  have hv2 : v2.ownBlock = none ∨ v2.ownBlock ≠ some k := by
    cases hv : v2.ownBlock with
    | none => exact .inl rfl
    | some j => exact .inr fun e => by cases e; have := (o2.blk _ hv).1; omega
  exact ⟨⟨W.pw, x3, o2.only k3 hv2⟩, ⟨Nat.le_trans k2.1 k3.1, fun i hi q1 q2 => (k3.2 i (Nat.lt_of_lt_of_le hi k2.1) q1).trans (k2.2 i hi q2)⟩, b2⟩
theorem wr_ne {h : Hp} {w vb : Value} {k : Nat} {bs : List Nat} (W : WrAt h w k vb bs) : pblk w ≠ vb.ownBlock := by rw [W.pw]; intro e; have := W.up k e.symm; omega
theorem polyB_append (a b : List (List Nat)) : polyB (a ++ b) = polyB a ++ polyB b := by unfold polyB; rw [List.flatMap_append]
theorem polyB_part {xs : List (List Nat)} {j : Nat} {l : List Nat} (h : xs[j]? = some l) : (polyB (xs.take j)).length + 8 * l.length ≤ (polyB xs).length := by
  have e : polyB xs = polyB (xs.take (j + 1)) ++ polyB (xs.drop (j + 1)) := by rw [← polyB_append, List.take_append_drop]
  rw [e, take_snoc h, polyB_snoc, List.length_append, List.length_append, wordsB_len]
  omega

theorem Tryd_ent43 : Ent Tryd.prog 43 := ent_of Tryd.func43 (by kernel_rfl) rfl
theorem wpoly_spec (w vb va : Value) (k : Nat) (bs : List Nat) (rows : List (Value × List Nat)) (h : Hp) (W : WrAt h w k vb bs) (S : PolAt h va rows) (lo : ∀ j, va.ownBlock = some j → j < k) (lor : ∀ x ∈ rows, ∀ j, x.1.ownBlock = some j → j < k) (hl : ∀ x ∈ rows, ∀ a ∈ x.2, a < 18446744073709551616) (hn : rows.length ≤ 1000) (hb : bs.length + (polyB (rows.map (·.2))).length ≤ 1000000) :
    CallsH Tryd.prog 43 [w, .agg #[va]] h fun v' h' => ∃ vb', WrAt h' w k vb' (bs ++ polyB (rows.map (·.2))) ∧ Grw h h' k vb vb' := by
  have sr := S.row
  have se := S.el
  (apply enter Tryd.func43 rfl Tryd.ntmps43 rfl)
  refine runJ ?_
  (apply s_box; exact rfl; exact rfl; exact rfl; exact rfl)
  intro p3 h0 x0 e0 b0
  (try dsimp only [Value.cells, List.toList_toArray] at x0)
  refine ⟨(by first | exact trivial | exact Ext.refl _ | assumption | exact Ext.trans (by assumption) (by assumption)), ?_⟩
  have W0 := W.ext e0
  have sr0 := sr.ext e0
  refine runJ ?_
  (first | (apply w_seqB; exact rfl; apply w_block; exact rfl) | skip)
  apply (w_loop (σ := Nat × Value) rfl (fun j => [(0, w), (7, va), (8, N rows.length), (9, N j.1)])
    (fun j h' => j.1 ≤ rows.length ∧ WrAt h' w k j.2 (bs ++ polyB ((rows.map (·.2)).take j.1)) ∧ Grw h h' k vb j.2) (fun j => rows.length - j.1) (0, vb))
  · exact (Sub.cons rfl (Sub.cons rfl (Sub.cons rfl (Sub.cons rfl (Sub.nil _)))))
  · refine ⟨Nat.zero_le _, ?_, ⟨⟨e0.1, fun i hi _ _ => e0.2 i hi⟩, .inl rfl⟩⟩
    dsimp only
    rw [List.take_zero]
    show WrAt h0 w k vb (bs ++ [])
    rw [List.append_nil]; exact W0
  rintro ⟨j, v1⟩ h1 ⟨j1, W1, G1⟩
  dsimp only at j1 W1 G1 ⊢
  have s1 := sl_grw sr W G1 lo
  refine runJ ?_
  (apply w_condD; exact rfl; exact rfl) <;> intro hj
  · obtain ⟨x, hxj⟩ := get_lt hj
    have hm := List.mem_of_getElem? hxj
    have sx := sl_grw (se x hm) W G1 (lor x hm)
    have hxa := hl x hm
    have lox := lor x hm
    have hmj : (rows.map (·.2))[j]? = some x.2 := by rw [List.getElem?_map, hxj]; rfl
    have hpp := polyB_part hmj
    obtain ⟨vx, ws⟩ := x
    dsimp only at sx hxa lox hmj hpp ⊢
    refine runJ ?_
    apply (s_call Tryd_ent69 rfl rfl rfl)
    refine (words_spec w v1 vx k _ ws h1 W1 sx lox hxa (by rw [List.length_append]; omega)).mono ?_
    rintro _ h2 ⟨v2, W2, G2⟩
    refine ⟨(by first | exact trivial | exact trivial), ?_⟩
    rw [List.append_assoc, ← polyB_snoc, ← take_snoc hmj] at W2
    refine runJ ?_
    apply again_normal (j + 1, v2)
    · exact (Sub.cons rfl (Sub.cons rfl (Sub.cons rfl (Sub.cons rfl (Sub.nil _)))))
    · exact ⟨hj, W2, G1.trans G2⟩
    · dsimp only; omega
  · obtain rfl : j = rows.length := by omega
    rw [List.take_of_length_le (by rw [List.length_map]; exact Nat.le_refl _)] at W1
    refine runJ ?_
    exact fin0n rfl ⟨v1, W1, G1⟩

/-- What parameters are as bytes, the kind ahead of them. -/
def hdrB (kind n t w : Nat) (q : List Nat) : List Nat := [kind] ++ numB n 2 ++ numB t 4 ++ [w % 256, q.length % 256] ++ wordsB q
theorem hdrB_len (kind n t w : Nat) (q : List Nat) : (hdrB kind n t w q).length = 9 + 8 * q.length := by
  unfold hdrB
  simp only [List.length_append, numB_len, wordsB_len, List.length_cons, List.length_nil]

theorem Tryd_ent65 : Ent Tryd.prog 65 := ent_of Tryd.func65 (by kernel_rfl) rfl
set_option maxHeartbeats 4000000 in
theorem wstart_spec (w vb vq : Value) (k kind n t ww : Nat) (bs q : List Nat) (h : Hp) (W : WrAt h w k vb bs) (s : SlF h U vq q) (lo : ∀ j, vq.ownBlock = some j → j < k) (hq : ∀ x ∈ q, x < 18446744073709551616) (hn : n < 65536) (ht : t < 18446744073709551616) (hw : ww < 65536) (hb : bs.length + 8 * q.length ≤ 900000) (hkd : kind < 256) :
    CallsH Tryd.prog 65 [w, Y kind, .agg #[N n, U t, vq, N ww]] h fun v' h' => ∃ vb', WrAt h' w k vb' (bs ++ hdrB kind n t ww q) ∧ Grw h h' k vb vb' := by
  have hkl := W.lt
  (apply enter Tryd.func65 rfl Tryd.ntmps65 rfl)
  refine runJ ?_
  (apply s_box; exact rfl; exact rfl; exact rfl; exact rfl)
  intro p5 h0 x5 e0 b5
  (try dsimp only [Value.cells, List.toList_toArray] at x5)
  refine ⟨(by first | exact trivial | exact Ext.refl _ | assumption | exact Ext.trans (by assumption) (by assumption)), ?_⟩
  have x5 : Var h0 p5 25 [N n, U t, vq, N ww] := x5
  have W0 := W.ext e0
  have G0 : Grw h h0 k vb vb := ⟨⟨e0.1, fun i hi _ _ => e0.2 i hi⟩, .inl rfl⟩
  have hne5k : pblk p5 ≠ some k := by rw [b5]; intro e; cases e; omega
  have x0 := W0.var
  have hvb := fun j hj => (W.own.blk j hj).2
  have N5 : ∀ {h' : Hp} {v' : Value}, Grw h0 h' k vb v' → pblk p5 ≠ v'.ownBlock := by
    intro h' v' g
    rw [b5]
    intro e
    have hs5 : h.size < h0.size := by obtain ⟨j, hj, hl⟩ := x5.blk; rw [b5] at hj; cases hj; exact hl
    rcases g.2 with q | ⟨j, hj, hjl⟩
    · rw [q] at e; have := hvb _ e.symm; omega
    · rw [hj] at e; cases e; omega
  have N50 : pblk p5 ≠ vb.ownBlock := N5 (Grw.refl h0 k vb)
  refine runJ ?_
  obtain ⟨hsz, ex0⟩ := cutH_ext (show k + 1 ≤ h0.size from W0.lt)
  have o0 := W0.own
  rw [← hsz] at o0
  (refine s_app1 (bytes := 1) (kind) o0 ex0 rfl rfl rfl rfl rfl rfl rfl rfl rfl (by first | exact rfl | exact congrArg some (congrArg I (by omega))) (fun _ => rfl) rfl rfl (fun _ _ => trivial) (by omega) (by simp only [maxLen]; omega) ?_)
  intro v1 h1 o1 e1 k1 b1
  rw [hsz] at o1
  have o1one := o1.sl.one
  have y1 := x0.only k1 (wr_ne W0)
  refine runJ ?_
  (apply s_storeC; exact rfl; exact rfl; (first | exact rfl | exact SlF.one (by assumption) | exact SlF.one (OwnF.sl (by assumption)) | exact Var.one (by assumption)); exact rfl; exact rfl; exact y1; exact rfl)
  intro h2 x2 k2
  refine ⟨(by first | exact trivial | exact Ext.refl _ | assumption | exact Ext.only (by assumption) _ | exact Only.trans (Ext.only (by assumption) _) (by assumption)), ?_⟩
  obtain ⟨W2, G2⟩ := wr_step W0 k1 o1 b1 x2 k2
  have x52 := var_two x5 G2.1 W0.lt hne5k N50
  have n52 := N5 G2
  have nw2 := wr_ne W2
  have hlen1 : (bs ++ [kind]).length ≤ 1000000 := by rw [List.length_append, List.length_singleton]; omega
  have hn64 : n < 18446744073709551616 := by omega
  refine runJN ?_
  (apply (r_drawnT 11 (Only v1.ownBlock h2)); exact rfl; exact mixed; kernel_rfl; exact rfl; first | exact Ext.refl _ | exact Only.refl _ _)
  refine runJ ?_
  apply (s_call Tryd_ent87 rfl rfl rfl)
  refine (number_spec v1 _ n 2 (k + 1) h2 W2.own W2.lt hn64 (by decide) hlen1).mono ?_
  rintro v3 h3 ⟨k3, o3, b3⟩
  refine ⟨(by first | exact trivial | exact k3), ?_⟩
  have y3 := x2.only k3 nw2
  have o3one := o3.sl.one
  refine runJ ?_
  apply tail_end
  refine runJ ?_
  (apply s_storeC; exact rfl; exact rfl; (first | exact rfl | exact SlF.one (by assumption) | exact SlF.one (OwnF.sl (by assumption)) | exact Var.one (by assumption)); exact rfl; exact rfl; exact y3; exact rfl)
  intro h4 x4 k4
  refine ⟨(by first | exact trivial | exact Ext.refl _ | assumption | exact Ext.only (by assumption) _ | exact Only.trans (Ext.only (by assumption) _) (by assumption)), ?_⟩
  obtain ⟨W4, G4⟩ := wr_step W2 k3 o3 b3 x4 k4
  have G04 := G2.trans G4
  have x54 := var_two x5 G04.1 W0.lt hne5k N50
  have n54 := N5 G04
  have nw4 := wr_ne W4
  have hlen4 : (bs ++ [kind] ++ numB n 2).length ≤ 1000000 := by simp only [List.length_append, List.length_singleton, numB_len]; omega
  refine runJN ?_
  (apply (r_drawnT 10 (Only v3.ownBlock h4)); exact rfl; exact mixed; kernel_rfl; exact rfl; first | exact Ext.refl _ | exact Only.refl _ _)
  refine runJ ?_
  apply (s_call Tryd_ent87 rfl rfl rfl)
  refine (number_spec v3 _ t 4 (k + 1) h4 W4.own W4.lt ht (by decide) hlen4).mono ?_
  rintro v5 h5 ⟨k5, o5, b5'⟩
  refine ⟨(by first | exact trivial | exact k5), ?_⟩
  have y5 := x4.only k5 nw4
  have o5one := o5.sl.one
  refine runJ ?_
  apply tail_end
  refine runJ ?_
  (apply s_storeC; exact rfl; exact rfl; (first | exact rfl | exact SlF.one (by assumption) | exact SlF.one (OwnF.sl (by assumption)) | exact Var.one (by assumption)); exact rfl; exact rfl; exact y5; exact rfl)
  intro h6 x6 k6
  refine ⟨(by first | exact trivial | exact Ext.refl _ | assumption | exact Ext.only (by assumption) _ | exact Only.trans (Ext.only (by assumption) _) (by assumption)), ?_⟩
  obtain ⟨W6, G6⟩ := wr_step W4 k5 o5 b5' x6 k6
  have G06 := G04.trans G6
  have x56 := var_two x5 G06.1 W0.lt hne5k N50
  have n56 := N5 G06
  have nw6 := wr_ne W6
  have hlen6 : (bs ++ [kind] ++ numB n 2 ++ numB t 4).length = bs.length + 7 := by simp only [List.length_append, List.length_singleton, numB_len]
  refine runJN ?_
  (apply (r_drawnT 16 (Only v5.ownBlock h6)); exact rfl; exact mixed; kernel_rfl; exact rfl; first | exact Ext.refl _ | exact Only.refl _ _)
  refine runJ ?_
  apply s_convY (isK_t rfl) rfl rfl rfl
  refine runJ ?_
  apply s_convY (isK_t rfl) rfl rfl rfl
  refine runJ ?_
  generalize hbs6 : bs ++ [kind] ++ numB n 2 ++ numB t 4 = bs6 at W6 hlen6
  generalize hy1 : ww % 256 = y1
  generalize hy2 : q.length % 256 = y2
  (apply (s_litF (f := Y) [y1, y2] (fun _ => rfl)); exact rfl; exact rfl; exact rfl; exact rfl; exact rfl; exact rfl; exact rfl; exact rfl; omega)
  intro v7 h7 o7 e7 b7
  refine ⟨(by first | exact e7.only _ | exact trivial | exact Ext.refl _ | assumption | exact Ext.trans (by assumption) (by assumption)), ?_⟩
  have o67 := W6.own.ext e7
  have hk7 : k + 1 ≤ h7.size := Nat.le_trans W6.lt e7.1
  have hl2 : [y1, y2].length = 2 := rfl
  refine runJ ?_
  (apply (s_appendF (bytes := 1)); exact rfl; exact rfl; exact rfl; exact rfl; exact rfl; exact rfl; exact rfl; exact o67; exact o7.sl; exact fun _ => rfl; (first | exact Nat.le_refl _ | exact ext_size (by assumption) | omega); ((try simp only [maxLen]); (try simp only [List.length_nil]); (try simp only [List.length_append]); omega); ((try simp only [List.length_nil]); (try simp only [List.length_append]); omega))
  intro v8 h8 o8 k8 b8
  refine ⟨(by first | exact (e7.only _).trans k8 | exact trivial | exact Ext.refl _ | assumption | exact Ext.trans (by assumption) (by assumption)), ?_⟩
  have k68 : Only v5.ownBlock h6 h8 := (e7.only _).trans k8
  have y8 := x6.only k68 nw6
  have o8one := o8.sl.one
  refine runJ ?_
  apply tail_end
  refine runJ ?_
  (apply s_storeC; exact rfl; exact rfl; (first | exact rfl | exact SlF.one (by assumption) | exact SlF.one (OwnF.sl (by assumption)) | exact Var.one (by assumption)); exact rfl; exact rfl; exact y8; exact rfl)
  intro h9 x9 k9
  refine ⟨(by first | exact trivial | exact Ext.refl _ | assumption | exact Ext.only (by assumption) _ | exact Only.trans (Ext.only (by assumption) _) (by assumption)), ?_⟩
  obtain ⟨W9, G9⟩ := wr_step W6 k68 o8 (b8.imp id fun ⟨j, hj, hl⟩ => ⟨j, hj, Nat.le_trans e7.1 hl⟩) x9 k9
  have G09 := G06.trans G9
  have x59 := var_two x5 G09.1 W0.lt hne5k N50
  have s9 := sl_grw (s.ext e0) W0 G09 lo
  refine runJ ?_
  apply (s_call Tryd_ent69 rfl rfl rfl)
  refine (words_spec w v8 vq k _ q h9 W9 s9 lo hq (by rw [List.length_append]; omega)).mono ?_
  rintro _ h10 ⟨v10, W10, G10⟩
  refine ⟨(by first | exact trivial | exact trivial), ?_⟩
  have hbb : bs6 ++ [y1, y2] ++ wordsB q = bs ++ hdrB kind n t ww q := by
    rw [← hbs6, ← hy1, ← hy2]
    unfold hdrB
    simp only [List.append_assoc]
  rw [hbb] at W10
  refine runJ ?_
  exact fin0n rfl ⟨v10, W10, G0.trans (G09.trans G10)⟩
end Go.Proofs.YtfcmdefigldpnaaDoor

/- Package pack: a ring that is asked for levels alone; what begins a text. Condition: the table of math/bits reads as it is laid. -/
namespace Go.Proofs.YtfcmdefigldpnaaDoor
set_option linter.unusedVariables false
set_option maxRecDepth 8000
open Go Go.Den Go.RowKit Go.Mth Go.Dig

set_option maxHeartbeats 2000000 in
theorem ringNewQ_spec (L : Nat) (vp : Value) (qs : List Nat) (h : Hp) (T : TB h) (s : SlF h U vp qs) (hL1 : 1 ≤ L) (hL9 : L ≤ 9) (hq : ∀ q ∈ qs, QOk L q) (hnd : qs.Nodup) (h0 : 0 < qs.length) (h24 : qs.length ≤ 24) :
    CallsH Tryd.prog 66 [N (2 ^ L), vp] h fun v' h' => Ext h h' ∧ ∃ g vq vt, v' = .tuple #[g, N 0] ∧ Var h' g 126 [N (2 ^ L), vq, vt] ∧ SlF h' U vq qs ∧ (∃ k, pblk g = some k ∧ h.size ≤ k) ∧ ∀ k, vq.ownBlock = some k → h.size ≤ k := by
  have CL := fun h s => clone_spec vp qs h s (by omega)
  have NW := fun q (hq : QOk L q) h T => nttNewX_spec L q hq.root.choose h T hL1 hL9 hq.q61 hq.qm hq.q1 hq.is hq.root.choose_spec.1 hq.root.choose_spec.2.1 hq.root.choose_spec.2.2
  (apply enter Tryd.func66 rfl Tryd.ntmps66 rfl)
  refine runJ ?_
  (apply s_splitG; exact rfl; exact rfl; exact rfl; exact rfl) <;> intro g1
  · exact absurd g1 (by omega)
  refine runJ ?_
  (apply w_condF; exact rfl; exact rfl; exact (show ¬ 24 < qs.length by omega))
  refine runJ ?_
  apply (s_call Tryd_ent88 rfl rfl rfl)
  refine (CL h s).mono ?_
  rintro vq h1 ⟨e1, o1⟩
  refine ⟨(by first | exact trivial | exact trivial), ?_⟩
  refine runJ ?_
  (apply (s_build ([N (2 ^ L), vq, .slice none 0 0])); exact rfl; exact rfl; exact rfl; (repeat (first | exact CellsAll.nil | (apply CellsAll.cons; (first | exact oneL (by assumption) | exact oneL (SlF.one (by assumption)) | exact oneL (SlF.one (OwnF.sl (by assumption))) | exact oneL (Var.one (by assumption)) | exact rfl)))); exact rfl; exact rfl)
  refine runJ ?_
  (apply s_box; exact rfl; exact rfl; exact rfl; exact rfl)
  intro g h2 G2 e2 b2
  (try dsimp only [Value.cells, List.toList_toArray] at G2)
  refine ⟨(by first | exact trivial | exact Ext.refl _ | assumption | exact Ext.trans (by assumption) (by assumption)), ?_⟩
  have e02 := e1.trans e2
  have hgl : h.size ≤ h1.size := e1.1
  have hg2 : h1.size < h2.size := by obtain ⟨j, hj, hl⟩ := G2.blk; rw [b2] at hj; cases hj; exact hl
  have nq : vq.ownBlock = none ∨ vq.ownBlock ≠ pblk g := SlF.neV (f := U) (xs := []) (fun j hj => (o1.blk j hj).2) b2 (Nat.le_refl _)
  have q2 := o1.sl.ext e2
  have s02 := s.ext e02
  refine runJ ?_
  (first | (apply w_seqB; exact rfl; apply w_block; exact rfl) | skip)
  apply (w_loop (σ := Nat × List (Value × Tbl) × Value) rfl (fun j => [(0, N (2 ^ L)), (1, vp), (6, g), (24, vp), (25, N qs.length), (26, N j.1)])
    (fun j h' => Ext h1 h' ∧ h2.size ≤ h'.size ∧ j.1 ≤ qs.length ∧ Var h' g 126 [N (2 ^ L), vq, j.2.2] ∧ OwnF h' h1.size 74 Prod.fst j.2.2 j.2.1 ∧ (∀ k, j.2.2.ownBlock = some k → h2.size ≤ k) ∧ j.2.1.map (fun x => x.2.q) = qs.take j.1 ∧
      ∀ x ∈ j.2.1, TblAt h' x.1 x.2 ∧ (TblOk x.2 ∧ x.2.L = L ∧ RootR x.2.q (2 ^ (L + 1)) x.2.w) ∧ TblSep (pblk g) x ∧ TblSep j.2.2.ownBlock x) (fun j => qs.length - j.1) (0, [], .slice none 0 0))
  · exact (Sub.cons rfl (Sub.cons rfl (Sub.cons rfl (Sub.cons rfl (Sub.cons rfl (Sub.cons rfl (Sub.nil _)))))))
  · exact ⟨e2, Nat.le_refl _, Nat.zero_le _, G2, OwnF.nil _ _ _ _, (by intro k hk; cases hk), rfl, (by intro x hx; cases hx)⟩
  rintro ⟨j, ts, vt⟩ h3 ⟨e3, z3, j1, G3, o3, v3, m3, t3⟩
  dsimp only at e3 z3 j1 G3 o3 v3 m3 t3 ⊢
  have s3 := (s.ext e1).ext e3
  refine runJ ?_
  (apply w_condD; exact rfl; exact rfl) <;> intro hj
  · obtain ⟨q, hqj⟩ := get_lt hj
    have hqm := List.mem_of_getElem? hqj
    have hqk := hq q hqm
    refine runJ ?_
    apply (s_call Tryd_ent30 rfl rfl rfl)
    refine (NW q hqk h3 (T.ext (e1.trans e3))).mono ?_
    rintro _ h4 ⟨e4, tg, t, rfl, A4, K4, hL4, hq4, hR4, N4⟩
    refine ⟨(by first | exact trivial | exact trivial), ?_⟩
    have e14 := e3.trans e4
    have s4 := s3.ext e4
    have c4 := s4.cut (lo := 0) (hi := j) (Nat.zero_le _) j1
    rw [List.drop_zero, Nat.sub_zero] at c4
    have hnin : q ∉ qs.take j := fun hin => not_nodup_at hqj hin hnd
    have CT := contains_spec _ (qs.take j) q h4 c4 (by rw [List.length_take]; omega)
    rw [decide_eq_false hnin] at CT
    refine runJ ?_
    apply (s_call Tryd_ent72 rfl rfl rfl)
    refine (CT).mono ?_
    rintro _ _ ⟨rfl, rfl⟩
    refine ⟨(by first | exact trivial | exact trivial), ?_⟩
    have G4 := G3.ext e4
    have o4 := o3.ext e4
    have htl : ts.length = j := by
      have := congrArg List.length m3
      rw [List.length_map, List.length_take] at this
      omega
    refine runJ ?_
    (refine s_app1V (bytes := 8) ((tg, t)) o4 e14 rfl rfl rfl rfl rfl rfl rfl rfl rfl (by first | exact rfl | exact congrArg some (congrArg I (by omega))) (A4.var.one) rfl rfl (fun _ _ => trivial) (by omega) (by simp only [maxLen]; omega) ?_)
    intro v5 h5 o5 e5 k5 b5
    have hpg : pblk g ≠ vt.ownBlock := by
      rw [b2]; intro e
      have := v3 _ e.symm; omega
    have hv5 : ∀ k, v5.ownBlock = some k → h2.size ≤ k := fun k hk => by
      rcases b5 with b5 | ⟨b, hb, hbl⟩
      · exact v3 k (by rw [← b5]; exact hk)
      · rw [hk] at hb; cases hb
        exact Nat.le_trans z3 (Nat.le_trans e4.1 hbl)
    have G5 := G4.only k5 hpg
    have hsepN : TblSep vt.ownBlock (tg, t) := by
      cases hvt : vt.ownBlock with
      | none => exact A4.sep0
      | some k => exact N4.sep (o3.blk k hvt).2
    have hsep5 : ∀ x : Value × Tbl, TblOk x.2 → TblAt h4 x.1 x.2 → TblSep vt.ownBlock x → TblSep v5.ownBlock x := fun x hk ha hs => by
      rcases b5 with b5 | ⟨b, hb, hbl⟩
      · rw [b5]; exact hs
      · rw [hb]; exact ha.lt hk hbl
    refine runJ ?_
    (apply s_storeC; exact rfl; exact rfl; (first | exact rfl | exact SlF.one (by assumption) | exact SlF.one (OwnF.sl (by assumption)) | exact Var.one (by assumption)); exact rfl; exact rfl; exact G5; exact rfl)
    intro h6 G6 k6
    refine ⟨(by first | exact trivial | exact Ext.refl _ | assumption | exact Ext.only (by assumption) _ | exact Only.trans (Ext.only (by assumption) _) (by assumption)), ?_⟩
    have e6 : Ext h1 h6 := k6.oldV e5 b2 (Nat.le_refl _)
    have ne5 : v5.ownBlock = none ∨ v5.ownBlock ≠ pblk g := by
      cases h5v : v5.ownBlock with
      | none => exact .inl rfl
      | some k =>
        refine .inr fun e => ?_
        rw [b2] at e; cases e
        have := hv5 _ h5v; omega
    have o6 := o5.only k6 ne5
    refine runJ ?_
    apply again_normal (j + 1, ts ++ [(tg, t)], v5)
    · exact (Sub.cons rfl (Sub.cons rfl (Sub.cons rfl (Sub.cons rfl (Sub.cons rfl (Sub.cons rfl (Sub.nil _)))))))
    · refine ⟨e6, Nat.le_trans z3 (Nat.le_trans e4.1 (Nat.le_trans k5.1 k6.1)), hj, G6, o6, hv5, ?_, fun x hx => ?_⟩
      · dsimp only
        rw [List.map_append, m3, take_snoc hqj, List.map_cons, List.map_nil, hq4]
      · rcases List.mem_append.1 hx with hx | hx
        · obtain ⟨a1, a2, a3, a4⟩ := t3 x hx
          have a5 := a1.ext e4
          exact ⟨(a5.only k5 a4).only k6 a3, a2, a3, hsep5 x a2.1 a5 a4⟩
        · simp only [List.mem_singleton] at hx
          subst hx
          have a3 : TblSep (pblk g) (tg, t) := by rw [b2]; exact N4.sep (Nat.lt_of_lt_of_le hg2 z3)
          exact ⟨(A4.only k5 hsepN).only k6 a3, ⟨K4, hL4, by rw [hq4]; exact hR4⟩, a3, hsep5 _ K4 A4 hsepN⟩
    · dsimp only; omega
  · have hjn : j = qs.length := by omega
    subst hjn
    rw [List.take_length] at m3
    refine runJ ?_
    exact fin2 rfl rfl rfl ⟨e1.trans e3, g, vq, vt, rfl, G3, o1.sl.ext e3, ⟨h1.size, b2, hgl⟩, fun k hk => (o1.blk k hk).1⟩

set_option maxHeartbeats 1000000 in
theorem levelQ_spec (g vr vq vt : Value) (n : Nat) (qs : List Nat) (rows : List (Value × List Nat)) (h : Hp) (hn : 2 ≤ n ∧ n ≤ 512) (h24 : qs.length ≤ 24) (G : Var h g 126 [N n, vq, vt]) (rq : SlF h U vq qs) (S : PolAt h vr rows) (pn : 0 < rows.length) (pl : rows.length ≤ qs.length) (pf : ∀ (i q : Nat) (x : Value × List Nat), rows[i]? = some x → qs[i]? = some q → Fit n q x.2) :
    CallsH Tryd.prog 42 [g, .agg #[vr]] h fun v' h' => v' = .tuple #[N (rows.length - 1), N 0] ∧ Ext h h' := by
  have sr := S.row
  have se := S.el
  obtain ⟨gb, hgp, hgc⟩ := G
  subst hgp
  have G : Var h (.pointer (some ⟨gb, 0, none⟩)) 126 [N n, vq, vt] := ⟨gb, rfl, hgc⟩
  clear hgc
  (apply enter Tryd.func42 rfl Tryd.ntmps42 rfl)
  refine runJ ?_
  (apply s_box; exact rfl; exact rfl; exact rfl; exact rfl)
  intro p2 h1 x1 e1 b1
  (try dsimp only [Value.cells, List.toList_toArray] at x1)
  refine ⟨(by first | exact trivial | exact Ext.refl _ | assumption | exact Ext.trans (by assumption) (by assumption)), ?_⟩
  refine runJ ?_
  (apply s_box; exact rfl; exact rfl; exact rfl; exact rfl)
  intro p3 h2 x3 e2 b2
  (try dsimp only [Value.cells, List.toList_toArray] at x3)
  refine ⟨(by first | exact trivial | exact Ext.refl _ | assumption | exact Ext.trans (by assumption) (by assumption)), ?_⟩
  have x1 : Var h1 p2 92 [.pointer (some ⟨gb, 0, none⟩)] := x1
  have x2 := x1.ext e2
  have e12 := e1.trans e2
  have G2 := G.ext e12
  generalize Value.pointer (some ⟨gb, 0, none⟩) = g at *
  have q2 := rq.ext e12
  have r2 := sr.ext e12
  refine runJ ?_
  rw [decide_eq_false (show ¬ rows.length < 1 by omega)]
  refine runJ ?_
  rw [decide_eq_false (show ¬ qs.length < rows.length by omega)]
  refine runJ ?_
  (first | (apply w_seqB; exact rfl; apply w_block; exact rfl) | skip)
  apply (w_loop (σ := Nat) rfl (fun j => [(2, p2), (3, p3), (26, vr), (27, N rows.length), (28, N j)])
    (fun j h' => Ext h h' ∧ Ext h2 h' ∧ j ≤ rows.length) (fun j => rows.length - j) 0)
  · exact (Sub.cons rfl (Sub.cons rfl (Sub.cons rfl (Sub.cons rfl (Sub.cons rfl (Sub.nil _))))))
  · exact ⟨e12, Ext.refl _, Nat.zero_le _⟩
  rintro j h3 ⟨e03, e3, j1⟩
  have G3 := G2.ext e3
  have x23 := x2.ext e3
  have x33 := x3.ext e3
  have q3 := q2.ext e3
  have r3 := r2.ext e3
  refine runJ ?_
  (apply w_condD; exact rfl; exact rfl) <;> intro hj
  · obtain ⟨x, hxj⟩ := get_lt hj
    obtain ⟨q, hqj⟩ := get_lt (l := qs) (j := j) (by omega)
    have fx := pf j q x hxj hqj
    have hm := List.mem_of_getElem? hxj
    have sx := (se x hm).ext e03
    obtain ⟨vx, ws⟩ := x
    dsimp only at sx fx ⊢
    have hwl := fx.1
    refine runJ ?_
    (apply s_alloc; exact rfl; exact rfl; exact rfl)
    intro p6 h5 x5 e5 b5
    (try dsimp only [Value.cells, List.toList_toArray] at x5)
    refine ⟨(by first | exact trivial | exact Ext.refl _ | assumption | exact Ext.trans (by assumption) (by assumption)), ?_⟩
    refine runJ ?_
    (apply s_storeV; exact rfl; exact rfl; exact rfl; (repeat (first | exact OneAll.nil | (apply OneAll.cons; (first | exact rfl | exact SlF.one (by assumption) | exact SlF.one (OwnF.sl (by assumption)) | exact Var.one (by assumption))))); exact rfl; exact rfl; exact x5; exact rfl)
    intro h6 x6 k6
    (try dsimp only [Value.cells, List.toList_toArray] at x6)
    refine ⟨(by first | exact trivial | exact Ext.refl _ | assumption | exact Ext.only (by assumption) _ | exact Only.trans (Ext.only (by assumption) _) (by assumption)), ?_⟩
    have x6 : Var h6 p6 3 [N j] := x6
    have e36 : Ext h3 h6 := k6.oldV e5 b5 (Nat.le_refl _)
    have G6 := G3.ext e36
    have x26 := x23.ext e36
    have q6 := q3.ext e36
    have s6 := sx.ext e36
    have hv1 := s6.one
    refine runJ ?_
    rw [decide_eq_false (show ¬ ws.length ≠ n by omega)]
    refine runJ ?_
    apply (s_call Tryd_ent67 rfl rfl rfl)
    refine (containsFunc_spec vx p2 p6 g vq vt ws q j n qs h6 s6 x26 x6 G6 q6 hqj fx.2 (by omega)).mono ?_
    rintro _ _ ⟨rfl, rfl⟩
    refine ⟨(by first | exact trivial | exact trivial), ?_⟩
    refine runJ ?_
    apply again_normal (j + 1)
    · exact (Sub.cons rfl (Sub.cons rfl (Sub.cons rfl (Sub.cons rfl (Sub.cons rfl (Sub.nil _))))))
    · exact ⟨e03.trans e36, e3.trans e36, hj⟩
    · omega
  · refine runJ ?_
    exact fin2 rfl rfl rfl ⟨rfl, e03⟩
end Go.Proofs.YtfcmdefigldpnaaDoor

/- Package pack: begin; a ciphertext and a secret are written. Condition: the table of math/bits reads as it is laid. -/
namespace Go.Proofs.YtfcmdefigldpnaaDoor
set_option linter.unusedVariables false
set_option maxRecDepth 8000
open Go Go.Den Go.RowKit Go.Dig

theorem Grw.ofExt {h h' : Hp} (k : Nat) (vb : Value) (e : Ext h h') : Grw h h' k vb vb := ⟨⟨e.1, fun i hi _ _ => e.2 i hi⟩, .inl rfl⟩
/-- A ring apart from a writer. -/
structure Sepw (k : Nat) (vb g vq : Value) : Prop where mk ::
  g1 : pblk g ≠ some k
  g2 : pblk g ≠ vb.ownBlock
  q1 : vq.ownBlock = none ∨ vq.ownBlock ≠ some k
  q2 : vq.ownBlock = none ∨ vq.ownBlock ≠ vb.ownBlock

theorem Tryd_ent41 : Ent Tryd.prog 41 := ent_of Tryd.func41 (by kernel_rfl) rfl
set_option maxHeartbeats 1000000 in
theorem begin_spec (kind L : Nat) (p : ParD) (h : Hp) (T : TB h) (A : ParAt h p) (P : parP p) (hN : p.n = ((2 ^ L : Nat) : Int)) (hL1 : 1 ≤ L) (hL9 : L ≤ 9) (hQ : ∀ q ∈ p.q, QOk L q) (hk : kind < 256) :
    CallsH Tryd.prog 41 [Y kind, .agg p.cells.toArray] h fun v' h' => Ext h h' ∧ ∃ w k vb g vq vt, v' = .tuple #[w, g, N 0] ∧ h.size ≤ k ∧ WrAt h' w k vb (hdrB kind (2 ^ L) p.t p.w.toNat p.q) ∧ Var h' g 126 [N (2 ^ L), vq, vt] ∧ SlF h' U vq p.q ∧ Sepw k vb g vq := by
  have CK := fun h T A => check_spec p h T A
  rw [if_pos P] at CK
  obtain ⟨n, t, v0, q, w0⟩ := p
  unfold ParD.cells at CK ⊢
  dsimp only at hN hQ CK ⊢
  subst hN
  obtain ⟨ww, rfl⟩ : ∃ ww : Nat, w0 = (ww : Int) := ⟨w0.toNat, by have := P.1.2.1; dsimp only at this; omega⟩
  have hw16 : ww ≤ 16 := by have := P.1.2.2; dsimp only at this; omega
  have hq0 : 0 < q.length := P.2.2.1.2.2.1
  have hq8 : q.length ≤ 8 := P.2.2.1.2.2.2
  have hnd : q.Nodup := P.2.2.1.2.1
  have ht : t < 1073741824 := P.2.1.1
  have hq64 : ∀ x ∈ q, x < 18446744073709551616 := A.al
  have hp9 : 2 ^ L ≤ 2 ^ 9 := Nat.pow_le_pow_right (by decide) hL9
  have e9 : (2 : Nat) ^ 9 = 512 := by decide
  rw [Int.toNat_natCast]
  (apply enter Tryd.func41 rfl Tryd.ntmps41 rfl)
  refine runJ ?_
  (apply s_box; exact rfl; exact rfl; exact rfl; exact rfl)
  intro p3 h1 x1 e1 b1
  (try dsimp only [Value.cells, List.toList_toArray] at x1)
  refine ⟨(by first | exact trivial | exact Ext.refl _ | assumption | exact Ext.trans (by assumption) (by assumption)), ?_⟩
  have A1 := A.ext e1
  refine runJ ?_
  apply (s_call Tryd_ent29 rfl rfl rfl)
  refine (CK h1 (T.ext e1) A1).mono ?_
  rintro _ h2 ⟨rfl, e2⟩
  refine ⟨(by first | exact trivial | exact trivial), ?_⟩
  have x2 := x1.ext e2
  refine runJ ?_
  (apply (s_build ([.slice none 0 0])); exact rfl; exact rfl; exact rfl; (repeat (first | exact CellsAll.nil | (apply CellsAll.cons; (first | exact oneL (by assumption) | exact oneL (SlF.one (by assumption)) | exact oneL (SlF.one (OwnF.sl (by assumption))) | exact oneL (Var.one (by assumption)) | exact rfl)))); exact rfl; exact rfl)
  refine runJ ?_
  (apply s_box; exact rfl; exact rfl; exact rfl; exact rfl)
  intro w h3 x3 e3 b3
  (try dsimp only [Value.cells, List.toList_toArray] at x3)
  refine ⟨(by first | exact trivial | exact Ext.refl _ | assumption | exact Ext.trans (by assumption) (by assumption)), ?_⟩
  have x3 : Var h3 w 96 [.slice none 0 0] := x3
  have E3 := (e1.trans e2).trans e3
  have s3 := A.row.ext E3
  have x23 := x2.ext e3
  have hlo : ∀ j, v0.ownBlock = some j → j < h2.size := fun j hj => Nat.lt_of_lt_of_le (A.row.lt hq0 j hj) (e1.trans e2).1
  have W3 : WrAt h3 w h2.size (.slice none 0 0) [] := ⟨b3, x3, OwnF.nil _ _ _ _⟩
  refine runJ ?_
  apply (s_call Tryd_ent65 rfl rfl rfl)
  refine (wstart_spec w (.slice none 0 0) v0 h2.size kind (2 ^ L) t ww [] q h3 W3 s3 hlo hq64 (by omega) (by omega) (by omega) (by simp only [List.length_nil]; omega) hk).mono ?_
  rintro _ h4 ⟨vb, W4, G4⟩
  refine ⟨(by first | exact trivial | exact trivial), ?_⟩
  have hs01 : h.size < h1.size := by obtain ⟨j, hj, hl⟩ := x1.blk; rw [b1] at hj; cases hj; exact hl
  have h12 := e2.1
  have E4 : Ext h h4 := G4.ext E3 (by omega) (fun j hj => by cases hj)
  have s4 : SlF h4 U v0 q := sl_grw s3 W3 G4 hlo
  have x4 := var_two x23 G4.1 W3.lt (by rw [b1]; intro e; have := Option.some.inj e; omega) (by rw [b1]; intro e; cases e)
  refine runJ ?_
  apply (s_call Tryd_ent66 rfl rfl rfl)
  refine (ringNewQ_spec L v0 q h4 (T.ext E4) s4 hL1 hL9 hQ hnd hq0 (by omega)).mono ?_
  rintro _ h5 ⟨e5, g, vq, vt, rfl, G5, q5, ⟨kg, hkg, hgl⟩, hql⟩
  refine ⟨(by first | exact trivial | exact trivial), ?_⟩
  have W5 := W4.ext e5
  have hk4 := W4.lt
  have hvb4 := fun j hj => (W4.own.blk j hj).2
  rw [List.nil_append] at W5
  refine runJ ?_
  refine fin3 rfl rfl rfl rfl ⟨E4.trans e5, w, h2.size, vb, g, vq, vt, rfl, by omega, W5, G5, q5, ⟨?_, ?_, ?_, ?_⟩⟩
  · rw [hkg]; intro e; have := Option.some.inj e; omega
  · rw [hkg]; intro e; have := hvb4 kg e.symm; omega
  · cases hv : vq.ownBlock with
    | none => exact .inl rfl
    | some j => exact .inr fun e => by have := Option.some.inj e; have := hql _ hv; omega
  · cases hv : vq.ownBlock with
    | none => exact .inl rfl
    | some j => exact .inr fun e => by have := hql _ hv; have := hvb4 j e.symm; omega
end Go.Proofs.YtfcmdefigldpnaaDoor

/- Package pack: a ciphertext is written. Condition: the table of math/bits reads as it is laid. -/
namespace Go.Proofs.YtfcmdefigldpnaaDoor
set_option linter.unusedVariables false
set_option maxRecDepth 8000
open Go Go.Den Go.RowKit Go.Dig

theorem sla_two {α : Type} {f : α → List Value} {s : Nat} {h h' : Hp} {v : Value} {xs : List α} {j : Nat} {r2 : Option Nat} (a : SlA h f s v xs) (k : Two (some j) r2 h h') (hj : j < h.size) (n1 : v.ownBlock = none ∨ v.ownBlock ≠ some j) (n2 : v.ownBlock = none ∨ v.ownBlock ≠ r2) : SlA h' f s v xs := by
  obtain ⟨hm, k1, k2⟩ := k.split hj
  exact (a.only k1 n1).only k2 n2
theorem low_ne {h : Hp} {w v vb : Value} {k : Nat} {bs : List Nat} (W : WrAt h w k vb bs) (lo : ∀ j, v.ownBlock = some j → j < k) : (v.ownBlock = none ∨ v.ownBlock ≠ some k) ∧ (v.ownBlock = none ∨ v.ownBlock ≠ vb.ownBlock) := by
  cases hv : v.ownBlock with
  | none => exact ⟨.inl rfl, .inl rfl⟩
  | some j =>
    have h1 := lo j hv
    exact ⟨.inr fun e => by have := Option.some.inj e; omega, .inr fun e => by have := W.up j e.symm; omega⟩
theorem low_var {h h' : Hp} {w vb vb' : Value} {k b : Nat} {bs : List Nat} {p : Value} {e : TypeId} {cs : List Value} (x : Var h p e cs) (W : WrAt h w k vb bs) (G : Grw h h' k vb vb') (hp : pblk p = some b) (hb : b < k) : Var h' p e cs ∧ pblk p ≠ vb.ownBlock := by
  have n2 : pblk p ≠ vb.ownBlock := by rw [hp]; intro e; have := W.up b e.symm; omega
  exact ⟨var_two x G.1 W.lt (by rw [hp]; intro e; have := Option.some.inj e; omega) n2, n2⟩
theorem sla_grw {α : Type} {f : α → List Value} {s : Nat} {h h' : Hp} {w v vb vb' : Value} {k : Nat} {bs : List Nat} {xs : List α} (a : SlA h f s v xs) (W : WrAt h w k vb bs) (g : Grw h h' k vb vb') (lo : ∀ j, v.ownBlock = some j → j < k) : SlA h' f s v xs :=
  sla_two a g.1 W.lt (low_ne W lo).1 (low_ne W lo).2
theorem pol_grw {h h' : Hp} {w v vb vb' : Value} {k : Nat} {bs : List Nat} {rows : List (Value × List Nat)} (S : PolAt h v rows) (W : WrAt h w k vb bs) (g : Grw h h' k vb vb') (lo : ∀ j, v.ownBlock = some j → j < k) (lor : ∀ x ∈ rows, ∀ j, x.1.ownBlock = some j → j < k) : PolAt h' v rows :=
  ⟨sl_grw S.row W g lo, fun x hx => sl_grw (S.el x hx) W g (lor x hx)⟩
theorem sla_slf {h : Hp} {v : Value} {α : Type} {xs : List (Value × α)} (a : SlA h (fun x : Value × α => [x.1]) 1 v xs) : SlF h Prod.fst v xs := by
  have e : ∀ ys : List (Value × α), ys.flatMap (fun x : Value × α => [x.1]) = ys.map Prod.fst := fun ys => by
    induction ys with
    | nil => rfl
    | cons x ys ih => rw [List.flatMap_cons, ih]; rfl
  have := a.2
  rw [e] at this
  exact this
theorem pblk_ptrAt {v : Value} {o : Option Nat} (h : v.ownBlock = none ∨ v.ownBlock ≠ o) (ho : o ≠ none ∨ v.ownBlock ≠ none) (m : Nat) : pblk (ptrAt v m) ≠ o := by
  cases v with
  | slice a n c =>
    cases a with
    | none =>
      intro e
      rcases ho with ho | ho
      · exact ho e.symm
      · exact ho rfl
    | some a =>
      obtain ⟨b, o', z⟩ := a
      rcases h with h | h
      · cases h
      · intro e
        apply h
        simp only [pblk, ptrAt, Addr.add] at e
        split at e <;> exact e
  | _ =>
    intro e
    rcases ho with ho | ho
    · exact ho e.symm
    · exact ho rfl
theorem SlF.own {α : Type} {f : α → Value} {h : Hp} {v : Value} {xs : List α} (s : SlF h f v xs) (hne : 0 < xs.length) : v.ownBlock ≠ none := by
  rcases s with ⟨-, h0, -⟩ | ⟨b, o, c, rfl, -, hc⟩
  · omega
  · intro e; cases e
def polsB (ps : List (Value × List (Value × List Nat))) : List Nat := ps.flatMap fun x => polyB (x.2.map (·.2))
theorem polsB_snoc (x : Value × List (Value × List Nat)) (ps : List (Value × List (Value × List Nat))) : polsB (ps ++ [x]) = polsB ps ++ polyB (x.2.map (·.2)) := by unfold polsB; rw [List.flatMap_append]; simp
theorem polyB_len {n : Nat} : ∀ (rows : List (List Nat)), (∀ l ∈ rows, l.length = n) → (polyB rows).length = 8 * n * rows.length
  | [], _ => rfl
  | l :: rows, h => by
    rw [polyB_cons, List.length_append, wordsB_len, polyB_len rows fun x hx => h x (by simp [hx]), h l (by simp), List.length_cons, Nat.mul_succ]
    omega
theorem polsB_len {n m : Nat} : ∀ (ps : List (Value × List (Value × List Nat))), (∀ x ∈ ps, x.2.length = m ∧ ∀ r ∈ x.2, r.2.length = n) → (polsB ps).length = 8 * n * m * ps.length
  | [], _ => rfl
  | x :: ps, h => by
    have h1 := h x (by simp)
    show (polyB (x.2.map (·.2)) ++ polsB ps).length = _
    rw [List.length_append, polsB_len ps fun y hy => h y (by simp [hy]), polyB_len (n := n) _ (by intro l hl; obtain ⟨r, hr, rfl⟩ := List.mem_map.1 hl; exact h1.2 r hr), List.length_map, h1.1, List.length_cons, Nat.mul_succ]
    omega

theorem Tryd_ent24 : Ent Tryd.prog 24 := ent_of Tryd.func24 (by kernel_rfl) rfl
set_option maxHeartbeats 4000000 in
theorem cipher_spec (L : Nat) (p : ParD) (vc : Value) (ps : List (Value × List (Value × List Nat))) (h : Hp) (T : TB h) (A : ParAt h p) (P : parP p) (hN : p.n = ((2 ^ L : Nat) : Int)) (hL1 : 1 ≤ L) (hL9 : L ≤ 9) (hQ : ∀ q ∈ p.q, QOk L q)
    (hc : SlA h (fun x : Value × List (Value × List Nat) => [x.1]) 1 vc ps) (hlen : ps.length = 2) (Pa : ∀ x ∈ ps, PolAt h x.1 x.2 ∧ x.2.length = p.q.length ∧ ∀ (i q : Nat) (y : Value × List Nat), x.2[i]? = some y → p.q[i]? = some q → Fit (2 ^ L) q y.2) :
    CallsH Tryd.prog 24 [.agg p.cells.toArray, .agg #[vc]] h fun v' h' => Ext h h' ∧ ∃ vb, v' = .tuple #[vb, N 0] ∧ OwnF h' h.size 5 Y vb (hdrB 2 (2 ^ L) p.t p.w.toNat p.q ++ [2, (p.q.length - 1) % 256] ++ polsB ps) := by
  have BG := fun h T A => begin_spec 2 L p h T A P hN hL1 hL9 hQ (by decide)
  have hq0 : 0 < p.q.length := P.2.2.1.2.2.1
  have hq8 : p.q.length ≤ 8 := P.2.2.1.2.2.2
  have hp9 : 2 ^ L ≤ 2 ^ 9 := Nat.pow_le_pow_right (by decide) hL9
  have hp1 : 2 ^ 1 ≤ 2 ^ L := Nat.pow_le_pow_right (by decide) hL1
  have e9 : (2 : Nat) ^ 9 = 512 := by decide
  have e1' : (2 : Nat) ^ 1 = 2 := by decide
  obtain ⟨x0, hx0⟩ := get_lt (l := ps) (j := 0) (by omega)
  have hx0m := List.mem_of_getElem? hx0
  have hx0l := (Pa x0 hx0m).2.1
  unfold ParD.cells at BG ⊢
  (apply enter Tryd.func24 rfl Tryd.ntmps24 rfl)
  refine runJ ?_
  (apply s_box; exact rfl; exact rfl; exact rfl; exact rfl)
  intro p2 h1 x1 e1 b1
  (try dsimp only [Value.cells, List.toList_toArray] at x1)
  refine ⟨(by first | exact trivial | exact Ext.refl _ | assumption | exact Ext.trans (by assumption) (by assumption)), ?_⟩
  have x1 : Var h1 p2 25 [I p.n, U p.t, p.vq, I p.w] := x1
  refine runJ ?_
  (apply s_box; exact rfl; exact rfl; exact rfl; exact rfl)
  intro p3 h2 x2 e2 b2
  (try dsimp only [Value.cells, List.toList_toArray] at x2)
  refine ⟨(by first | exact trivial | exact Ext.refl _ | assumption | exact Ext.trans (by assumption) (by assumption)), ?_⟩
  have x2 : Var h2 p3 65 [vc] := x2
  have x12 := x1.ext e2
  have E2 := e1.trans e2
  refine runJ ?_
  apply (s_call Tryd_ent41 rfl rfl rfl)
  refine (BG h2 (T.ext E2) (A.ext E2)).mono ?_
  rintro _ h3 ⟨e3, w, k, vb, g, vq, vt, rfl, hk2, W3, G3, q3, S3⟩
  refine ⟨(by first | exact trivial | exact trivial), ?_⟩
  have E3 := E2.trans e3
  have x23 := x2.ext e3
  have c3 := hc.ext E3
  have hs12 : h1.size < h2.size := by obtain ⟨j, hj, hl⟩ := x2.blk; rw [b2] at hj; cases hj; exact hl
  refine runJ ?_
  rw [decide_eq_false (show ¬ ps.length < 2 by omega)]
  refine runJ ?_
  rw [decide_eq_false (show ¬ 3 < ps.length by omega)]
  refine runJN ?_
  have nw3 := wr_ne W3
  have w3 := W3.var
  have nb3 : pblk p3 ≠ vb.ownBlock := by rw [b2]; intro e; have := W3.up _ e.symm; omega
  have lov : ∀ j, vc.ownBlock = some j → j < k := fun j hj => by
    have := (sla_slf hc).lt (by omega) j hj
    have := E2.1
    omega
  have nbc := (low_ne W3 lov).2
  (apply (r_drawnT 21 (Only vb.ownBlock h3)); exact rfl; exact mixed; kernel_rfl; exact rfl; first | exact Ext.refl _ | exact Only.refl _ _)
  refine runJ ?_
  have nbp := pblk_ptrAt nbc (.inr (SlF.own (sla_slf hc) (by omega)))
  have nbp0 : pblk (ptrAt vc (0 * 1)) ≠ vb.ownBlock := nbp _
  have cc3 : Cells h3 (ptrAt vc (0 * 1)) [x0.1] := c3.cells hx0
  have sx0 := (Pa x0 hx0m).1.row
  apply s_convY (isK_t rfl) rfl rfl rfl
  refine runJ ?_
  apply s_convY (isK_t rfl) rfl rfl rfl
  refine runJ ?_
  rw [hlen, hx0l]
  have hB0 := hdrB_len 2 (2 ^ L) p.t p.w.toNat p.q
  generalize hbs0 : hdrB 2 (2 ^ L) p.t p.w.toNat p.q = B0 at *
  generalize hy2 : (p.q.length - 1) % 256 = y2
  (apply (s_litF (f := Y) [2, y2] (fun _ => rfl)); exact rfl; exact rfl; exact rfl; exact rfl; exact rfl; exact rfl; exact rfl; exact rfl; omega)
  intro v7 h7 o7 e7 b7
  refine ⟨(by first | exact e7.only _ | exact trivial | exact Ext.refl _ | assumption | exact Ext.trans (by assumption) (by assumption)), ?_⟩
  have o67 := W3.own.ext e7
  have hk7 : k + 1 ≤ h7.size := Nat.le_trans W3.lt e7.1
  have hl2 : [2, y2].length = 2 := rfl
  refine runJ ?_
  (apply (s_appendF (bytes := 1)); exact rfl; exact rfl; exact rfl; exact rfl; exact rfl; exact rfl; exact rfl; exact o67; exact o7.sl; exact fun _ => rfl; (first | exact Nat.le_refl _ | exact ext_size (by assumption) | omega); ((try simp only [maxLen]); (try simp only [List.length_nil]); (try simp only [List.length_append]); omega); ((try simp only [List.length_nil]); (try simp only [List.length_append]); omega))
  intro v8 h8 o8 k8 b8
  refine ⟨(by first | exact (e7.only _).trans k8 | exact trivial | exact Ext.refl _ | assumption | exact Ext.trans (by assumption) (by assumption)), ?_⟩
  have k68 : Only vb.ownBlock h3 h8 := (e7.only _).trans k8
  have y8 := w3.only k68 nw3
  have o8one := o8.sl.one
  refine runJ ?_
  apply tail_end
  refine runJ ?_
  (apply s_storeC; exact rfl; exact rfl; (first | exact rfl | exact SlF.one (by assumption) | exact SlF.one (OwnF.sl (by assumption)) | exact Var.one (by assumption)); exact rfl; exact rfl; exact y8; exact rfl)
  intro h9 x9 k9
  refine ⟨(by first | exact trivial | exact Ext.refl _ | assumption | exact Ext.only (by assumption) _ | exact Only.trans (Ext.only (by assumption) _) (by assumption)), ?_⟩
  obtain ⟨W9, G9⟩ := wr_step W3 k68 o8 (b8.imp id fun ⟨j, hj, hl⟩ => ⟨j, hj, Nat.le_trans e7.1 hl⟩) x9 k9
  have hb3k : h1.size < k := by omega
  have x39 := (low_var x23 W3 G9 b2 hb3k).1
  have c9 := sla_grw c3 W3 G9 lov
  have hpr : ∀ x ∈ ps, (∀ j, x.1.ownBlock = some j → j < k) ∧ (∀ y ∈ x.2, ∀ j, y.1.ownBlock = some j → j < k) ∧ (∀ y ∈ x.2, y.2.length = 2 ^ L ∧ ∀ a ∈ y.2, a < 18446744073709551616) := fun x hx => by
    obtain ⟨p1, p2', p3'⟩ := Pa x hx
    have hsz := E2.1
    refine ⟨fun j hj => ?_, fun y hy j hj => ?_, fun y hy => ?_⟩
    · have := p1.row.lt (by omega) j hj
      omega
    rotate_left
    · obtain ⟨i, hi, hiy⟩ := List.mem_iff_getElem.1 hy
      have hiy' : x.2[i]? = some y := by rw [List.getElem?_eq_getElem hi, hiy]
      obtain ⟨q, hq⟩ := get_lt (l := p.q) (j := i) (by omega)
      have hF := p3' i q y hiy' hq
      have hq6 := (hQ q (List.mem_of_getElem? hq)).q61
      exact ⟨hF.1, fun a ha => by have := hF.2 a ha; omega⟩
    · obtain ⟨i, hi, hiy⟩ := List.mem_iff_getElem.1 hy
      have hiy' : x.2[i]? = some y := by rw [List.getElem?_eq_getElem hi, hiy]
      obtain ⟨q, hq⟩ := get_lt (l := p.q) (j := i) (by omega)
      have := (p3' i q y hiy' hq).1
      have := (p1.el y hy).lt (by omega) j hj
      omega
  refine runJ ?_
  (first | (apply w_seqB; exact rfl; apply w_block; exact rfl) | skip)
  apply (w_loop (σ := Nat × Value) rfl (fun j => [(3, p3), (6, w), (7, g), (56, vc), (57, N ps.length), (58, N j.1)])
    (fun j h' => j.1 ≤ ps.length ∧ WrAt h' w k j.2 (B0 ++ [2, y2] ++ polsB (ps.take j.1)) ∧ Grw h9 h' k v8 j.2) (fun j => ps.length - j.1) (0, v8))
  · exact (Sub.cons rfl (Sub.cons rfl (Sub.cons rfl (Sub.cons rfl (Sub.cons rfl (Sub.cons rfl (Sub.nil _)))))))
  · refine ⟨Nat.zero_le _, ?_, Grw.refl _ _ _⟩
    dsimp only
    rw [List.take_zero]
    show WrAt h9 w k v8 (_ ++ [])
    rw [List.append_nil]; exact W9
  rintro ⟨j, v1⟩ h11 ⟨j1, W11, G11⟩
  dsimp only at j1 W11 G11 ⊢
  have GG := G9.trans G11
  have x311 := (low_var x23 W3 GG b2 hb3k).1
  have c11 := sla_grw c3 W3 GG lov
  have g11 := var_two G3 GG.1 W3.lt S3.g1 S3.g2
  have q11 := sl_two q3 GG.1 W3.lt S3.q1 S3.q2
  refine runJ ?_
  (apply w_condD; exact rfl; exact rfl) <;> intro hj
  · obtain ⟨x, hxj⟩ := get_lt hj
    have hm := List.mem_of_getElem? hxj
    obtain ⟨px1, px2, px3⟩ := Pa x hm
    have S11 := pol_grw ⟨px1.row.ext E3, fun y hy => (px1.el y hy).ext E3⟩ W3 GG (hpr x hm).1 (hpr x hm).2.1
    have cc := c11.cells hxj
    refine runJ ?_
    (apply s_alloc; exact rfl; exact rfl; exact rfl)
    intro p10 h12 x12 e12 b12
    (try dsimp only [Value.cells, List.toList_toArray] at x12)
    refine ⟨(by first | exact trivial | exact Ext.refl _ | assumption | exact Ext.trans (by assumption) (by assumption)), ?_⟩
    have cc12 := cc.ext e12
    refine runJ ?_
    (apply s_storeV; exact rfl; exact rfl; exact rfl; exact (OneAll.cons px1.row.one OneAll.nil : OneAll [x.1]); exact rfl; exact rfl; exact x12; exact rfl)
    intro h13 x13 k13
    refine ⟨trivial, ?_⟩
    have x13 : Var h13 p10 37 [x.1] := x13
    have e13 : Ext h11 h13 := k13.oldV e12 b12 (Nat.le_refl _)
    have g13 := g11.ext e13
    have x313 := x311.ext e13
    have S13 := S11.ext e13
    have q13 := q11.ext e13
    have hl2x : 2 ≤ 2 ^ L ∧ 2 ^ L ≤ 512 := by omega
    refine runJ ?_
    apply (s_call Tryd_ent42 rfl rfl rfl)
    refine (levelQ_spec g x.1 vq vt (2 ^ L) p.q x.2 h13 hl2x (by omega) g13 q13 S13 (by omega) (by omega) px3).mono ?_
    rintro _ h14 ⟨rfl, e14⟩
    refine ⟨(by first | exact trivial | exact trivial), ?_⟩
    have c14 := (c11.ext e13).ext e14
    have cc0 : Cells h14 (ptrAt vc (0 * 1)) [x0.1] := c14.cells hx0
    have x314 := x313.ext e14
    have x14 := x13.ext e14
    refine runJ ?_
    (apply w_condF; exact rfl; exact rfl; exact (by omega))
    have W14 := (W11.ext e13).ext e14
    have hC : 8 * 2 ^ L * p.q.length ≤ 8 * 512 * 8 := Nat.mul_le_mul (Nat.mul_le_mul (Nat.le_refl _) (by omega)) hq8
    have hlp := polsB_len (n := 2 ^ L) (m := p.q.length) (ps.take (j + 1)) fun y hy => ⟨(Pa y (List.mem_of_mem_take hy)).2.1, fun r hr => ((hpr y (List.mem_of_mem_take hy)).2.2 r hr).1⟩
    have htl : (ps.take (j + 1)).length = j + 1 := by rw [List.length_take]; omega
    have hj2 : j + 1 ≤ 2 := by omega
    have hCm := Nat.mul_le_mul hC hj2
    rw [htl] at hlp
    rw [← hlp, take_snoc hxj, polsB_snoc, List.length_append] at hCm
    have hbb : (B0 ++ [2, y2] ++ polsB (ps.take j)).length + (polyB (x.2.map (·.2))).length ≤ 1000000 := by
      simp only [List.length_append, hl2]
      omega
    have S14 := S13.ext e14
    refine runJ ?_
    apply (s_call Tryd_ent43 rfl rfl rfl)
    refine (wpoly_spec w v1 x.1 k _ x.2 h14 W14 S14 (hpr x hm).1 (hpr x hm).2.1 (fun y hy => ((hpr x hm).2.2 y hy).2) (by omega) hbb).mono ?_
    rintro _ h15 ⟨v2, W15, G15⟩
    refine ⟨(by first | exact trivial | exact trivial), ?_⟩
    rw [List.append_assoc, ← polsB_snoc, ← take_snoc hxj] at W15
    refine runJ ?_
    apply again_normal (j + 1, v2)
    · exact (Sub.cons rfl (Sub.cons rfl (Sub.cons rfl (Sub.cons rfl (Sub.cons rfl (Sub.cons rfl (Sub.nil _)))))))
    · exact ⟨hj, W15, G11.trans ((Grw.ofExt k v1 (e13.trans e14)).trans G15)⟩
    · dsimp only; omega
  · obtain rfl : j = ps.length := by omega
    rw [List.take_length] at W11
    have w11 := W11.var
    refine runJ ?_
    exact fin2 rfl rfl rfl ⟨GG.ext E3 (by have := E2.1; omega) W3.up, v1, rfl, W11.own.base (by have := E2.1; omega)⟩
end Go.Proofs.YtfcmdefigldpnaaDoor
