/- Texts RtpB to TpeB of this work, joined, without what the law does not lean on. -/
import Derived.Test.YtfcmdefigldpnaaGreatDoorMKa18
namespace Go.Proofs.YtfcmdefigldpnaaGreatDoor
set_option linter.unusedVariables false
set_option maxRecDepth 8000
open Go Go.Den Go.RowKit Go.Dig

/-- Rows of words, one for each prime, and what is left. -/
def uniG (n : Nat) : List Nat → List Nat → Option (List (List Nat) × List Nat)
  | [], ds => some ([], ds)
  | q :: qs, ds => match rowG (firstB q) n ds with
    | none => none
    | some (l, ds1) => match uniG n qs ds1 with
      | none => none
      | some (ls, ds2) => some (l :: ls, ds2)
theorem uniG_step {n q : Nat} {qs ds' ds1 : List Nat} {Z : Option (List (List Nat) × List Nat)} {ls : List (List Nat)} {l : List Nat} (h : Z = preG ls (uniG n (q :: qs) ds')) (hf : rowG (firstB q) n ds' = some (l, ds1)) :
    Z = preG (ls ++ [l]) (uniG n qs ds1) := by
  rw [h]
  simp only [uniG, hf]
  cases uniG n qs ds1 with
  | none => rfl
  | some q => simp [preG]
theorem uniG_fail {n q : Nat} {qs ds' : List Nat} {Z : Option (List (List Nat) × List Nat)} {ls : List (List Nat)} (h : Z = preG ls (uniG n (q :: qs) ds')) (hf : rowG (firstB q) n ds' = none) : Z = none := by
  rw [h]
  simp only [uniG, hf, preG]
theorem uniG_zero {n : Nat} {ds' : List Nat} {Z : Option (List (List Nat) × List Nat)} {ls : List (List Nat)} (h : Z = preG ls (uniG n [] ds')) : Z = some (ls, ds') := by
  rw [h]
  simp [uniG, preG]
theorem firstB_lt {q : Nat} (hq : 0 < q) : ∀ (ds : List Nat) (r : Nat) (ds' : List Nat), firstB q ds = some (r, ds') → r < q
  | [], r, ds', h => by cases h
  | d :: ds, r, ds', h => by
    unfold firstB at h
    split at h
    · cases h; exact Nat.mod_lt _ hq
    · exact firstB_lt hq ds r ds' h
theorem rowG_all {α : Type} {f : List Nat → Option (α × List Nat)} {p : α → Prop} (hf : ∀ ds r ds', f ds = some (r, ds') → p r) : ∀ (n : Nat) (ds : List Nat) (rs : List α) (ds' : List Nat), rowG f n ds = some (rs, ds') → rs.length = n ∧ ∀ r ∈ rs, p r
  | 0, ds, rs, ds', h => by simp only [rowG, Option.some.injEq, Prod.mk.injEq] at h; obtain ⟨rfl, -⟩ := h; exact ⟨rfl, fun r hr => by cases hr⟩
  | n + 1, ds, rs, ds', h => by
    simp only [rowG] at h
    cases h1 : f ds with
    | none => rw [h1] at h; cases h
    | some q =>
      obtain ⟨r, ds1⟩ := q
      rw [h1] at h
      dsimp only at h
      cases h2 : rowG f n ds1 with
      | none => rw [h2] at h; cases h
      | some q2 =>
        obtain ⟨rs2, ds2⟩ := q2
        rw [h2] at h
        simp only [Option.some.injEq, Prod.mk.injEq] at h
        obtain ⟨rfl, rfl⟩ := h
        obtain ⟨a1, a2⟩ := rowG_all hf n ds1 rs2 ds2 h2
        refine ⟨by simp [a1], fun x hx => ?_⟩
        rcases List.mem_cons.1 hx with rfl | hx
        · exact hf _ _ _ h1
        · exact a2 x hx

def UniR (h h' : Hp) (t : Value) (B : Option Nat) (v' : Value) : Option (List (List Nat) × List Nat) → Prop
  | none => v' = .tuple #[.agg #[.slice none 0 0], N 11] ∧ ∃ ds, TapR h' t B ds true
  | some (ls, ds) => ∃ vr rows p, v' = .tuple #[.agg #[vr], N 0] ∧ RowsAt h' h.size p vr rows ∧ rows.map (·.2) = ls ∧ TapR h' t B ds false

theorem Tryz_ent142 : Ent Tryz.prog 142 := ent_of Tryz.func142 (by kernel_rfl) rfl
set_option maxHeartbeats 4000000 in
theorem uniformR_spec (t : Value) (B : Option Nat) (n : Nat) (vq : Value) (qs ds : List Nat) (o : Bool) (h : Hp) (s : TapR h t B ds o) (sq : SlF h U vq qs) (nq : vq.ownBlock = none ∨ vq.ownBlock ≠ pblk t) (hq : ∀ q ∈ qs, 0 < q ∧ q < 18446744073709551616) (hn : 1 ≤ n) (hn2 : n ≤ 4096) (hl : 1 ≤ qs.length) (hl2 : qs.length ≤ 24) :
    CallsH Tryz.prog 142 [t, N n, vq] h fun v' h' => Only (pblk t) h h' ∧ UniR h h' t B v' (if o then none else uniG n qs ds) := by
  obtain ⟨pk, hpk, hpl⟩ := s.pb
  have hBl := s.bl
  have hpk' : ∀ j, pblk t = some j → j < h.size := fun j hj => by rw [hpk] at hj; cases hj; exact hpl
  generalize hZ : (if o then none else uniG n qs ds) = Z
  (apply enter Tryz.func142 rfl Tryz.ntmps142 rfl)
  refine runJ ?_
  (apply s_alloc; exact rfl; exact rfl; exact rfl)
  intro p6 h3 x3 e3 b3
  (try dsimp only [Value.cells, List.toList_toArray] at x3)
  refine ⟨(by first | exact trivial | exact Ext.refl _ | assumption | exact Ext.trans (by assumption) (by assumption)), ?_⟩
  have w6 := x3
  have sq3 := sq.ext e3
  have s3 := s.ext e3
  have hb03 : h.size < h3.size := by obtain ⟨j, hj, hlj⟩ := w6.blk; rw [b3] at hj; cases hj; exact hlj
  refine runJ ?_
  (apply s_splitG; exact rfl; exact rfl; exact rfl; exact rfl) <;> intro g1
  · exact absurd g1 (by omega)
  refine runJ ?_
  (apply s_splitG; exact rfl; exact rfl; exact rfl; exact rfl) <;> intro g2
  · exact absurd g2 (by omega)
  refine runJ ?_
  (apply s_splitG; exact rfl; exact rfl; exact rfl; exact rfl) <;> intro g3
  · exact absurd g3 (by omega)
  refine runJ ?_
  (apply w_condF; exact rfl; exact rfl; exact (show ¬ 24 < qs.length by omega))
  refine runJ ?_
  (first | (apply w_seqB; exact rfl; apply w_block; exact rfl) | skip)
  apply (w_loop (σ := Nat) rfl (fun j => [(0, t), (1, N n), (2, vq), (6, p6), (34, vq), (35, N qs.length), (36, N j)])
    (fun j h' => h3 = h' ∧ j ≤ qs.length) (fun j => qs.length - j) 0)
  · exact (Sub.cons rfl (Sub.cons rfl (Sub.cons rfl (Sub.cons rfl (Sub.cons rfl (Sub.cons rfl (Sub.cons rfl (Sub.nil _))))))))
  · exact ⟨rfl, Nat.zero_le _⟩
  rintro j h' ⟨rfl, j1⟩
  refine runJ ?_
  (apply w_condD; exact rfl; exact rfl) <;> intro hj
  · obtain ⟨q, hqj⟩ := get_lt hj
    have hq0 := (hq q (List.mem_of_getElem? hqj)).1
    refine runJ ?_
    (apply w_condF; exact rfl; exact rfl; exact (show ¬ q = 0 by omega))
    refine runJ ?_
    apply again_normal (j + 1)
    · exact (Sub.cons rfl (Sub.cons rfl (Sub.cons rfl (Sub.cons rfl (Sub.cons rfl (Sub.cons rfl (Sub.cons rfl (Sub.nil _))))))))
    · exact ⟨rfl, hj⟩
    · omega
  clear j1 hj
  refine runJ ?_
  (apply s_alloc; exact rfl; exact rfl; exact rfl)
  intro p10 h4 x4 e4 b4
  (try dsimp only [Value.cells, List.toList_toArray] at x4)
  refine ⟨(by first | exact trivial | exact Ext.refl _ | assumption | exact Ext.trans (by assumption) (by assumption)), ?_⟩
  have hb34 : h3.size < h4.size := by obtain ⟨j, hj, hlj⟩ := x4.blk; rw [b4] at hj; cases hj; exact hlj
  have s4 := s3.ext e4
  refine runJ ?_
  (first | (apply w_seqB; exact rfl; apply w_block; exact rfl) | skip)
  apply (w_loop (σ := (Nat × Value) × List (Value × List Nat) × List Nat × Bool) rfl (fun j => [(0, t), (1, N n), (2, vq), (6, p6), (10, p10), (44, vq), (45, N qs.length), (46, N j.1.1)])
    (fun j h' => Only (pblk t) h3 h' ∧ h4.size ≤ h'.size ∧ j.1.1 ≤ qs.length ∧ Var h' p10 56 [j.1.2] ∧ RowsAt h' h3.size (some h3.size) j.1.2 j.2.1 ∧ j.2.1.length = j.1.1 ∧ TapR h' t B j.2.2.1 j.2.2.2 ∧ (j.2.2.2 = true → j.1.1 < qs.length) ∧
      Z = (if j.2.2.2 then none else preG (j.2.1.map (·.2)) (uniG n (qs.drop j.1.1) j.2.2.1))) (fun j => qs.length - j.1.1) ((0, .slice none 0 0), [], ds, o))
  · exact (Sub.cons rfl (Sub.cons rfl (Sub.cons rfl (Sub.cons rfl (Sub.cons rfl (Sub.cons rfl (Sub.cons rfl (Sub.cons rfl (Sub.nil _)))))))))
  · refine ⟨e4.only _, Nat.le_refl _, Nat.zero_le _, x4, RowsAt.nil _ _ _, rfl, s4, fun _ => hl, ?_⟩
    dsimp only
    rw [← hZ, List.drop_zero, List.map_nil, preG_nil]
  clear x4 s4 s3
  rintro ⟨⟨j, vR⟩, rows, ds', o'⟩ h7 ⟨d7, z7, j1, x7, R7, l7, t7, q7, Z7⟩
  dsimp only at d7 z7 j1 x7 R7 l7 t7 q7 Z7 ⊢
  have sq7 := sq3.only d7 nq
  have hpv : pblk p10 ≠ vR.ownBlock := by
    rw [b4]; intro e
    rcases R7.vp with h0 | h0
    · rw [h0] at e; cases e
    · exact h0 e.symm
  have hpt : pblk p10 ≠ pblk t := by rw [b4, hpk]; intro e; cases e; omega
  have hpt6 : pblk p6 ≠ pblk t := by rw [b3, hpk]; intro e; cases e; omega
  have w67 := w6.only d7 hpt6
  refine runJ ?_
  (apply w_condD; exact rfl; exact rfl) <;> intro hj
  · obtain ⟨q, hqj⟩ := get_lt hj
    obtain ⟨hq0, hq64⟩ := hq q (List.mem_of_getElem? hqj)
    have hdr : qs.drop j = q :: qs.drop (j + 1) := by
      rw [List.drop_eq_getElem_cons hj]
      rw [List.getElem?_eq_getElem hj] at hqj
      cases hqj; rfl
    rw [hdr] at Z7
    generalize hY : (if o' then none else rowG (firstB q) n ds') = Y
    refine runJ ?_
    (first | (apply w_seqB; exact rfl; apply w_block; exact rfl) | skip)
    apply (w_loop (σ := (Nat × Value) × List Nat × List Nat × Bool) rfl (fun m => [(0, t), (1, N n), (2, vq), (6, p6), (10, p10), (12, U q), (13, m.1.2), (14, N m.1.1), (44, vq), (45, N qs.length), (46, N j)])
      (fun m h' => Only (pblk t) h7 h' ∧ OwnF h' h7.size 26 U m.1.2 m.2.1 ∧ TapR h' t B m.2.2.1 m.2.2.2 ∧ m.2.1.length = m.1.1 ∧ m.1.1 ≤ n ∧ (m.2.2.2 = true → m.1.1 < n) ∧
        Y = (if m.2.2.2 then none else preG m.2.1 (rowG (firstB q) (n - m.1.1) m.2.2.1))) (fun m => n - m.1.1) ((0, .slice none 0 0), [], ds', o'))
    · exact (Sub.cons rfl (Sub.cons rfl (Sub.cons rfl (Sub.cons rfl (Sub.cons rfl (Sub.cons rfl (Sub.cons rfl (Sub.cons rfl (Sub.cons rfl (Sub.cons rfl (Sub.cons rfl (Sub.nil _))))))))))))
    · refine ⟨Only.refl _ _, OwnF.nil _ _ _ _, t7, rfl, Nat.zero_le _, fun _ => hn, ?_⟩
      dsimp only
      rw [← hY, Nat.sub_zero, preG_nil]
    rintro ⟨⟨m, vl⟩, ws, ds2, o2⟩ h9 ⟨d9, o9, t9, l9, m1, q9, Y9⟩
    dsimp only at d9 o9 t9 l9 m1 q9 Y9 ⊢
    have d39 := d7.trans d9
    have x9 := x7.only d9 hpt
    have w69 := w67.only d9 hpt6
    refine runJ ?_
    (apply w_condD; exact rfl; exact rfl) <;> intro hm
    · refine runJ ?_
      apply (s_call Tryz_ent184 rfl rfl rfl)
      refine (belowR_spec t B q ds2 o2 h9 t9 hq0 hq64).mono ?_
      rintro r h10 ⟨k10, G⟩
      refine ⟨(by first | exact trivial | exact trivial), ?_⟩
      have d10 := d9.trans k10
      have w610 := w69.only k10 hpt6
      obtain ⟨m', hm'⟩ : ∃ m', n - m = m' + 1 := ⟨n - m - 1, by omega⟩
      rw [hm'] at Y9
      by_cases hc : o2 = true ∨ firstB q ds2 = none
      · have hfail : r = .tuple #[U 0, N 11] ∧ (∃ ds, TapR h10 t B ds true) ∧ Y = none := by
          rcases hc with rfl | hf
          · exact ⟨G.1, G.2, Y9⟩
          · cases o2 with
            | true => exact ⟨G.1, G.2, Y9⟩
            | false =>
              rw [if_neg (by simp), hf] at G
              rw [if_neg (by simp)] at Y9
              exact ⟨G.1, G.2, rowG_fail Y9 hf⟩
        obtain ⟨rfl, ⟨dsX, hT⟩, hYn⟩ := hfail
        have hZn : Z = none := by
          cases o' with
          | true => exact Z7
          | false =>
            rw [if_neg (by simp)] at Z7
            rw [if_neg (by simp)] at hY
            exact uniG_fail Z7 (hY.trans hYn)
        subst hZn
        refine runJ ?_
        (apply (s_build ([.slice none 0 0])); exact rfl; exact rfl; exact rfl; (repeat (first | exact CellsAll.nil | (apply CellsAll.cons; (first | exact oneL (by assumption) | exact oneL (SlF.one (by assumption)) | exact oneL (SlF.one (OwnF.sl (by assumption))) | exact oneL (Var.one (by assumption)) | exact rfl)))); exact rfl; exact rfl)
        refine runJ ?_
        (apply s_storeV; exact rfl; exact rfl; exact rfl; (repeat (first | exact OneAll.nil | (apply OneAll.cons; (first | exact rfl | exact SlF.one (by assumption) | exact SlF.one (OwnF.sl (by assumption)) | exact Var.one (by assumption))))); exact rfl; exact rfl; exact w610; exact rfl)
        intro h11 x11 k11
        (try dsimp only [Value.cells, List.toList_toArray] at x11)
        refine ⟨(by first | exact trivial | exact Ext.refl _ | assumption | exact Ext.only (by assumption) _ | exact Only.trans (Ext.only (by assumption) _) (by assumption)), ?_⟩
        have x11 : Var h11 p6 56 [.slice none 0 0] := x11
        have dd := only_own ((e3.only _).trans (d7.trans d10)) k11 fun j hj => by rw [b3] at hj; cases hj; exact Nat.le_refl _
        have hT2 := hT.own k11 (M := h.size) hpk' hBl (fun j hj => by rw [b3] at hj; cases hj; exact Nat.le_refl _)
        refine runJ ?_
        exact finCT rfl rfl rfl x11 rfl rfl ⟨dd, rfl, dsX, hT2⟩
      · obtain ⟨ho, hf⟩ : o2 = false ∧ ∃ r1 ds1, firstB q ds2 = some (r1, ds1) := by
          refine ⟨by cases o2 <;> simp_all, ?_⟩
          cases hf : firstB q ds2 with
          | none => exact absurd (.inr hf) hc
          | some q => exact ⟨q.1, q.2, rfl⟩
        subst ho
        obtain ⟨r1, ds1, hf⟩ := hf
        rw [if_neg (by simp)] at Y9 G
        rw [hf] at G
        obtain ⟨rfl, T⟩ := G
        have hne : vl.ownBlock = none ∨ vl.ownBlock ≠ pblk t := o9.neV hpk (Nat.lt_of_lt_of_le (Nat.lt_trans hpl hb03) d7.1)
        have o10 := o9.only k10 hne
        obtain ⟨hsz, ex10⟩ := cutH_ext d10.1
        rw [← hsz] at o10
        refine runJ ?_
        (refine s_app1 (bytes := 8) (r1) o10 ex10 rfl rfl rfl rfl rfl rfl rfl rfl rfl (by first | exact rfl | exact congrArg some (congrArg I (by omega))) (fun _ => rfl) rfl rfl (fun _ _ => trivial) (by omega) (by simp only [maxLen]; omega) ?_)
        intro v11 h11 o11 e11 k11 b11
        rw [hsz] at o10 o11
        have hge : ∀ j, vl.ownBlock = some j → h7.size ≤ j := fun j hj => (o10.blk j hj).1
        have hT := T.own k11 (M := h.size) hpk' hBl (fun j hj => by have h1 := hge j hj; have h2 := d7.1; omega)
        have d11 := only_own d10 k11 hge
        refine runJ ?_
        apply again_normal ((m + 1, v11), ws ++ [r1], ds1, false)
        · exact (Sub.cons rfl (Sub.cons rfl (Sub.cons rfl (Sub.cons rfl (Sub.cons rfl (Sub.cons rfl (Sub.cons rfl (Sub.cons rfl (Sub.cons rfl (Sub.cons rfl (Sub.cons rfl (Sub.nil _))))))))))))
        · refine ⟨d11, o11, hT, by simp [l9], hm, (fun h => by cases h), ?_⟩
          dsimp only
          rw [if_neg (by simp), show n - (m + 1) = m' by omega]
          exact rowG_step Y9 hf
        · dsimp only; omega
    · obtain rfl : m = n := by omega
      obtain rfl : o2 = false := by
        cases o2 with
        | false => rfl
        | true => exact absurd (q9 rfl) (by omega)
      rw [if_neg (by simp), Nat.sub_self] at Y9
      have hYs := rowG_zero Y9
      obtain rfl : o' = false := by
        cases o' with
        | false => rfl
        | true => rw [← hY, if_pos rfl] at hYs; cases hYs
      rw [if_neg (by simp)] at hY Z7
      have Z8 := uniG_step Z7 (hY.trans hYs)
      have R9 := R7.low (by rw [← hpk]; exact d9) (Nat.lt_trans hpl hb03)
      have o9one := o9.sl.one
      have hlen : rows.length + 1 < 1000000 := by omega
      obtain ⟨hsz, ex9⟩ := cutH_ext d39.1
      have Rown := R9.own
      rw [← hsz] at Rown
      refine runJ ?_
      (refine s_app1V (bytes := 24) ((vl, ws)) Rown ex9 rfl rfl rfl rfl rfl rfl rfl rfl rfl (by first | exact rfl | exact congrArg some (congrArg I (by omega))) o9one rfl rfl (fun _ _ => trivial) (by omega) (by simp only [maxLen]; omega) ?_)
      intro v10 h10 o10 e10 k10 b10
      rw [hsz] at o10
      have x10 := x9.only k10 hpv
      refine runJ ?_
      (apply s_storeC; exact rfl; exact rfl; (first | exact rfl | exact SlF.one (by assumption) | exact SlF.one (OwnF.sl (by assumption)) | exact Var.one (by assumption)); exact rfl; exact rfl; exact x10; exact rfl)
      intro h11 x11 k11
      refine ⟨(by first | exact trivial | exact Ext.refl _ | assumption | exact Ext.only (by assumption) _ | exact Only.trans (Ext.only (by assumption) _) (by assumption)), ?_⟩
      rw [b4] at k11
      have hz34 := e4.1
      have R11 := R9.push (z := h7.size) (o9.base (Nat.le_trans hz34 z7)) (fun k hk => (o9.blk k hk).1) (fun k hk => (R7.own.blk k hk).2) (Nat.lt_of_lt_of_le hb34 z7) d9.1 o10 k10 b10 k11
      have hge : ∀ j, vR.ownBlock = some j → h3.size ≤ j := fun j hj => (R9.own.blk j hj).1
      have d10 := only_own d39 k10 hge
      have d11 := only_own d10 k11 fun j hj => by cases hj; exact Nat.le_refl _
      have T10 := t9.own k10 (M := h.size) hpk' hBl (fun j hj => by have := hge j hj; omega)
      have T11 := T10.own k11 (M := h.size) hpk' hBl (fun j hj => by cases hj; omega)
      refine runJ ?_
      apply again_normal ((j + 1, v10), rows ++ [(vl, ws)], ds2, false)
      · exact (Sub.cons rfl (Sub.cons rfl (Sub.cons rfl (Sub.cons rfl (Sub.cons rfl (Sub.cons rfl (Sub.cons rfl (Sub.cons rfl (Sub.nil _)))))))))
      · refine ⟨d11, Nat.le_trans z7 (Nat.le_trans d9.1 (Nat.le_trans k10.1 k11.1)), hj, x11, R11, by dsimp only; rw [List.length_append]; simp [l7], T11, (fun h => by cases h), ?_⟩
        dsimp only
        rw [if_neg (by simp), List.map_append]
        exact Z8
      · dsimp only; omega
  · obtain rfl : j = qs.length := by omega
    obtain rfl : o' = false := by
      cases o' with
      | false => rfl
      | true => exact absurd (q7 rfl) (by omega)
    rw [if_neg (by simp), List.drop_length] at Z7
    rw [uniG_zero Z7]
    refine runJ ?_
    (apply s_storeV; exact rfl; exact rfl; exact rfl; exact (OneAll.cons R7.own.sl.one OneAll.nil : OneAll [vR]); exact rfl; exact rfl; exact w67; exact rfl)
    intro h8 x8 k8
    refine ⟨trivial, ?_⟩
    have x8 : Var h8 p6 56 [vR] := x8
    rw [b3] at k8
    have dd := only_own ((e3.only _).trans d7) k8 fun j hj => by cases hj; exact Nat.le_refl _
    have T8 := t7.own k8 (M := h.size) hpk' hBl (fun j hj => by cases hj; exact Nat.le_refl _)
    refine runJ ?_
    exact finCT rfl rfl rfl x8 rfl rfl ⟨dd, vR, rows, _, rfl, (R7.low k8 hb03).base (Nat.le_of_lt hb03), rfl, T8⟩
end Go.Proofs.YtfcmdefigldpnaaGreatDoor


namespace Go.Proofs.YtfcmdefigldpnaaGreatDoor
set_option linter.unusedVariables false
set_option maxRecDepth 8000
open Go Go.Den Go.RowKit Go.Dig

/-- What a draw gave. -/
def GotP {α : Type} (f : α → Value) (z : Value) (h : Hp) (t : Value) (B : Option Nat) (v' : Value) : Option (α × List Nat) → Prop
  | none => v' = .tuple #[z, N 11] ∧ TapeAt h t B [] true
  | some (r, ds) => v' = .tuple #[f r, N 0] ∧ TapeAt h t B ds false
theorem sp_eq (q : Nat) : Nat.mod (Nat.mod 1 q * 18446744073709551616 + 0) q = 18446744073709551616 % q := by
  show (1 % q * 18446744073709551616 + 0) % q = _
  rw [Nat.add_zero, Nat.mod_mul_mod, Nat.one_mul]
theorem TapeAt.al {h : Hp} {t : Value} {B : Option Nat} {ds : List Nat} {o : Bool} (s : TapeAt h t B ds o) : Al 18446744073709551616 ds := by
  obtain ⟨v, -, -, -, s4, -⟩ := s
  exact s4
theorem TapeAt.pb {h : Hp} {t : Value} {B : Option Nat} {ds : List Nat} {o : Bool} (s : TapeAt h t B ds o) : ∃ k, pblk t = some k ∧ k < h.size := by
  obtain ⟨v, s1, -⟩ := s
  exact s1.blk
theorem TapeAt.bl {h : Hp} {t : Value} {B : Option Nat} {ds : List Nat} {o : Bool} (s : TapeAt h t B ds o) : ∀ b, B = some b → b < h.size := by
  obtain ⟨v, -, -, s3, -⟩ := s
  exact s3.lt
theorem TapeAt.own {h h' : Hp} {t : Value} {B r : Option Nat} {ds : List Nat} {o : Bool} (s : TapeAt h t B ds o) (k : Only r h h') {M : Nat} (hp : ∀ j, pblk t = some j → j < M) (hB : ∀ b, B = some b → b < M) (hr : ∀ j, r = some j → M ≤ j) : TapeAt h' t B ds o := by
  cases r with
  | none => exact s.ext k.ext
  | some j => exact s.only k (fun e => by have := hp j e; have := hr j rfl; omega) (fun e => by have := hB j e; have := hr j rfl; omega)

theorem belowP_spec (t : Value) (B : Option Nat) (q : Nat) (ds : List Nat) (h : Hp) (s : TapeAt h t B ds false) (hq : 0 < q) (hq2 : q < 18446744073709551616) :
    CallsH Tryz.prog 151 [t, U q] h fun v' h' => Only (pblk t) h h' ∧ GotP U (U 0) h' t B v' (firstB q ds) := by
  have s0 := s
  have hF : ∀ d ds, firstB q (d :: ds) = if d ≤ 18446744073709551615 - 18446744073709551616 % q then some (d % q, ds) else firstB q ds := fun d ds => rfl
  obtain ⟨v, s1, s2, s3, s4, s5⟩ := s
  (apply enter Tryz.func151 rfl Tryz.ntmps151 rfl)
  refine runH ?_
  (apply w_condF; exact rfl; exact rfl; exact (by omega))
  refine runH ?_
  have h1q : Nat.mod 1 q < q := Nat.mod_lt _ hq
  apply (s_call Tryz_ent168 rfl rfl rfl)
  refine (div64_spec _ _ _ _ h1q (by decide) hq2).mono ?_
  rintro _ _ ⟨rfl, rfl⟩
  refine ⟨(by first | exact trivial | exact Ext.refl _ | assumption | exact Ext.trans (by assumption) (by assumption)), ?_⟩
  have hsp : Nat.mod (Nat.mod 1 q * 18446744073709551616 + 0) q < q := Nat.mod_lt _ hq
  rw [← sp_eq q] at hF
  generalize hspd : Nat.mod (Nat.mod 1 q * 18446744073709551616 + 0) q = sp at hsp hF
  have hspe : (Nat.mod 1 q * 18446744073709551616 + 0) - (Nat.mod 1 q * 18446744073709551616 + 0) / q * q = (Nat.mod 1 q * 18446744073709551616 + 0) - (Nat.mod 1 q * 18446744073709551616 + 0) / q * q := rfl
  refine runH ?_
  (first | (apply w_seqB; exact rfl; apply w_block; exact rfl) | skip)
  apply (w_loop (σ := List Nat × Bool) rfl (fun p => [(0, t), (1, U q), (7, U sp)])
    (fun p h' => Only (pblk t) h h' ∧ TapeAt h' t B p.1 p.2 ∧ (p.2 = true → p.1 = []) ∧ firstB q ds = (if p.2 then none else firstB q p.1)) (fun p => if p.2 then 0 else p.1.length + 1) (ds, false))
  · have e7 := congrArg U hspd
    exact (Sub.cons rfl (Sub.cons rfl (Sub.cons (congrArg some e7) (Sub.nil _))))
  · exact ⟨Only.refl _ _, s0, (fun h2 => by cases h2), rfl⟩
  · rintro ⟨ds', o'⟩ h1 ⟨i1, i2, i4, i3⟩
    dsimp only at i2 i3 i4 ⊢
    have i2' := i2
    obtain ⟨v1, t1, t2, t3, t4, t5⟩ := i2
    refine runH ?_
    (apply w_cond; exact rfl; exact rfl) <;> intro ho
    · have ho' : o' = false := by simpa using ho
      subst ho'
      refine runH ?_
      apply (s_call Tryz_ent150 rfl rfl rfl)
      refine (draw_spec t B ds' false h1 i2').mono ?_
      rintro r h2 ⟨k2, D⟩
      refine ⟨(by first | exact trivial | exact trivial), ?_⟩
      have i5 := i1.trans k2
      rw [if_neg (by simp)] at i3
      cases ds' with
      | nil =>
        obtain ⟨rfl, D⟩ := D
        refine runH ?_
        apply again_normal ([], true)
        · exact (Sub.cons rfl (Sub.cons rfl (Sub.cons rfl (Sub.nil _))))
        · exact ⟨i5, D, (fun _ => rfl), i3⟩
        · simp
      | cons d ds' =>
        obtain ⟨rfl, D⟩ := D
        have hf := hF d ds'
        rw [hf] at i3
        refine runH ?_
        (apply w_condD; exact rfl; exact rfl) <;> intro hd
        · rw [if_pos hd] at i3
          refine runH ?_
          refine fin2 rfl rfl rfl ⟨i5, ?_⟩
          rw [i3]
          exact ⟨rfl, D⟩
        · rw [if_neg hd] at i3
          refine runH ?_
          apply again_normal (ds', false)
          · exact (Sub.cons rfl (Sub.cons rfl (Sub.cons rfl (Sub.nil _))))
          · exact ⟨i5, D, (fun h2 => by cases h2), i3⟩
          · simp
    · have ho' : o' = true := by simpa using ho
      subst ho'
      have hnil := i4 rfl
      subst hnil
      rw [if_pos rfl] at i3
      refine runH ?_
      refine fin2 rfl rfl rfl ⟨i1, ?_⟩
      rw [i3]
      exact ⟨rfl, i2'⟩
end Go.Proofs.YtfcmdefigldpnaaGreatDoor


namespace Go.Proofs.YtfcmdefigldpnaaGreatDoor
set_option linter.unusedVariables false
set_option maxRecDepth 8000
open Go Go.Den Go.RowKit Go.Dig

/-- So many bits, counted one by one. -/
def pcS (x : Nat) : Nat → Nat
  | 0 => 0
  | i + 1 => pcS x i + x / 2 ^ i % 2
def errS (w d : Nat) : Nat → Int
  | 0 => 0
  | i + 1 => errS w d i + ((d / 2 ^ i % 2 : Nat) : Int) - ((d / 2 ^ (w + i) % 2 : Nat) : Int)
def onesB (k : Nat) : Bool := (List.range 4096).all fun x => Nat.beq (ones (4096 * k + x)) (pcS (4096 * k + x) 16)
theorem onesB_of {k x : Nat} (h : onesB k = true) (h1 : 4096 * k ≤ x) (h2 : x < 4096 * (k + 1)) : ones x = pcS x 16 := by
  unfold onesB at h
  have := List.all_eq_true.1 h (x - 4096 * k) (List.mem_range.2 (by omega))
  rw [show 4096 * k + (x - 4096 * k) = x by omega] at this
  exact Nat.eq_of_beq_eq_true this
theorem ones_chk_0 : onesB 0 = true := by decide +kernel
theorem ones_chk_1 : onesB 1 = true := by decide +kernel
theorem ones_chk_2 : onesB 2 = true := by decide +kernel
theorem ones_chk_3 : onesB 3 = true := by decide +kernel
theorem ones_chk_4 : onesB 4 = true := by decide +kernel
theorem ones_chk_5 : onesB 5 = true := by decide +kernel
theorem ones_chk_6 : onesB 6 = true := by decide +kernel
theorem ones_chk_7 : onesB 7 = true := by decide +kernel
theorem ones_chk_8 : onesB 8 = true := by decide +kernel
theorem ones_chk_9 : onesB 9 = true := by decide +kernel
theorem ones_chk_10 : onesB 10 = true := by decide +kernel
theorem ones_chk_11 : onesB 11 = true := by decide +kernel
theorem ones_chk_12 : onesB 12 = true := by decide +kernel
theorem ones_chk_13 : onesB 13 = true := by decide +kernel
theorem ones_chk_14 : onesB 14 = true := by decide +kernel
theorem ones_chk_15 : onesB 15 = true := by decide +kernel
theorem ones_pc {x : Nat} (h : x < 65536) : ones x = pcS x 16 := by
  have : x / 4096 < 16 := by omega
  rcases (show x / 4096 = 0 ∨ x / 4096 = 1 ∨ x / 4096 = 2 ∨ x / 4096 = 3 ∨ x / 4096 = 4 ∨ x / 4096 = 5 ∨ x / 4096 = 6 ∨ x / 4096 = 7 ∨ x / 4096 = 8 ∨ x / 4096 = 9 ∨ x / 4096 = 10 ∨ x / 4096 = 11 ∨ x / 4096 = 12 ∨ x / 4096 = 13 ∨ x / 4096 = 14 ∨ x / 4096 = 15 by omega) with h | h | h | h | h | h | h | h | h | h | h | h | h | h | h | h
  · exact onesB_of ones_chk_0 (by omega) (by omega)
  · exact onesB_of ones_chk_1 (by omega) (by omega)
  · exact onesB_of ones_chk_2 (by omega) (by omega)
  · exact onesB_of ones_chk_3 (by omega) (by omega)
  · exact onesB_of ones_chk_4 (by omega) (by omega)
  · exact onesB_of ones_chk_5 (by omega) (by omega)
  · exact onesB_of ones_chk_6 (by omega) (by omega)
  · exact onesB_of ones_chk_7 (by omega) (by omega)
  · exact onesB_of ones_chk_8 (by omega) (by omega)
  · exact onesB_of ones_chk_9 (by omega) (by omega)
  · exact onesB_of ones_chk_10 (by omega) (by omega)
  · exact onesB_of ones_chk_11 (by omega) (by omega)
  · exact onesB_of ones_chk_12 (by omega) (by omega)
  · exact onesB_of ones_chk_13 (by omega) (by omega)
  · exact onesB_of ones_chk_14 (by omega) (by omega)
  · exact onesB_of ones_chk_15 (by omega) (by omega)
theorem pcS_mod (x w : Nat) : ∀ k, k ≤ w → pcS (x % 2 ^ w) k = pcS x k
  | 0, _ => rfl
  | k + 1, h => by
    unfold pcS
    rw [pcS_mod x w k (by omega)]
    congr 1
    rw [show w = k + (w - k) by omega, Nat.pow_add, Nat.mod_mul_right_div_self, Nat.mod_mod_of_dvd]
    exact ⟨2 ^ (w - k - 1), by rw [← Nat.pow_succ']; congr 1; omega⟩
theorem pcS_high (x w : Nat) (h : x < 2 ^ w) : ∀ k, pcS x (w + k) = pcS x w
  | 0 => rfl
  | k + 1 => by
    show pcS x (w + k) + x / 2 ^ (w + k) % 2 = _
    rw [pcS_high x w h k, Nat.div_eq_of_lt (Nat.lt_of_lt_of_le h (Nat.pow_le_pow_right (by decide) (by omega))), Nat.zero_mod, Nat.add_zero]
theorem ones_low (d w : Nat) (hw : w ≤ 16) : ones (d &&& 1 * 2 ^ w - 1) = pcS d w := by
  rw [Nat.one_mul, Nat.and_two_pow_sub_one_eq_mod]
  have p0 : 0 < 2 ^ w := Nat.two_pow_pos w
  have hlt := Nat.mod_lt d p0
  have p1 : 2 ^ w ≤ 65536 := by
    have := Nat.pow_le_pow_right (n := 2) (by omega) hw
    simpa using this
  rw [ones_pc (by omega), show 16 = w + (16 - w) by omega, pcS_high _ _ hlt, pcS_mod d w w (Nat.le_refl _)]
theorem errS_eq (w d : Nat) : ∀ k, errS w d k = ((pcS d k : Nat) : Int) - ((pcS (d / 2 ^ w) k : Nat) : Int)
  | 0 => rfl
  | k + 1 => by
    unfold errS pcS
    rw [errS_eq w d k, Nat.div_div_eq_div_mul, ← Nat.pow_add]
    omega
/-- The error that a draw tells. -/
def errV (w d : Nat) : Int := errS w d w
theorem errV_ones (w d : Nat) (hw : w ≤ 16) : ((ones (d &&& 1 * 2 ^ w - 1) : Nat) : Int) - ((ones (d / 2 ^ w &&& 1 * 2 ^ w - 1) : Nat) : Int) = errV w d := by
  unfold errV
  rw [ones_low d w hw, ones_low (d / 2 ^ w) w hw, errS_eq]
theorem pcS_le (x : Nat) : ∀ k, pcS x k ≤ k
  | 0 => Nat.le_refl _
  | k + 1 => by
    unfold pcS
    have := pcS_le x k
    omega
theorem errV_le (w d : Nat) : -(w : Int) ≤ errV w d ∧ errV w d ≤ w := by
  unfold errV
  rw [errS_eq]
  have h1 := pcS_le d w
  have h2 := pcS_le (d / 2 ^ w) w
  omega
def firstE (w : Nat) : List Nat → Option (Int × List Nat)
  | [] => none
  | d :: ds => some (errV w d, ds)

theorem errorP_spec (t : Value) (B : Option Nat) (w : Nat) (ds : List Nat) (h : Hp) (s : TapeAt h t B ds false) (hw : 1 ≤ w) (hw2 : w ≤ 16) :
    CallsH Tryz.prog 109 [t, N w] h fun v' h' => Only (pblk t) h h' ∧ GotP I (N 0) h' t B v' (firstE w ds) := by
  refine (error_spec t B w ds false h s hw hw2).mono ?_
  rintro v' h' ⟨k, h1 | h1⟩
  · obtain ⟨rfl, -, T, hd⟩ := h1
    have hd : ds = [] := hd.resolve_left (by simp)
    subst hd
    exact ⟨k, rfl, T (.inl rfl)⟩
  · obtain ⟨r, ds', rfl, -, -, -, ⟨d, rfl, rfl⟩, T, -⟩ := h1
    rw [errV_ones w d hw2]
    exact ⟨k, rfl, T⟩
end Go.Proofs.YtfcmdefigldpnaaGreatDoor

