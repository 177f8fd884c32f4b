/- Texts PckJ to PckK of this work, joined: each says in its own head what it proves, and of which condition. -/
import Derived.Test.YtfcmdefigldpnaaDoorMPk25
/- Package pack: a reader reads an element. No condition. -/
namespace Go.Proofs.YtfcmdefigldpnaaDoor
set_option linter.unusedVariables false
set_option maxRecDepth 8000
open Go Go.Den Go.RowKit Go.Dig

theorem polyB_drop {rows : List (List Nat)} {i : Nat} {x : List Nat} (h : rows[i]? = some x) : polyB (rows.drop i) = wordsB x ++ polyB (rows.drop (i + 1)) := by
  obtain ⟨hl, rfl⟩ := List.getElem?_eq_some_iff.1 h
  rw [List.drop_eq_getElem_cons hl, polyB_cons]

theorem Tryd_ent47 : Ent Tryd.prog 47 := ent_of Tryd.func47 (by kernel_rfl) rfl
set_option maxHeartbeats 4000000 in
theorem rpoly_spec (r : Value) (k m n e0 B : Nat) (md : Option (List Nat)) (rows : List (List Nat)) (F : List Nat) (p : ParD) (h : Hp) (s : RdAt h r k md (polyB rows ++ F) e0 p) (R : RPar h B p) (hB : k < B) (hm : m ≤ 1000)
    (he : e0 = 0 → p.n = (n : Int) ∧ rows.length = m ∧ m ≤ p.q.length ∧ (∀ l ∈ rows, l.length = n) ∧ ∀ (i q : Nat) (l : List Nat), rows[i]? = some l → p.q[i]? = some q → ∀ a ∈ l, a < q) :
    CallsH Tryd.prog 47 [r, N m] h fun v' h' => Only (pblk r) h h' ∧ ∃ vr e', v' = .agg #[vr] ∧ vr.oneCell' = true ∧ RdAt h' r k md F e' p ∧ (e' = 0 → e0 = 0) := by
  obtain ⟨hpk, hkh⟩ := s.pk
  obtain ⟨pn, hpn⟩ : ∃ pn : Nat, p.n = (pn : Int) := ⟨p.n.toNat, by have := R.n0.1; omega⟩
  have hpn6 : pn < 65536 := by have := R.n0.2; omega
  have hvq : ∀ j, p.vq.ownBlock = some j → j < h.size := fun j hj => (R.own.blk j hj).2
  (apply enter Tryd.func47 rfl Tryd.ntmps47 rfl)
  refine runJ ?_
  (apply s_alloc; exact rfl; exact rfl; exact rfl)
  intro p4 h1 x1 e1 b1
  (try dsimp only [Value.cells, List.toList_toArray] at x1)
  refine ⟨(by first | exact trivial | exact Ext.refl _ | assumption | exact Ext.trans (by assumption) (by assumption)), ?_⟩
  have x1 : Var h1 p4 37 [.slice none 0 0] := x1
  refine runJ ?_
  (apply (s_build ([.slice none 0 0])); exact rfl; exact rfl; exact rfl; (repeat (first | exact CellsAll.nil | (apply CellsAll.cons; (first | exact oneL (by assumption) | exact oneL (SlF.one (by assumption)) | exact oneL (SlF.one (OwnF.sl (by assumption))) | exact oneL (Var.one (by assumption)) | exact rfl)))); exact rfl; exact rfl)
  refine runJ ?_
  (apply s_alloc; exact rfl; exact rfl; exact rfl)
  intro p5 h2 x2 e2 b2
  (try dsimp only [Value.cells, List.toList_toArray] at x2)
  refine ⟨(by first | exact trivial | exact Ext.refl _ | assumption | exact Ext.trans (by assumption) (by assumption)), ?_⟩
  refine runJ ?_
  (apply s_storeV; exact rfl; exact rfl; exact rfl; (repeat (first | exact OneAll.nil | (apply OneAll.cons; (first | exact rfl | exact SlF.one (by assumption) | exact SlF.one (OwnF.sl (by assumption)) | exact Var.one (by assumption))))); exact rfl; exact rfl; exact x2; exact rfl)
  intro h3 x3 k3
  (try dsimp only [Value.cells, List.toList_toArray] at x3)
  refine ⟨(by first | exact trivial | exact Ext.refl _ | assumption | exact Ext.only (by assumption) _ | exact Only.trans (Ext.only (by assumption) _) (by assumption)), ?_⟩
  have x3 : Var h3 p5 37 [.slice none 0 0] := x3
  have e3 : Ext h h3 := k3.oldV (e1.trans e2) b2 e1.1
  have hs1 : h.size < h1.size := by obtain ⟨j, hj, hl⟩ := x1.blk; rw [b1] at hj; cases hj; exact hl
  have hs2 : h1.size < h2.size := by obtain ⟨j, hj, hl⟩ := x2.blk; rw [b2] at hj; cases hj; exact hl
  have x13 : Var h3 p4 37 [.slice none 0 0] := (x1.ext e2).only k3 (by rw [b1, b2]; intro e; have := Option.some.inj e; omega)
  have s3 := s.ext e3
  have R3 := R.ext e3
  have n4k : pblk p4 ≠ pblk r := by rw [b1, hpk]; intro e; have := Option.some.inj e; omega
  have n5k : pblk p5 ≠ pblk r := by rw [b2, hpk]; intro e; have := Option.some.inj e; omega
  have hz23 := k3.1
  refine runJ ?_
  (first | (apply w_seqB; exact rfl; apply w_block; exact rfl) | skip)
  apply (w_loop (σ := Nat × Nat × Value × List Value) rfl (fun j => [(0, r), (1, N m), (4, p4), (5, p5), (6, N j.1)])
    (fun j h' => j.1 ≤ m ∧ Only (pblk r) h h' ∧ h3.size ≤ h'.size ∧ Var h' p4 37 [.slice none 0 0] ∧ Var h' p5 37 [j.2.2.1] ∧ OwnF h' h3.size 23 id j.2.2.1 j.2.2.2 ∧ j.2.2.2.length = j.1 ∧ RdAt h' r k md (polyB (rows.drop j.1) ++ F) j.2.1 p ∧ RPar h' B p ∧ (j.2.1 = 0 → e0 = 0)) (fun j => m - j.1) (0, e0, .slice none 0 0, []))
  · exact (Sub.cons rfl (Sub.cons rfl (Sub.cons rfl (Sub.cons rfl (Sub.cons rfl (Sub.nil _))))))
  · exact ⟨Nat.zero_le _, e3.only _, Nat.le_refl _, x13, x3, OwnF.nil _ _ _ _, rfl, s3, R3, id⟩
  rintro ⟨j, e, vR, vs⟩ h6 ⟨j1, K6, z6, x46, x56, oR, lR, s6, R6, c6⟩
  dsimp only at j1 x56 oR lR s6 c6 ⊢
  obtain ⟨vb6, bs6, S6, T6⟩ := id s6
  have x6 := S6.var
  rw [hpn] at x6
  have row6 := S6.row
  have ln6 := S6.ln
  have hRk : vR.ownBlock = none ∨ vR.ownBlock ≠ pblk r := by
    rw [hpk]
    cases hv : vR.ownBlock with
    | none => exact .inl rfl
    | some i => exact .inr fun e => by have := Option.some.inj e; have := (oR.blk i hv).1; omega
  have fin : (e ≠ 0 ∨ j = m) → RdAt h6 r k md F e p := by
    intro hE
    rcases s6.e2 with rfl | rfl
    · obtain ⟨q1, q2, -⟩ := he (c6 rfl)
      have hj : j = rows.length := by
        rcases hE with h | h
        · exact absurd rfl h
        · omega
      subst hj
      rw [List.drop_length] at s6
      exact s6
    · exact s6.any F
  refine runJ ?_
  (apply s_splitG; exact rfl; exact rfl; exact rfl; exact rfl) <;> intro g1
  · refine runJ ?_
    (apply w_condD; exact rfl; exact rfl) <;> intro he0
    · subst he0
      obtain ⟨q1, q2, q3, q4, q5⟩ := he (c6 rfl)
      obtain rfl : pn = n := by omega
      obtain ⟨row, hrow⟩ := get_lt (l := rows) (j := j) (by omega)
      obtain ⟨qj, hqj⟩ := get_lt (l := p.q) (j := j) (by omega)
      have hrl := q4 row (List.mem_of_getElem? hrow)
      have hra := q5 j qj row hrow hqj
      have hq64 := R.al qj (List.mem_of_getElem? hqj)
      rw [polyB_drop hrow, List.append_assoc] at s6
      refine runJ ?_
      refine s_minI rfl rfl rfl ?_
      obtain ⟨c, hc, hcl⟩ : ∃ c : Nat, min (pn : Int) ((bs6.length / 8 + 1 : Nat) : Int) = (c : Int) ∧ c ≤ pn := ⟨min pn (bs6.length / 8 + 1), by omega, by omega⟩
      rw [hc]
      refine runJ ?_
      (apply (s_make (f := U) (bytes := 8) (0)); (first | exact isK_c | exact isK_t rfl); (first | exact isK_c | exact isK_t rfl); exact rfl; exact rfl; exact rfl; exact rfl; exact rfl; exact rfl; omega; omega; omega)
      intro vl7 h7 o7 e7 b7
      refine ⟨(by first | exact trivial | exact Ext.refl _ | assumption | exact Ext.trans (by assumption) (by assumption)), ?_⟩
      have o7 : OwnF h7 h6.size 22 U vl7 [] := o7
      refine runJ ?_
      apply (w_loop (σ := Nat × Nat × Value × List Nat) rfl (fun i => [(0, r), (1, N m), (4, p4), (5, p5), (6, N j), (7, i.2.2.1), (8, N i.1)])
        (fun i h' => i.1 ≤ pn ∧ Only (pblk r) h6 h' ∧ OwnF h' h6.size 22 U i.2.2.1 i.2.2.2 ∧ i.2.2.2.length = i.1 ∧ RdAt h' r k md (wordsB (row.drop i.1) ++ (polyB (rows.drop (j + 1)) ++ F)) i.2.1 p ∧ RPar h' B p ∧ (i.2.1 = 0 → e0 = 0)) (fun i => pn - i.1) (0, 0, vl7, []))
      · exact (Sub.cons rfl (Sub.cons rfl (Sub.cons rfl (Sub.cons rfl (Sub.cons rfl (Sub.cons rfl (Sub.cons rfl (Sub.nil _))))))))
      · exact ⟨Nat.zero_le _, e7.only _, o7, rfl, s6.ext e7, R6.ext e7, c6⟩
      rintro ⟨i, e9, vl, ls⟩ h9 ⟨i1, K9, o9, l9, s9, R9, c9⟩
      dsimp only at i1 o9 l9 s9 c9 ⊢
      obtain ⟨vb9, bs9, S9, T9⟩ := id s9
      have x9 := S9.var
      rw [hpn] at x9
      have fin9 : (e9 ≠ 0 ∨ i = pn) → RdAt h9 r k md (polyB (rows.drop (j + 1)) ++ F) e9 p := by
        intro hE
        rcases s9.e2 with rfl | rfl
        · have hi : i = row.length := by
            rcases hE with h | h
            · exact absurd rfl h
            · omega
          subst hi
          rw [List.drop_length] at s9
          exact s9
        · exact s9.any _
      have x59 := x56.only K9 n5k
      have x49 := x46.only K9 n4k
      have oR9 := oR.only K9 hRk
      obtain ⟨hsz9, ex9⟩ := cutH_ext (Nat.le_trans z6 K9.1)
      have hn5R : pblk p5 ≠ vR.ownBlock := by rw [b2]; intro e; have := (oR.blk _ e.symm).1; omega
      have hn4R : pblk p4 ≠ vR.ownBlock := by rw [b1]; intro e; have := (oR.blk _ e.symm).1; omega
      have hn45 : pblk p4 ≠ pblk p5 := by rw [b1, b2]; intro e; have := Option.some.inj e; omega
      rw [← hsz9] at oR9
      refine runJ ?_
      (apply s_splitG; exact rfl; exact rfl; exact rfl; exact rfl) <;> intro g2
      · refine runJ ?_
        (apply w_condD; exact rfl; exact rfl) <;> intro he9
        · subst he9
          obtain ⟨x, hx⟩ := get_lt (l := row) (j := i) (by omega)
          have hxq := hra x (List.mem_of_getElem? hx)
          have l8x := numB_len x 8
          have vx : vB (numB x 8) = x := by rw [vB_num]; exact Nat.mod_eq_of_lt (Nat.lt_trans hxq hq64)
          rw [wordsB_drop hx, List.append_assoc] at s9
          refine runJ ?_
          apply (s_call Tryd_ent45 rfl rfl rfl)
          refine (rnumber_spec r k 0 md (numB x 8) _ p h9 s9 (by rw [l8x]; decide)).mono ?_
          rintro _ h10 ⟨k10, y, e10, rfl, s10, b10, c10⟩
          refine ⟨(by first | exact trivial | exact trivial), ?_⟩
          have e64 : (256 : Nat) ^ 8 = 18446744073709551616 := by decide
          rw [l8x, e64] at b10
          rw [vx] at c10
          have k10' := k10
          rw [hpk] at k10'
          have R10 := R9.only hB k10'
          have rq := R10.own.sl
          obtain ⟨vb10, bs10, S10, T10⟩ := id s10
          have x10 := S10.var
          refine runJ ?_
          apply (s_call Tryd_ent46 rfl rfl rfl)
          refine (failR_spec r k e10 3 md _ p _ h10 s10 (fun h0 => by rw [(c10 h0).2]; exact decide_eq_false (by omega))).mono ?_
          rintro _ h11 ⟨k11, s11⟩
          refine ⟨(by first | exact trivial | exact trivial), ?_⟩
          have k11' := k11
          rw [hpk] at k11'
          have R11 := R10.only hB k11'
          have K11 := (K9.trans k10).trans k11
          have hlk : vl.ownBlock = none ∨ vl.ownBlock ≠ pblk r := by
            rw [hpk]
            cases hv : vl.ownBlock with
            | none => exact .inl rfl
            | some i => exact .inr fun e => by have := Option.some.inj e; have := (o9.blk i hv).1; have := K6.1; omega
          have o11 := (o9.only k10 hlk).only k11 hlk
          obtain ⟨hsz, ex11⟩ := cutH_ext K11.1
          rw [← hsz] at o11
          have hls : ls.length ≤ 65536 := by omega
          refine runJ ?_
          (refine s_app1 (bytes := 8) (y) o11 ex11 rfl rfl rfl rfl rfl rfl rfl rfl rfl (by first | exact rfl | exact congrArg some (congrArg I (by omega))) (fun _ => rfl) rfl rfl (fun _ _ => trivial) (by omega) (by simp only [maxLen]; omega) ?_)
          intro v12 h12 o12 e12 k12 b12
          rw [hsz] at o12
          have hbl : ∀ b, vl.ownBlock = some b → h6.size ≤ b := fun b hb => (o9.blk b hb).1
          have hh6 := K6.1
          refine runJ ?_
          apply again_normal (i + 1, e10, v12, ls ++ [y])
          · exact (Sub.cons rfl (Sub.cons rfl (Sub.cons rfl (Sub.cons rfl (Sub.cons rfl (Sub.cons rfl (Sub.cons rfl (Sub.nil _))))))))
          · exact ⟨by dsimp only; omega, only_own K11 k12 hbl, o12, by dsimp only; rw [List.length_append, l9]; rfl, s11.high k12 fun b hb => by have := hbl b hb; omega, R11.high k12 hvq fun b hb => by have := hbl b hb; omega, fun h0 => c9 (c10 h0).1⟩
          · dsimp only; omega
        · have c9 := c9
          obtain s9f := fin9 (.inl he9)
          refine runJ ?_
          (refine s_app1V (bytes := 24) (vl) oR9 ex9 rfl rfl rfl rfl rfl rfl rfl rfl rfl (by first | exact rfl | exact congrArg some (congrArg I (by omega))) o9.sl.one rfl rfl (fun _ _ => trivial) (by omega) (by simp only [maxLen]; omega) ?_)
          intro v10 h10 o10 e10 k10 b10
          rw [hsz9] at o10
          have o10one := o10.sl.one
          have x510 := x59.only k10 hn5R
          have x410 := x49.only k10 hn4R
          refine runJ ?_
          (apply s_storeC; exact rfl; exact rfl; (first | exact rfl | exact SlF.one (by assumption) | exact SlF.one (OwnF.sl (by assumption)) | exact Var.one (by assumption)); exact rfl; exact rfl; exact x510; exact rfl)
          intro h11 x11 k11
          refine ⟨(by first | exact trivial | exact Ext.refl _ | assumption | exact Ext.only (by assumption) _ | exact Only.trans (Ext.only (by assumption) _) (by assumption)), ?_⟩
          have hR10 : ∀ i, vR.ownBlock = some i → h3.size ≤ i := fun i hi => (oR.blk i hi).1
          have s11 := (s9f.high k10 fun i hi => by have := hR10 i hi; omega).high k11 fun i hi => by rw [b2] at hi; have := Option.some.inj hi; omega
          have R11 := (R9.high k10 hvq fun i hi => by have := hR10 i hi; omega).high k11 hvq fun i hi => by rw [b2] at hi; have := Option.some.inj hi; omega
          have x411 := x410.only k11 hn45
          have hv10 : v10.ownBlock = none ∨ v10.ownBlock ≠ pblk p5 := by
            rw [b2]
            cases hv : v10.ownBlock with
            | none => exact .inl rfl
            | some i => exact .inr fun e => by have := Option.some.inj e; have := (o10.blk i hv).1; omega
          have K10 : Only (pblk r) h h10 := only_own (K6.trans K9) k10 fun i hi => by have := hR10 i hi; omega
          have K11 : Only (pblk r) h h11 := only_own K10 k11 fun i hi => by rw [b2] at hi; have := Option.some.inj hi; omega
          refine runJ ?_
          apply again_normal (j + 1, e9, v10, vs ++ [vl])
          · exact (Sub.cons rfl (Sub.cons rfl (Sub.cons rfl (Sub.cons rfl (Sub.cons rfl (Sub.nil _))))))
          · exact ⟨by dsimp only; omega, K11, Nat.le_trans z6 (Nat.le_trans K9.1 (Nat.le_trans k10.1 k11.1)), x411, x11, o10.only k11 hv10, by dsimp only; rw [List.length_append, lR]; rfl, s11, R11, c9⟩
          · dsimp only; omega
      · have c9 := c9
        obtain s9f := fin9 (.inr (by omega))
        refine runJ ?_
        (refine s_app1V (bytes := 24) (vl) oR9 ex9 rfl rfl rfl rfl rfl rfl rfl rfl rfl (by first | exact rfl | exact congrArg some (congrArg I (by omega))) o9.sl.one rfl rfl (fun _ _ => trivial) (by omega) (by simp only [maxLen]; omega) ?_)
        intro v10 h10 o10 e10 k10 b10
        rw [hsz9] at o10
        have o10one := o10.sl.one
        have x510 := x59.only k10 hn5R
        have x410 := x49.only k10 hn4R
        refine runJ ?_
        (apply s_storeC; exact rfl; exact rfl; (first | exact rfl | exact SlF.one (by assumption) | exact SlF.one (OwnF.sl (by assumption)) | exact Var.one (by assumption)); exact rfl; exact rfl; exact x510; exact rfl)
        intro h11 x11 k11
        refine ⟨(by first | exact trivial | exact Ext.refl _ | assumption | exact Ext.only (by assumption) _ | exact Only.trans (Ext.only (by assumption) _) (by assumption)), ?_⟩
        have hR10 : ∀ i, vR.ownBlock = some i → h3.size ≤ i := fun i hi => (oR.blk i hi).1
        have s11 := (s9f.high k10 fun i hi => by have := hR10 i hi; omega).high k11 fun i hi => by rw [b2] at hi; have := Option.some.inj hi; omega
        have R11 := (R9.high k10 hvq fun i hi => by have := hR10 i hi; omega).high k11 hvq fun i hi => by rw [b2] at hi; have := Option.some.inj hi; omega
        have x411 := x410.only k11 hn45
        have hv10 : v10.ownBlock = none ∨ v10.ownBlock ≠ pblk p5 := by
          rw [b2]
          cases hv : v10.ownBlock with
          | none => exact .inl rfl
          | some i => exact .inr fun e => by have := Option.some.inj e; have := (o10.blk i hv).1; omega
        have K10 : Only (pblk r) h h10 := only_own (K6.trans K9) k10 fun i hi => by have := hR10 i hi; omega
        have K11 : Only (pblk r) h h11 := only_own K10 k11 fun i hi => by rw [b2] at hi; have := Option.some.inj hi; omega
        refine runJ ?_
        apply again_normal (j + 1, e9, v10, vs ++ [vl])
        · exact (Sub.cons rfl (Sub.cons rfl (Sub.cons rfl (Sub.cons rfl (Sub.cons rfl (Sub.nil _))))))
        · exact ⟨by dsimp only; omega, K11, Nat.le_trans z6 (Nat.le_trans K9.1 (Nat.le_trans k10.1 k11.1)), x411, x11, o10.only k11 hv10, by dsimp only; rw [List.length_append, lR]; rfl, s11, R11, c9⟩
        · dsimp only; omega
    · skip
      have s8 := fin (.inl he0)
      refine runJ ?_
      (apply s_storeV; exact rfl; exact rfl; exact rfl; exact (OneAll.cons oR.sl.one OneAll.nil : OneAll [vR]); exact rfl; exact rfl; exact x46; exact rfl)
      intro h7 x7 k7
      refine ⟨trivial, ?_⟩
      have x7 : Var h7 p4 37 [vR] := x7
      refine runJ ?_
      exact finC rfl rfl x7 rfl rfl ⟨only_own K6 k7 fun i hi => by rw [b1] at hi; have := Option.some.inj hi; omega, vR, e, rfl, oR.sl.one, s8.high k7 fun i hi => by rw [b1] at hi; have := Option.some.inj hi; omega, c6⟩
  · skip
    have s8 := fin (.inr (by omega))
    refine runJ ?_
    (apply s_storeV; exact rfl; exact rfl; exact rfl; exact (OneAll.cons oR.sl.one OneAll.nil : OneAll [vR]); exact rfl; exact rfl; exact x46; exact rfl)
    intro h7 x7 k7
    refine ⟨trivial, ?_⟩
    have x7 : Var h7 p4 37 [vR] := x7
    refine runJ ?_
    exact finC rfl rfl x7 rfl rfl ⟨only_own K6 k7 fun i hi => by rw [b1] at hi; have := Option.some.inj hi; omega, vR, e, rfl, oR.sl.one, s8.high k7 fun i hi => by rw [b1] at hi; have := Option.some.inj hi; omega, c6⟩
end Go.Proofs.YtfcmdefigldpnaaDoor

/- Package pack: parameters and a secret are read. Condition: the table of math/bits reads as it is laid. -/
namespace Go.Proofs.YtfcmdefigldpnaaDoor
set_option linter.unusedVariables false
set_option maxRecDepth 8000
open Go Go.Den Go.RowKit Go.Dig

/-- Bytes that are handed in. -/
structure BytAt (h : Hp) (vb : Value) (bs : List Nat) : Prop where mk ::
  row : SlF h Y vb bs
  lo : ∀ j, vb.ownBlock = some j → j < h.size
  al : ∀ b ∈ bs, b < 256
  ln : bs.length < 4611686018427387904
theorem tb_only {h h' : Hp} {r : Option Nat} (T : TB h) (k : Only r h h') (hr : ∀ j, r = some j → h.size ≤ j) : TB h' :=
  T.ext ⟨k.1, fun i hi => k.2 i hi fun e => by have := hr i e.symm; omega⟩
theorem ext_only {h0 h h' : Hp} {r : Option Nat} (e : Ext h0 h) (k : Only r h h') (hr : ∀ j, r = some j → h0.size ≤ j) : Ext h0 h' := k.old e hr

theorem Tryd_ent37 : Ent Tryd.prog 37 := ent_of Tryd.func37 (by kernel_rfl) rfl
set_option maxHeartbeats 2000000 in
theorem readParams_spec (vb : Value) (bs : List Nat) (md : Option (List Nat)) (n t w : Nat) (q : List Nat) (vq0 : Value) (h : Hp) (T : TB h) (b : BytAt h vb bs) (hR : Rl md bs (hdrB 1 n t w q ++ [])) (hn : n < 65536) (ht : t < 4294967296) (hw : w < 256) (hq : q.length < 256) (hqa : ∀ x ∈ q, x < 18446744073709551616)
    (P : parP ⟨(n : Int), t, vq0, q, (w : Int)⟩) :
    CallsH Tryd.prog 37 [vb] h fun v' h' => Ext h h' ∧ ∃ p : ParD, v' = .tuple #[.agg p.cells.toArray, N (endE md)] ∧ p.vq.oneCell' = true ∧ (endE md = 0 → p.t = t) := by
  have row := b.row
  have hone := row.one
  (apply enter Tryd.func37 rfl Tryd.ntmps37 rfl)
  refine runJ ?_
  (apply s_alloc; exact rfl; exact rfl; exact rfl)
  intro p2 h1 x1 e1 b1
  (try dsimp only [Value.cells, List.toList_toArray] at x1)
  refine ⟨(by first | exact trivial | exact Ext.refl _ | assumption | exact Ext.trans (by assumption) (by assumption)), ?_⟩
  have x1 : Var h1 p2 25 [I 0, U 0, .slice none 0 0, I 0] := x1
  refine runJ ?_
  (apply (s_build ([vb, I 0, U 0, .slice none 0 0, I 0, N 0])); exact rfl; exact rfl; exact rfl; (repeat (first | exact CellsAll.nil | (apply CellsAll.cons; (first | exact oneL (by assumption) | exact oneL (SlF.one (by assumption)) | exact oneL (SlF.one (OwnF.sl (by assumption))) | exact oneL (Var.one (by assumption)) | exact rfl)))); exact rfl; exact rfl)
  refine runJ ?_
  (apply s_box; exact rfl; exact rfl; exact rfl; exact rfl)
  intro r h2 x2 e2 b2
  (try dsimp only [Value.cells, List.toList_toArray] at x2)
  refine ⟨(by first | exact trivial | exact Ext.refl _ | assumption | exact Ext.trans (by assumption) (by assumption)), ?_⟩
  have x2 : Var h2 r 101 [vb, I 0, U 0, .slice none 0 0, I 0, N 0] := x2
  have E2 := e1.trans e2
  have hs1 : h.size < h1.size := by obtain ⟨j, hj, hl⟩ := x1.blk; rw [b1] at hj; cases hj; exact hl
  have s2 : RdAt h2 r h1.size md (hdrB 1 n t w q ++ []) 0 parZ := ⟨vb, bs, ⟨b2, x2, row.ext E2, fun j hj => by have := b.lo j hj; omega, b.al, b.ln⟩, .inl ⟨rfl, hR⟩⟩
  have x12 := x1.ext e2
  have nr2 : pblk p2 ≠ pblk r := by rw [b1, b2]; intro e; have := Option.some.inj e; omega
  refine runJ ?_
  apply (s_call Tryd_ent44 rfl rfl rfl)
  refine (rstart_spec r h1.size 1 n t w md q [] vq0 h2 (fun h' k => tb_only (T.ext e1) ⟨Nat.le_trans e2.1 k.1, fun i hi hn => (k.2 i (Nat.lt_of_lt_of_le hi e2.1) hn).trans (e2.2 i hi)⟩ fun j hj => by rw [b2] at hj; have := Option.some.inj hj; omega) s2 (by decide) hn ht hw hq hqa P).mono ?_
  rintro _ h3 ⟨k3, e, p, s3, R3, c3⟩
  refine ⟨(by first | exact trivial | exact trivial), ?_⟩
  have x13 := x12.only k3 nr2
  refine runJ ?_
  apply (s_call Tryd_ent48 rfl rfl rfl)
  refine (rend_spec r h1.size e md p h3 s3).mono ?_
  rintro _ h4 ⟨k4, rfl, vb4, bs4, e4, S4⟩
  refine ⟨(by first | exact trivial | exact trivial), ?_⟩
  have x14 := x13.only k4 nr2
  have E4 : Ext h h4 := ext_only E2 (k3.trans k4) fun j hj => by rw [b2] at hj; have := Option.some.inj hj; omega
  have x4 := S4.var
  refine runJ ?_
  (apply w_condD; exact rfl; exact rfl) <;> intro hE
  · refine runJ ?_
    (apply (s_build ([I 0, U 0, .slice none 0 0, I 0])); exact rfl; exact rfl; exact rfl; (repeat (first | exact CellsAll.nil | (apply CellsAll.cons; (first | exact oneL (by assumption) | exact oneL (SlF.one (by assumption)) | exact oneL (SlF.one (OwnF.sl (by assumption))) | exact oneL (Var.one (by assumption)) | exact rfl)))); exact rfl; exact rfl)
    refine runJ ?_
    (apply s_storeV; exact rfl; exact rfl; exact rfl; (repeat (first | exact OneAll.nil | (apply OneAll.cons; (first | exact rfl | exact SlF.one (by assumption) | exact SlF.one (OwnF.sl (by assumption)) | exact Var.one (by assumption))))); exact rfl; exact rfl; exact x14; exact rfl)
    intro h5 x5 k5
    (try dsimp only [Value.cells, List.toList_toArray] at x5)
    refine ⟨(by first | exact trivial | exact Ext.refl _ | assumption | exact Ext.only (by assumption) _ | exact Only.trans (Ext.only (by assumption) _) (by assumption)), ?_⟩
    have x5 : Var h5 p2 25 [I 0, U 0, .slice none 0 0, I 0] := x5
    refine runJ ?_
    exact finCT rfl rfl rfl x5 rfl rfl ⟨k5.oldV E4 b1 (Nat.le_refl _), parZ, rfl, rfl, fun h => absurd h hE⟩
  · refine runJ ?_
    refine s_loadA [I p.n, U p.t, p.vq, I p.w] (off := 1) rfl rfl (rd_plain x4) rfl rfl rfl ?_
    refine runJ ?_
    have hone := R3.own.sl.one
    (apply s_storeV; exact rfl; exact rfl; exact rfl; exact (OneAll.cons rfl (OneAll.cons rfl (OneAll.cons hone (OneAll.cons rfl OneAll.nil))) : OneAll [I p.n, U p.t, p.vq, I p.w]); exact rfl; exact rfl; exact x14; exact rfl)
    intro h5 x5 k5
    refine ⟨trivial, ?_⟩
    have x5 : Var h5 p2 25 [I p.n, U p.t, p.vq, I p.w] := x5
    have hE : endE md = 0 := by omega
    rw [hE]
    refine runJ ?_
    refine finCT rfl rfl rfl x5 rfl rfl ⟨k5.oldV E4 b1 (Nat.le_refl _), p, rfl, hone, fun _ => ?_⟩
    obtain ⟨_, _, -, hc | hc⟩ := s3
    · exact (c3 hc.1).2.1
    · rw [hc.2] at hE; cases hE

theorem Tryd_ent27 : Ent Tryd.prog 27 := ent_of Tryd.func27 (by kernel_rfl) rfl
set_option maxHeartbeats 2000000 in
theorem readSecret_spec (vb : Value) (bs : List Nat) (md : Option (List Nat)) (n t w : Nat) (q : List Nat) (ss : List Nat) (vq0 : Value) (h : Hp) (T : TB h) (b : BytAt h vb bs) (hR : Rl md bs (hdrB 4 n t w q ++ ss)) (hn : n < 65536) (ht : t < 4294967296) (hw : w < 256) (hq : q.length < 256) (hqa : ∀ x ∈ q, x < 18446744073709551616)
    (P : parP ⟨(n : Int), t, vq0, q, (w : Int)⟩) (hl : ss.length = n) (ha : ∀ x ∈ ss, x ≤ 2) (hE : endE md ≠ 0) :
    CallsH Tryd.prog 27 [vb] h fun v' h' => Ext h h' ∧ v' = .tuple #[.agg #[I 0, U 0, .slice none 0 0, I 0], .slice none 0 0, N (endE md)] := by
  have row := b.row
  have hone := row.one
  (apply enter Tryd.func27 rfl Tryd.ntmps27 rfl)
  refine runJ ?_
  (apply s_alloc; exact rfl; exact rfl; exact rfl)
  intro p2 h1 x1 e1 b1
  (try dsimp only [Value.cells, List.toList_toArray] at x1)
  refine ⟨(by first | exact trivial | exact Ext.refl _ | assumption | exact Ext.trans (by assumption) (by assumption)), ?_⟩
  have x1 : Var h1 p2 25 [I 0, U 0, .slice none 0 0, I 0] := x1
  refine runJ ?_
  (apply (s_build ([vb, I 0, U 0, .slice none 0 0, I 0, N 0])); exact rfl; exact rfl; exact rfl; (repeat (first | exact CellsAll.nil | (apply CellsAll.cons; (first | exact oneL (by assumption) | exact oneL (SlF.one (by assumption)) | exact oneL (SlF.one (OwnF.sl (by assumption))) | exact oneL (Var.one (by assumption)) | exact rfl)))); exact rfl; exact rfl)
  refine runJ ?_
  (apply s_box; exact rfl; exact rfl; exact rfl; exact rfl)
  intro r h2 x2 e2 b2
  (try dsimp only [Value.cells, List.toList_toArray] at x2)
  refine ⟨(by first | exact trivial | exact Ext.refl _ | assumption | exact Ext.trans (by assumption) (by assumption)), ?_⟩
  have x2 : Var h2 r 101 [vb, I 0, U 0, .slice none 0 0, I 0, N 0] := x2
  have E2 := e1.trans e2
  have hs1 : h.size < h1.size := by obtain ⟨j, hj, hl⟩ := x1.blk; rw [b1] at hj; cases hj; exact hl
  have hs2 : h1.size < h2.size := by obtain ⟨j, hj, hl⟩ := x2.blk; rw [b2] at hj; cases hj; exact hl
  have s2 : RdAt h2 r h1.size md (hdrB 4 n t w q ++ ss) 0 parZ := ⟨vb, bs, ⟨b2, x2, row.ext E2, fun j hj => by have := b.lo j hj; omega, b.al, b.ln⟩, .inl ⟨rfl, hR⟩⟩
  have x12 := x1.ext e2
  have nr2 : pblk p2 ≠ pblk r := by rw [b1, b2]; intro e; have := Option.some.inj e; omega
  refine runJ ?_
  apply (s_call Tryd_ent44 rfl rfl rfl)
  refine (rstart_spec r h1.size 4 n t w md q ss vq0 h2 (fun h' k => tb_only (T.ext e1) ⟨Nat.le_trans e2.1 k.1, fun i hi hn => (k.2 i (Nat.lt_of_lt_of_le hi e2.1) hn).trans (e2.2 i hi)⟩ fun j hj => by rw [b2] at hj; have := Option.some.inj hj; omega) s2 (by decide) hn ht hw hq hqa P).mono ?_
  rintro _ h3 ⟨k3, e3, p, s3, R3, c3⟩
  refine ⟨(by first | exact trivial | exact trivial), ?_⟩
  have x13 := x12.only k3 nr2
  have E3 : Ext h h3 := ext_only E2 k3 fun j hj => by rw [b2] at hj; have := Option.some.inj hj; omega
  have hvq : ∀ j, p.vq.ownBlock = some j → j < h3.size := fun j hj => (R3.own.blk j hj).2
  obtain ⟨pn, hpn⟩ : ∃ pn : Nat, p.n = (pn : Int) := ⟨p.n.toNat, by have := R3.n0.1; omega⟩
  have hpn6 : pn < 65536 := by have := R3.n0.2; omega
  refine runJ ?_
  (first | (apply w_seqB; exact rfl; apply w_block; exact rfl) | skip)
  apply (w_loop (σ := Nat × Nat × Value × List Int) rfl (fun j => [(2, p2), (5, r), (6, j.2.2.1), (7, N j.1)])
    (fun j h' => j.1 ≤ pn ∧ Ext h h' ∧ h3.size ≤ h'.size ∧ Var h' p2 25 [I 0, U 0, .slice none 0 0, I 0] ∧ OwnF h' h3.size 2 I j.2.2.1 j.2.2.2 ∧ j.2.2.2.length = j.1 ∧ RdAt h' r h1.size md (ss.drop j.1) j.2.1 p ∧ (j.2.1 = 0 → pn = n)) (fun j => pn - j.1) (0, e3, .slice none 0 0, []))
  · exact (Sub.cons rfl (Sub.cons rfl (Sub.cons rfl (Sub.cons rfl (Sub.nil _)))))
  · exact ⟨Nat.zero_le _, E3, Nat.le_refl _, x13, OwnF.nil _ _ _ _, rfl, s3, fun h0 => by have := (c3 h0).1; omega⟩
  rintro ⟨j, e, vS, ls⟩ h6 ⟨j1, E6, z6, x6, o6, l6, s6, c6⟩
  dsimp only at j1 o6 l6 s6 c6 ⊢
  obtain ⟨vb6, bs6, S6, T6⟩ := id s6
  have xr6 := S6.var
  rw [hpn] at xr6
  refine runJ ?_
  have fin : (e ≠ 0 ∨ j = pn) → RdAt h6 r h1.size md [] e p := by
    intro hE
    rcases s6.e2 with rfl | rfl
    · have hj : j = ss.length := by
        rcases hE with h | h
        · exact absurd rfl h
        · have := c6 rfl; omega
      subst hj
      rw [List.drop_length] at s6
      exact s6
    · exact s6.any _
  (apply s_splitG; exact rfl; exact rfl; exact rfl; exact rfl) <;> intro g1
  · refine runJ ?_
    (apply w_condD; exact rfl; exact rfl) <;> intro he
    · subst he
      have hpn' := c6 rfl
      obtain ⟨x, hx⟩ := get_lt (l := ss) (j := j) (by omega)
      have hx2 := ha x (List.mem_of_getElem? hx)
      have hd : ss.drop j = [x] ++ ss.drop (j + 1) := by
        obtain ⟨hlt, rfl⟩ := List.getElem?_eq_some_iff.1 hx
        rw [List.drop_eq_getElem_cons hlt]; rfl
      rw [hd] at s6
      refine runJ ?_
      apply (s_call Tryd_ent45 rfl rfl rfl)
      refine (rnumber_spec r h1.size 0 md [x] _ p h6 s6 (by simp)).mono ?_
      rintro _ h10 ⟨k10, y, e10, rfl, s10, b10, c10⟩
      refine ⟨(by first | exact trivial | exact trivial), ?_⟩
      have b10' : y < 256 := b10
      have vx : vB [x] = x := by unfold vB; simp
      rw [vx] at c10
      refine runJ ?_
      apply (s_call Tryd_ent46 rfl rfl rfl)
      refine (failR_spec r h1.size e10 3 md _ p _ h10 s10 (fun h0 => by rw [(c10 h0).2]; exact decide_eq_false (by omega))).mono ?_
      rintro _ h11 ⟨k11, s11⟩
      refine ⟨(by first | exact trivial | exact trivial), ?_⟩
      have K11 := k10.trans k11
      have hlk : vS.ownBlock = none ∨ vS.ownBlock ≠ pblk r := by
        rw [b2]
        cases hv : vS.ownBlock with
        | none => exact .inl rfl
        | some i => exact .inr fun e => by have := Option.some.inj e; have := (o6.blk i hv).1; have := k3.1; omega
      have o11 := o6.only K11 hlk
      obtain ⟨hsz, ex11⟩ := cutH_ext (Nat.le_trans z6 K11.1)
      rw [← hsz] at o11
      have x11 := x6.only K11 nr2
      have E11 : Ext h h11 := ext_only E6 K11 fun j hj => by rw [b2] at hj; have := Option.some.inj hj; omega
      have hy1 : y &&& 1 ≤ 1 := Nat.and_le_right
      have hls : ls.length ≤ 65536 := by omega
      refine runJ ?_
      generalize hiv : ((y &&& 1 : Nat) : Int) - ((y / 2 ^ 1 : Nat) : Int) = iv
      (refine s_app1 (bytes := 8) (iv) o11 ex11 rfl rfl rfl rfl rfl rfl rfl rfl rfl (by first | exact rfl | exact congrArg some (congrArg I (by omega))) (fun _ => rfl) rfl rfl (fun _ _ => trivial) (by omega) (by simp only [maxLen]; omega) ?_)
      intro v12 h12 o12 e12 k12 b12
      rw [hsz] at o12
      have hbl : ∀ b, vS.ownBlock = some b → h3.size ≤ b := fun b hb => (o6.blk b hb).1
      have h23 := k3.1
      refine runJ ?_
      apply again_normal (j + 1, e10, v12, ls ++ [iv])
      · exact (Sub.cons rfl (Sub.cons rfl (Sub.cons rfl (Sub.cons rfl (Sub.nil _)))))
      · exact ⟨by dsimp only; omega, ext_only E11 k12 fun b hb => by have := hbl b hb; omega, Nat.le_trans z6 (Nat.le_trans K11.1 k12.1), x11.only k12 (by rw [b1]; intro e; have := hbl _ e.symm; omega), o12, by dsimp only; rw [List.length_append, l6]; rfl, s11.high k12 fun b hb => by have := hbl b hb; omega, fun _ => hpn'⟩
      · dsimp only; omega
    · skip
      have s7 := fin (.inl he)
      refine runJ ?_
      apply (s_call Tryd_ent48 rfl rfl rfl)
      refine (rend_spec r h1.size e md p h6 s7).mono ?_
      rintro _ h7 ⟨k7, rfl, vb7, bs7, e7, S7⟩
      refine ⟨(by first | exact trivial | exact trivial), ?_⟩
      have x7 := x6.only k7 nr2
      have E7 : Ext h h7 := ext_only E6 k7 fun j hj => by rw [b2] at hj; have := Option.some.inj hj; omega
      refine runJ ?_
      (apply w_condT; exact rfl; exact rfl; exact hE)
      refine runJ ?_
      (apply (s_build ([I 0, U 0, .slice none 0 0, I 0])); exact rfl; exact rfl; exact rfl; (repeat (first | exact CellsAll.nil | (apply CellsAll.cons; (first | exact oneL (by assumption) | exact oneL (SlF.one (by assumption)) | exact oneL (SlF.one (OwnF.sl (by assumption))) | exact oneL (Var.one (by assumption)) | exact rfl)))); exact rfl; exact rfl)
      refine runJ ?_
      (apply s_storeV; exact rfl; exact rfl; exact rfl; (repeat (first | exact OneAll.nil | (apply OneAll.cons; (first | exact rfl | exact SlF.one (by assumption) | exact SlF.one (OwnF.sl (by assumption)) | exact Var.one (by assumption))))); exact rfl; exact rfl; exact x7; exact rfl)
      intro h8 x8 k8
      (try dsimp only [Value.cells, List.toList_toArray] at x8)
      refine ⟨(by first | exact trivial | exact Ext.refl _ | assumption | exact Ext.only (by assumption) _ | exact Only.trans (Ext.only (by assumption) _) (by assumption)), ?_⟩
      have x8 : Var h8 p2 25 [I 0, U 0, .slice none 0 0, I 0] := x8
      refine runJ ?_
      exact finCTT rfl rfl rfl rfl x8 rfl rfl ⟨k8.oldV E7 b1 (Nat.le_refl _), rfl⟩
  · skip
    have s7 := fin (.inr (by omega))
    refine runJ ?_
    apply (s_call Tryd_ent48 rfl rfl rfl)
    refine (rend_spec r h1.size e md p h6 s7).mono ?_
    rintro _ h7 ⟨k7, rfl, vb7, bs7, e7, S7⟩
    refine ⟨(by first | exact trivial | exact trivial), ?_⟩
    have x7 := x6.only k7 nr2
    have E7 : Ext h h7 := ext_only E6 k7 fun j hj => by rw [b2] at hj; have := Option.some.inj hj; omega
    refine runJ ?_
    (apply w_condT; exact rfl; exact rfl; exact hE)
    refine runJ ?_
    (apply (s_build ([I 0, U 0, .slice none 0 0, I 0])); exact rfl; exact rfl; exact rfl; (repeat (first | exact CellsAll.nil | (apply CellsAll.cons; (first | exact oneL (by assumption) | exact oneL (SlF.one (by assumption)) | exact oneL (SlF.one (OwnF.sl (by assumption))) | exact oneL (Var.one (by assumption)) | exact rfl)))); exact rfl; exact rfl)
    refine runJ ?_
    (apply s_storeV; exact rfl; exact rfl; exact rfl; (repeat (first | exact OneAll.nil | (apply OneAll.cons; (first | exact rfl | exact SlF.one (by assumption) | exact SlF.one (OwnF.sl (by assumption)) | exact Var.one (by assumption))))); exact rfl; exact rfl; exact x7; exact rfl)
    intro h8 x8 k8
    (try dsimp only [Value.cells, List.toList_toArray] at x8)
    refine ⟨(by first | exact trivial | exact Ext.refl _ | assumption | exact Ext.only (by assumption) _ | exact Only.trans (Ext.only (by assumption) _) (by assumption)), ?_⟩
    have x8 : Var h8 p2 25 [I 0, U 0, .slice none 0 0, I 0] := x8
    refine runJ ?_
    exact finCTT rfl rfl rfl rfl x8 rfl rfl ⟨k8.oldV E7 b1 (Nat.le_refl _), rfl⟩
end Go.Proofs.YtfcmdefigldpnaaDoor
