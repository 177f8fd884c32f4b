/- Texts BouA to BouC of this work, joined: each says in its own head what it proves, and of which condition. -/
import Derived.Test.YtajgcmgkhmkmbaaDoorMBou22
/- Package bound: a place, and its sum that grows. Condition of what tests primes: the table of math/bits reads as it is laid. -/
namespace Go.Proofs.YtajgcmgkhmkmbaaDoor
set_option linter.unusedVariables false
set_option maxRecDepth 8000
open Go Go.Den Go.RowKit Go.Dig

abbrev B64 : Nat := 18446744073709551616

/-- A row of numbers. -/
structure RowN (h : Hp) (v : Value) (rows : List (Value × List Nat)) : Prop where mk ::
  row : SlF h Prod.fst v rows
  nat : ∀ x ∈ rows, SlF h U x.1 x.2 ∧ Al 18446744073709551616 x.2 ∧ x.2.length < 10000
theorem RowN.ext {h h' : Hp} {v : Value} {rows : List (Value × List Nat)} (s : RowN h v rows) (e : Ext h h') : RowN h' v rows := ⟨s.row.ext e, fun x hx => ⟨(s.nat x hx).1.ext e, (s.nat x hx).2⟩⟩

def prodR (rows : List (Value × List Nat)) : Nat := rows.foldl (fun n x => n * vl 18446744073709551616 x.2) 1
theorem prodR_snoc (rows : List (Value × List Nat)) (x : Value × List Nat) : prodR (rows ++ [x]) = prodR rows * vl 18446744073709551616 x.2 := by unfold prodR; rw [List.foldl_append]; rfl

theorem Tryd_ent61 : Ent Tryd.prog 61 := ent_of Tryd.func61 (by kernel_rfl) rfl
theorem up_spec (va vb : Value) (xs ys : List Nat) (h : Hp) (ha : SlF h U va xs) (hb : SlF h U vb ys) (hx : Al 18446744073709551616 xs) (hy : Al 18446744073709551616 ys) (hl : xs.length < 1000000) (hl2 : ys.length < 1000000) (h0 : 0 < vl 18446744073709551616 ys) :
    CallsH Tryd.prog 61 [va, vb] h fun v' h' => Ext h h' ∧ OwnF h' h.size 31 U v' (dg 18446744073709551616 ((vl 18446744073709551616 xs + vl 18446744073709551616 ys - 1) / vl 18446744073709551616 ys)) := by
  have b64 : (1 : Nat) < 18446744073709551616 := by decide
  have b640 : (0 : Nat) < 18446744073709551616 := by decide
  have hne : ¬ vl 18446744073709551616 ys = 0 := by omega
  have D := ndiv_spec va vb xs ys h ha hb hx hy (by omega) (by omega)
  simp only [hne, if_false] at D
  have hlx := vl_lt hx
  have hly := vl_lt hy
  generalize vl 18446744073709551616 xs = x at *
  generalize vl 18446744073709551616 ys = y at *
  have hq : (dg 18446744073709551616 (x / y)).length < 1099511627776 := by
    have := dg_len (b := 18446744073709551616) (n := x / y) (k := xs.length) b64 (Nat.lt_of_le_of_lt (Nat.div_le_self _ _) hlx)
    omega
  have hr : (dg 18446744073709551616 (x % y)).length < 1099511627776 := by
    have := dg_len (b := 18446744073709551616) (n := x % y) (k := ys.length) b64 (Nat.lt_trans (Nat.mod_lt _ h0) hly)
    omega
  (apply enter Tryd.func61 rfl Tryd.ntmps61 rfl)
  refine runJ ?_
  apply (s_call Tryd_ent42 rfl rfl rfl)
  refine (D).mono ?_
  rintro _ h1 ⟨q, r, rfl, e1, oq, or⟩
  refine ⟨(by first | exact trivial | exact trivial), ?_⟩
  have B := bits_spec r _ h1 or.sl (al_dg b640 _) hr
  rw [vl_dg b64] at B
  refine runJ ?_
  apply (s_call Tryd_ent78 rfl rfl rfl)
  refine (B).mono ?_
  rintro _ _ ⟨rfl, rfl⟩
  refine ⟨(by first | exact trivial | exact trivial), ?_⟩
  refine runJ ?_
  have hdm := Nat.div_add_mod x y
  (apply w_condD; exact rfl; exact rfl) <;> intro hz
  · refine runJ ?_
    (apply (s_litF (f := U) [1] (fun _ => rfl)); exact rfl; exact rfl; exact rfl; exact rfl; exact rfl; exact rfl; exact rfl; exact rfl; omega)
    intro w2 h2 o2 e2 b2
    refine ⟨(by first | exact trivial | exact Ext.refl _ | assumption | exact Ext.trans (by assumption) (by assumption)), ?_⟩
    have A := nadd_spec q w2 _ [1] h2 (oq.sl.ext e2) o2.sl (al_dg b640 _) (by intro x hx; simp at hx; omega) hq (by decide)
    rw [vl_dg b64, show vl 18446744073709551616 [1] = 1 from rfl] at A
    refine runJ ?_
    apply (s_call Tryd_ent58 rfl rfl rfl)
    refine (A).mono ?_
    rintro w3 h3 ⟨e3, o3⟩
    refine ⟨(by first | exact trivial | exact trivial), ?_⟩
    refine runJ ?_
    have hz : 0 < x % y := Nat.pos_of_ne_zero fun e => by rw [e] at hz; exact absurd hz (by decide)
    have he : (x + y - 1) / y = x / y + 1 := by
      rw [show x + y - 1 = (x % y - 1) + y * (x / y + 1) by rw [Nat.mul_add]; omega, Nat.add_mul_div_left _ _ h0, Nat.div_eq_of_lt (by have := Nat.mod_lt x h0; omega)]
      omega
    rw [he]
    exact fin1 rfl rfl ⟨(e1.trans e2).trans e3, o3.base (Nat.le_trans e1.1 e2.1)⟩
  · refine runJ ?_
    have hz : x % y = 0 := by
      by_cases e : x % y = 0
      · exact e
      · exact absurd (show 0 < nb (x % y) by unfold nb; rw [if_neg e]; omega) hz
    have he : (x + y - 1) / y = x / y := by
      rw [show x + y - 1 = (y - 1) + y * (x / y) by omega, Nat.add_mul_div_left _ _ h0, Nat.div_eq_of_lt (by omega)]
      omega
    rw [he]
    exact fin1 rfl rfl ⟨e1, oq⟩

theorem prodR_len {h : Hp} {v : Value} {rows : List (Value × List Nat)} (R : RowN h v rows) (hl : rows.length ≤ 10) : ∀ j, j ≤ rows.length → (dg 18446744073709551616 (prodR (rows.take j))).length ≤ 1 + j * 10000
  | 0, _ => by simp [prodR]; decide
  | j + 1, hj => by
    obtain ⟨x, hx⟩ := get_lt hj
    have ih := prodR_len R hl j (by omega)
    obtain ⟨-, ha, hb⟩ := R.nat x (List.mem_of_getElem? hx)
    rw [take_snoc hx, prodR_snoc]
    have h1 := dg_lt (b := 18446744073709551616) (by decide) (prodR (rows.take j))
    have h2 := vl_lt ha
    refine Nat.le_trans (dg_len (k := (dg 18446744073709551616 (prodR (rows.take j))).length + x.2.length) (by decide) ?_) (by omega)
    rw [Nat.pow_add]
    exact Nat.mul_lt_mul'' h1 h2

theorem Tryd_ent60 : Ent Tryd.prog 60 := ent_of Tryd.func60 (by kernel_rfl) rfl
set_option maxHeartbeats 1000000 in
theorem padd_spec (g vS v : Value) (c0 c1 c2 c3 c4 c5 : Value) (S : Nat) (rows : List (Value × List Nat)) (h : Hp) (G : Var h g 86 [c0, c1, c2, c3, c4, c5, vS]) (sS : SlF h U vS (dg 18446744073709551616 S)) (R : RowN h v rows) (hl : rows.length ≤ 10) (lS : (dg 18446744073709551616 S).length < 10000000) :
    CallsH Tryd.prog 60 [g, v] h fun v' h' => v' = g ∧ Only (pblk g) h h' ∧ ∃ vS', Var h' g 86 [c0, c1, c2, c3, c4, c5, vS'] ∧ OwnF h' h.size 31 U vS' (dg 18446744073709551616 (S + prodR rows)) := by
  have b64 : (1 : Nat) < 18446744073709551616 := by decide
  have b640 : (0 : Nat) < 18446744073709551616 := by decide
  obtain ⟨gb, hgb, hgl⟩ := G.blk
  have RL := prodR_len R hl
  have r0 := R.row
  (apply enter Tryd.func60 rfl Tryd.ntmps60 rfl)
  refine runJ ?_
  (apply (s_litF (f := U) [1] (fun _ => rfl)); exact rfl; exact rfl; exact rfl; exact rfl; exact rfl; exact rfl; exact rfl; exact rfl; omega)
  intro w1 h1 o1 e1 b1
  refine ⟨(by first | exact trivial | exact Ext.refl _ | assumption | exact Ext.trans (by assumption) (by assumption)), ?_⟩
  refine runJ ?_
  (first | (apply w_seqB; exact rfl; apply w_block; exact rfl) | skip)
  apply (w_loop (σ := Nat × Value) rfl (fun j => [(0, g), (1, v), (5, j.2), (9, v), (10, N rows.length), (11, N j.1)])
    (fun j h' => Ext h h' ∧ j.1 ≤ rows.length ∧ OwnF h' h.size 31 U j.2 (dg 18446744073709551616 (prodR (rows.take j.1)))) (fun j => rows.length - j.1) (0, w1))
  · exact (Sub.cons rfl (Sub.cons rfl (Sub.cons rfl (Sub.cons rfl (Sub.cons rfl (Sub.cons rfl (Sub.nil _)))))))
  · exact ⟨e1, Nat.zero_le _, o1⟩
  rintro ⟨j, w⟩ h2 ⟨e2, j1, j2⟩
  dsimp only at e2 j1 j2 ⊢
  have R2 := R.ext e2
  have r2 := R2.row
  have hw := RL j j1
  refine runJ ?_
  (apply w_condD; exact rfl; exact rfl) <;> intro hj
  · obtain ⟨x, hx⟩ := get_lt hj
    obtain ⟨n1, n2, n3⟩ := R2.nat x (List.mem_of_getElem? hx)
    have M := nmul_spec w x.1 _ x.2 h2 j2.sl n1 (al_dg b640 _) n2 (by omega) (by omega)
    rw [vl_dg b64, ← prodR_snoc, ← take_snoc hx] at M
    refine runJ ?_
    apply (s_call Tryd_ent65 rfl rfl rfl)
    refine (M).mono ?_
    rintro w3 h3 ⟨e3, o3⟩
    refine ⟨(by first | exact trivial | exact trivial), ?_⟩
    refine runJ ?_
    apply again_normal (j + 1, w3)
    · exact (Sub.cons rfl (Sub.cons rfl (Sub.cons rfl (Sub.cons rfl (Sub.cons rfl (Sub.cons rfl (Sub.nil _)))))))
    · exact ⟨e2.trans e3, hj, o3.base e2.1⟩
    · dsimp only; omega
  · have hj' : j = rows.length := by omega
    subst hj'
    rw [List.take_length] at j2 hw
    have G2 := G.ext e2
    have A := nadd_spec vS w _ _ h2 (sS.ext e2) j2.sl (al_dg b640 _) (al_dg b640 _) (by omega) (by omega)
    rw [vl_dg b64, vl_dg b64] at A
    refine runJ ?_
    apply (s_call Tryd_ent58 rfl rfl rfl)
    refine (A).mono ?_
    rintro w3 h3 ⟨e3, o3⟩
    refine ⟨(by first | exact trivial | exact trivial), ?_⟩
    have G3 := G2.ext e3
    refine runJ ?_
    (apply s_storeC; exact rfl; exact rfl; (first | exact rfl | exact SlF.one (by assumption) | exact SlF.one (OwnF.sl (by assumption)) | exact Var.one (by assumption)); exact rfl; exact rfl; exact G3; exact rfl)
    intro h4 G4 k4
    refine ⟨(by first | exact trivial | exact Ext.refl _ | assumption | exact Ext.only (by assumption) _ | exact Only.trans (Ext.only (by assumption) _) (by assumption)), ?_⟩
    have G4 : Var h4 g 86 [c0, c1, c2, c3, c4, c5, w3] := G4
    have hne : w3.ownBlock = none ∨ w3.ownBlock ≠ pblk g := o3.neV hgb (Nat.lt_of_lt_of_le hgl e2.1)
    refine runJ ?_
    exact fin1 rfl rfl ⟨rfl, ((e2.trans e3).only _).trans k4, w3, G4, (o3.only k4 hne).base e2.1⟩
end Go.Proofs.YtajgcmgkhmkmbaaDoor

/- Package bound: products of words, places, what is fresh. Condition of what tests primes: the table of math/bits reads as it is laid. -/
namespace Go.Proofs.YtajgcmgkhmkmbaaDoor
set_option linter.unusedVariables false
set_option maxRecDepth 8000
open Go Go.Den Go.RowKit Go.Dig

def nilN : Value × List Nat := (.slice none 0 0, [])
theorem vl_of (f : Nat) : vl 18446744073709551616 (dg 18446744073709551616 f) = f := vl_dg (by decide) f
theorem prodR_words : ∀ (fs : List Nat) (rows : List (Value × List Nat)), rows.map (·.2) = fs.map (dg 18446744073709551616) → prodR rows = prodL fs := by
  have key : ∀ (fs : List Nat) (rows : List (Value × List Nat)) (n : Nat), rows.map (·.2) = fs.map (dg 18446744073709551616) → rows.foldl (fun n x => n * vl 18446744073709551616 x.2) n = fs.foldl (· * ·) n := by
    intro fs
    induction fs with
    | nil => intro rows n h; cases rows with
      | nil => rfl
      | cons r rows => cases h
    | cons f fs ih => intro rows n h; cases rows with
      | nil => cases h
      | cons r rows =>
        simp only [List.map_cons, List.cons.injEq] at h
        simp only [List.foldl_cons]
        rw [h.1, vl_of]
        exact ih rows _ h.2
  exact fun fs rows h => key fs rows 1 h

theorem Tryd_ent59 : Ent Tryd.prog 59 := ent_of Tryd.func59 (by kernel_rfl) rfl
set_option maxHeartbeats 1000000 in
theorem pwords_spec (g vS v : Value) (c0 c1 c2 c3 c4 c5 : Value) (S : Nat) (fs : List Nat) (h : Hp) (G : Var h g 86 [c0, c1, c2, c3, c4, c5, vS]) (sS : SlF h U vS (dg 18446744073709551616 S)) (s : SlF h U v fs) (hal : Al 18446744073709551616 fs) (hl : fs.length ≤ 10) (lS : (dg 18446744073709551616 S).length < 10000000) :
    CallsH Tryd.prog 59 [g, v] h fun v' h' => v' = g ∧ Only (pblk g) h h' ∧ ∃ vS', Var h' g 86 [c0, c1, c2, c3, c4, c5, vS'] ∧ OwnF h' h.size 31 U vS' (dg 18446744073709551616 (S + prodL fs)) := by
  (apply enter Tryd.func59 rfl Tryd.ntmps59 rfl)
  refine runJ ?_
  (apply (s_make (f := Prod.fst) (bytes := 24) (nilN)); (first | exact isK_c | exact isK_t rfl); (first | exact isK_c | exact isK_t rfl); exact rfl; exact rfl; exact rfl; exact rfl; exact rfl; exact rfl; omega; omega; omega)
  intro v5 h1 o1 e1 b1
  refine ⟨(by first | exact trivial | exact Ext.refl _ | assumption | exact Ext.trans (by assumption) (by assumption)), ?_⟩
  refine runJ ?_
  (first | (apply w_seqB; exact rfl; apply w_block; exact rfl) | skip)
  apply (w_loop (σ := Nat × List (Value × List Nat)) rfl (fun j => [(0, g), (5, v5), (11, v), (12, N fs.length), (13, N j.1)])
    (fun j h' => Ext h h' ∧ h1.size ≤ h'.size ∧ j.1 ≤ fs.length ∧ OwnF h' h.size 23 Prod.fst v5 j.2 ∧ j.2.length = fs.length ∧ ∀ (k : Nat) (x : Value × List Nat) (f : Nat), k < j.1 → j.2[k]? = some x → fs[k]? = some f → SlF h' U x.1 x.2 ∧ x.2 = dg 18446744073709551616 f ∧ (x.1.ownBlock = none ∨ x.1.ownBlock ≠ v5.ownBlock)) (fun j => fs.length - j.1) (0, List.replicate fs.length nilN))
  · exact (Sub.cons rfl (Sub.cons rfl (Sub.cons rfl (Sub.cons rfl (Sub.cons rfl (Sub.nil _))))))
  · exact ⟨e1, Nat.le_refl _, Nat.zero_le _, o1, by simp, fun k x f hk => by omega⟩
  rintro ⟨j, rows⟩ h2 ⟨e2, z2, j1, o2, j2, j3⟩
  dsimp only at e2 z2 j1 o2 j2 j3 ⊢
  have s2 := s.ext e2
  have hs1 : h.size < h1.size := (o1.blk _ b1).2
  refine runJ ?_
  (apply w_condD; exact rfl; exact rfl) <;> intro hj
  · obtain ⟨f, hf⟩ := get_lt hj
    have hf64 := hal f (List.mem_of_getElem? hf)
    refine runJ ?_
    apply (s_call Tryd_ent43 rfl rfl rfl)
    refine (of_spec f h2 hf64).mono ?_
    rintro w3 h3 ⟨e3, o3⟩
    refine ⟨(by first | exact trivial | exact trivial), ?_⟩
    have ne3 : w3.ownBlock = none ∨ w3.ownBlock ≠ v5.ownBlock := by
      cases hw : w3.ownBlock with
      | none => exact .inl rfl
      | some k =>
        refine .inr fun hc => ?_
        have h1' := (o3.blk k hw).1
        rw [b1] at hc
        cases hc
        omega
    have s3 := o3.sl
    have hone := s3.one
    have o2 := o2.ext e3
    have e23 := e2.trans e3
    have hjr : j < rows.length := by omega
    refine runJ ?_
    (apply (s_storeF (f := Prod.fst) (w3, dg 18446744073709551616 f)); exact rfl; exact rfl; exact rfl; exact rfl; exact rfl; exact o2; exact hone; exact hjr)
    intro h4 o4 k4
    refine ⟨trivial, ?_⟩
    have e4 : Ext h h4 := o2.old k4 e23 (Nat.le_refl _)
    refine runJ ?_
    apply again_normal (j + 1, rows.set j (w3, dg 18446744073709551616 f))
    · exact (Sub.cons rfl (Sub.cons rfl (Sub.cons rfl (Sub.cons rfl (Sub.cons rfl (Sub.nil _))))))
    · refine ⟨e4, Nat.le_trans z2 (Nat.le_trans e3.1 k4.1), hj, o4, by simp [j2], fun k x f' hk hx hf' => ?_⟩
      dsimp only at hk hx
      rw [List.getElem?_set] at hx
      by_cases hkj : j = k
      · subst hkj
        rw [if_pos rfl, if_pos hjr] at hx
        cases hx
        rw [hf] at hf'
        cases hf'
        exact ⟨s3.only k4 ne3, rfl, ne3⟩
      · rw [if_neg hkj] at hx
        obtain ⟨y1, y2, y3⟩ := j3 k x f' (by omega) hx hf'
        exact ⟨(y1.ext e3).only k4 y3, y2, y3⟩
    · dsimp only; omega
  · have hjn : j = fs.length := by omega
    have hm : rows.map (·.2) = fs.map (dg 18446744073709551616) := by
      refine list_eq (by simp [j2]) fun k a b ha hb => ?_
      rw [List.getElem?_map] at ha hb
      cases hr : rows[k]? with
      | none => rw [hr] at ha; cases ha
      | some x =>
        cases hf : fs[k]? with
        | none => rw [hf] at hb; cases hb
        | some f =>
          rw [hr] at ha; rw [hf] at hb
          cases ha; cases hb
          exact (j3 k x f (by have := (List.getElem?_eq_some_iff.1 hf).1; omega) hr hf).2.1
    have R : RowN h2 v5 rows := ⟨o2.sl, fun x hx => by
      obtain ⟨k, hk, rfl⟩ := List.getElem_of_mem hx
      obtain ⟨f, hf⟩ := get_lt (l := fs) (j := k) (by omega)
      have hf64 := hal f (List.mem_of_getElem? hf)
      obtain ⟨y1, y2, -⟩ := j3 k _ f (by omega) (List.getElem?_eq_getElem hk) hf
      refine ⟨y1, by rw [y2]; exact al_dg (by decide) _, ?_⟩
      rw [y2]
      have := dg_len (b := 18446744073709551616) (n := f) (k := 1) (by decide) (by omega)
      omega⟩
    have AD := padd_spec g vS v5 c0 c1 c2 c3 c4 c5 S rows h2 (G.ext e2) (sS.ext e2) R (by omega) lS
    rw [prodR_words fs rows hm] at AD
    refine runJ ?_
    apply (s_call Tryd_ent60 rfl rfl rfl)
    refine (AD).mono ?_
    rintro _ h3 ⟨rfl, k3, vS', G3, o3⟩
    refine ⟨(by first | exact trivial | exact trivial), ?_⟩
    refine runJ ?_
    exact fin1 rfl rfl ⟨rfl, (e2.only _).trans k3, vS', G3, o3.base e2.1⟩

theorem Tryd_ent57 : Ent Tryd.prog 57 := ent_of Tryd.func57 (by kernel_rfl) rfl
set_option maxHeartbeats 1000000 in
theorem bat_spec (p : ParD) (l : Int) (h : Hp) (T : TB h) (A : ParAt h p) (hlo : -9223372036854775808 ≤ l) (hhi : l < 9223372036854775808) :
    CallsH Tryd.prog 57 [.agg p.cells.toArray, I l] h fun v' h' => Ext h h' ∧ ∃ g, v' = .tuple #[g, N (levE p l)] ∧ (levE p l = 0 → ∃ q, Var h' g 86 [I p.n, U p.t, p.vq, I p.w, q, U (levM p l % p.t), .slice none 0 0] ∧ SlF h' U q (dg 18446744073709551616 (levM p l)) ∧ (q.ownBlock = none ∨ q.ownBlock ≠ pblk g) ∧ ∃ k, pblk g = some k ∧ h.size ≤ k) := by
  have F1 := fun h T A => step_spec p l h T A hlo hhi
  have F2 := fun h T A => modulus_spec p l h T A hlo hhi
  unfold ParD.cells at F1 F2 ⊢
  generalize levM p l % p.t = rr at *
  (apply enter Tryd.func57 rfl Tryd.ntmps57 rfl)
  refine runJ ?_
  (apply s_box; exact rfl; exact rfl; exact rfl; exact rfl)
  intro p1 h1 x1 e1 b1
  (try dsimp only [Value.cells, List.toList_toArray] at x1)
  refine ⟨(by first | exact trivial | exact Ext.refl _ | assumption | exact Ext.trans (by assumption) (by assumption)), ?_⟩
  refine runJ ?_
  apply (s_call Tryd_ent16 rfl rfl rfl)
  refine (F1 h1 (T.ext e1) (A.ext e1)).mono ?_
  rintro _ h2 ⟨e2, s, rfl, os⟩
  refine ⟨(by first | exact trivial | exact trivial), ?_⟩
  have e12 := e1.trans e2
  have x2 := x1.ext e2
  by_cases hE : levE p l = 0
  · simp only [hE, if_true] at F2 ⊢
    refine runJ ?_
    apply (s_call Tryd_ent15 rfl rfl rfl)
    refine (F2 h2 (T.ext e12) (A.ext e12)).mono ?_
    rintro _ h3 ⟨e3, q, rfl, oq⟩
    refine ⟨(by first | exact trivial | exact trivial), ?_⟩
    have x3 := x2.ext e3
    have e13 := e12.trans e3
    refine runJ ?_
    (apply (s_build ([I p.n, U p.t, p.vq, I p.w, q, U rr, .slice none 0 0])); exact rfl; exact rfl; exact rfl; (repeat (first | exact CellsAll.nil | (apply CellsAll.cons; (first | exact oneL (by assumption) | exact oneL (SlF.one (by assumption)) | exact oneL (SlF.one (OwnF.sl (by assumption))) | exact oneL (Var.one (by assumption)) | exact rfl)))); exact rfl; exact rfl)
    refine runJ ?_
    (apply s_box; exact rfl; exact rfl; exact rfl; exact rfl)
    intro g h4 G4 e4 b4
    (try dsimp only [Value.cells, List.toList_toArray] at G4)
    refine ⟨(by first | exact trivial | exact Ext.refl _ | assumption | exact Ext.trans (by assumption) (by assumption)), ?_⟩
    refine runJ ?_
    exact fin2 rfl rfl rfl ⟨e13.trans e4, _, rfl, fun _ => ⟨q, G4, oq.sl.ext e4, SlF.neV (f := U) (xs := []) (fun j hj => (oq.blk j hj).2) b4 (Nat.le_refl _), _, b4, e13.1⟩⟩
  · refine runJ ?_
    (apply w_condT; exact rfl; exact rfl; exact hE)
    refine runJ ?_
    exact fin2 rfl rfl rfl ⟨e12, _, rfl, fun e => absurd e hE⟩

theorem Tryd_ent28 : Ent Tryd.prog 28 := ent_of Tryd.func28 (by kernel_rfl) rfl
theorem few14_spec (p : ParD) (v : Value) (rows : List (Value × List Nat)) (h : Hp) (A : ParA0 h p) (R : SlF h Prod.fst v rows) (hr : ∀ x ∈ rows, SlF h U x.1 x.2) (hl : rows.length ≤ 10) :
    CallsH Tryd.prog 28 [.agg p.cells.toArray, v] h fun v' h' => v' = .bool (decide ((∀ x ∈ rows, x.2.length ≤ 30) ∧ p.q.length ≤ 12)) ∧ Ext h h' := by
  unfold ParD.cells
  have hln := A.ln
  (apply enter Tryd.func28 rfl Tryd.ntmps28 rfl)
  refine runJ ?_
  (apply s_box; exact rfl; exact rfl; exact rfl; exact rfl)
  intro p1 h1 x1 e1 b1
  (try dsimp only [Value.cells, List.toList_toArray] at x1)
  refine ⟨(by first | exact trivial | exact Ext.refl _ | assumption | exact Ext.trans (by assumption) (by assumption)), ?_⟩
  have R1 := R.ext e1
  have q1 := A.row.ext e1
  refine runJ ?_
  (first | (apply w_seqB; exact rfl; apply w_block; exact rfl) | skip)
  apply (w_loop (σ := Nat) rfl (fun j => [(2, p1), (7, v), (8, N rows.length), (9, N j)])
    (fun j h' => h1 = h' ∧ j ≤ rows.length ∧ ∀ x ∈ rows.take j, x.2.length ≤ 30) (fun j => rows.length - j) 0)
  · exact (Sub.cons rfl (Sub.cons rfl (Sub.cons rfl (Sub.cons rfl (Sub.nil _)))))
  · exact ⟨rfl, Nat.zero_le _, by simp⟩
  rintro j h' ⟨rfl, j1, j2⟩
  refine runJ ?_
  (apply w_condD; exact rfl; exact rfl) <;> intro hj
  · obtain ⟨x, hx⟩ := get_lt hj
    have sx := (hr x (List.mem_of_getElem? hx)).ext e1
    refine runJ ?_
    (apply w_condD; exact rfl; exact rfl) <;> intro hd
    · refine runJ ?_
      exact fin1 rfl rfl ⟨dec_f (fun k => by have := k.1 x (List.mem_of_getElem? hx); omega), e1⟩
    · refine runJ ?_
      apply again_normal (j + 1)
      · exact (Sub.cons rfl (Sub.cons rfl (Sub.cons rfl (Sub.cons rfl (Sub.nil _)))))
      · refine ⟨rfl, hj, fun y hy => ?_⟩
        rw [take_snoc hx] at hy
        rcases List.mem_append.1 hy with hy | hy
        · exact j2 y hy
        · simp only [List.mem_singleton] at hy; subst hy; omega
      · omega
  · rw [List.take_of_length_le (by omega)] at j2
    refine runJ ?_
    exact fin1 rfl rfl ⟨dec_i ⟨fun k => ⟨j2, k⟩, fun k => k.2⟩, e1⟩

theorem Tryd_ent55 : Ent Tryd.prog 55 := ent_of Tryd.func55 (by kernel_rfl) rfl
theorem fresh_spec (p : ParD) (h : Hp) (T : TB h) (A : ParAt h p) (hp : parP p) :
    CallsH Tryd.prog 55 [.agg p.cells.toArray] h fun v' h' => Ext h h' ∧ ∃ r, v' = .tuple #[r, N 0] ∧ OwnF h' h.size 31 U r (dg 18446744073709551616 (p.w.toNat * (2 * p.n.toNat + 1))) := by
  have C := fun h T A => check_spec p h T A
  rw [if_pos hp] at C
  have hn := rowF_pos hp.1.1
  have hw := hp.1.2
  obtain ⟨n, t, vq, row, w⟩ := p
  obtain ⟨m, rfl⟩ : ∃ m : Nat, n = (m : Int) := ⟨n.toNat, by dsimp only at hn; omega⟩
  obtain ⟨u, rfl⟩ : ∃ u : Nat, w = (u : Int) := ⟨w.toNat, by dsimp only at hw; omega⟩
  dsimp only at hn hw
  have hmul : u * (2 * m + 1) ≤ 16 * (2 * 4096 + 1) := Nat.mul_le_mul (by omega) (by omega)
  unfold ParD.cells at C ⊢
  dsimp only at C ⊢
  rw [Int.toNat_natCast, Int.toNat_natCast]
  (apply enter Tryd.func55 rfl Tryd.ntmps55 rfl)
  refine runJ ?_
  (apply s_box; exact rfl; exact rfl; exact rfl; exact rfl)
  intro p1 h1 x1 e1 b1
  (try dsimp only [Value.cells, List.toList_toArray] at x1)
  refine ⟨(by first | exact trivial | exact Ext.refl _ | assumption | exact Ext.trans (by assumption) (by assumption)), ?_⟩
  refine runJ ?_
  apply (s_call Tryd_ent21 rfl rfl rfl)
  refine (C h1 (T.ext e1) (A.ext e1)).mono ?_
  rintro _ h2 ⟨rfl, e2⟩
  refine ⟨(by first | exact trivial | exact trivial), ?_⟩
  have x2 := x1.ext e2
  refine runJ ?_
  apply (s_call Tryd_ent43 rfl rfl rfl)
  refine (of_spec (u * (2 * m + 1)) h2 (by omega)).mono ?_
  rintro w3 h3 ⟨e3, o3⟩
  refine ⟨(by first | exact trivial | exact trivial), ?_⟩
  refine runJ ?_
  exact fin2 rfl rfl rfl ⟨(e1.trans e2).trans e3, _, rfl, o3.base (Nat.le_trans e1.1 e2.1)⟩
end Go.Proofs.YtajgcmgkhmkmbaaDoor

/- Walking drawn regions with floats: loads that wait for what acts; loads of one cell. No condition. -/
namespace Go.Den
set_option linter.unusedVariables false
set_option maxRecDepth 8000
open Go Go.RowKit

section rules
variable {P : Program} {n : Nat} {Q : Post} {l : Fr} {ops : List Oper} {Ch : Hp → Prop} {E F : Nat → Bool} {K : Hp → Hp → Prop} {Φ : Nat → Value → Hp → Prop} {i : Nat} {D : Hp → Prop} {fl : List (Nat × Value)}

/-- A drawn region with floats, where some operations that do not act (R) wait for all that do. -/
theorem r_drawnKR {c : Code} {h : Hp} (Ch : Hp → Prop) (F R : Nat → Bool) (K : Hp → Hp → Prop) (Φ : Nat → Value → Hp → Prop) (hc : tagOf c = .region true) (hm : P.follows .mixedOrders = true) (hok : regionOkK (opsOf c) (fun i => (effB (opsOf c) i || R i) && !F i) F = true)
    (hKX : ∀ h h', Ext h h' → K h h') (hΦ : ∀ i v h h', Φ i v h → K h h' → Φ i v h') (hC : Ch h)
    (k : SK P n (opsOf c) Ch (fun i => (effB (opsOf c) i || R i) && !F i) F K Φ Q 0 (Ext h) [] l) : W P n c Q l h := W.mk fun a w hf hw => by
  cases c <;> cases hc
  rename_i id ops
  have hrun := k.run a w hf
  rw [Nat.sub_zero, ← List.range_eq_range'] at hrun
  have := region_drawnK (P := P) (id := id) (l := ops.toList) (Q := lift n Q w) (a := a) (w := w) hm hok (C := fun w' => Oth w w' ∧ Ch w'.heap) (K := fun w w' => Oth w w' ∧ K w.heap w'.heap) (X := fun w w' => Oth w w' ∧ Ext w.heap w'.heap) (Φ := fun i v w => Φ i v w.heap)
    (fun w w' x => ⟨x.1, hKX _ _ x.2⟩) (fun i v w w' x y => hΦ i v _ _ x y.2) (fun w' => Ext h w'.heap) (fun w1 w2 x y => x.trans y.2) (by rw [← hw]; exact Ext.refl _) ⟨⟨rfl, rfl, rfl⟩, by rw [← hw] at hC; exact hC⟩ hrun
  simpa using this

/-- A float: what it hands back is known to be such a value. -/
theorem k_floatX {o : Oper} (ho : opAt ops i = some o) (hF : F i = true) (hg : gd ops l o.guard = some true)
    (hx : ∀ a w h, Fits l n a → w.heap = h → Ch h → (∀ p ∈ fl, ancB ops i p.1 = true → Φ p.1 p.2 h) → Eff P o a w fun v w' => Oth w w' ∧ Ext h w'.heap ∧ Ch w'.heap ∧ Φ i v w'.heap)
    (hl : ∀ a v, (∃ h, Ch h ∧ Φ i v h) → Fits l n a → ∃ l', Fits l' n (a.put o.dst v) ∧ SK P n ops Ch E F K Φ Q (i + 1) D ((i, v) :: fl) l') : SK P n ops Ch E F K Φ Q i D fl l := SK.mk fun a w0 hf => by
  obtain ⟨h1, h2⟩ := s_step ho
  rw [h2]
  refine ⟨o, h1, .inr (.inl ⟨hF, gd_wanted hf hg, fun w hC hT => Eff_mono (fun v w' hk => ?_) (hx a w w.heap hf rfl hC.2 hT), fun v hv => ?_⟩)⟩
  · exact ⟨⟨hk.1, hk.2.1⟩, ⟨hC.1.trans hk.1, hk.2.2.1⟩, hk.2.2.2⟩
  · obtain ⟨w, hC, -, -, hp⟩ := hv
    obtain ⟨l', g1, g2⟩ := hl a v ⟨w.heap, hC.2, hp⟩ hf
    exact g2.run _ w0 g1
theorem k_fcallX {d : Nat} {f : FuncId} {args : List Operand} {at_ : Array TypeId} {vs : List Value} {ty : TypeId} {ps : String} {af : Array Edge} {g : Option (Nat × Bool)} (ho : opAt ops i = some ⟨some d, .call ⟨.value (.func f), args.toArray, at_⟩, ty, ps, af, g⟩) (hg : gd ops l g = some true) (hF : F i = true) (hb : Nat.blt d n = true) (he : Ent P f) (ha : evs l args = some vs)
    (hx : ∀ h, Ch h → (∀ p ∈ fl, ancB ops i p.1 = true → Φ p.1 p.2 h) → CallsH P f vs h fun v h' => Ext h h' ∧ Ch h' ∧ Φ i v h')
    (k : ∀ v, (∃ h, Ch h ∧ Φ i v h) → SK P n ops Ch E F K Φ Q (i + 1) D ((i, v) :: fl) ((d, v) :: l)) : SK P n ops Ch E F K Φ Q i D fl l :=
  k_floatX ho hF hg (fun a w h hf hw hC hT => by
    unfold Eff
    rw [run_static, he]
    have : args.toArray.map a.eval = vs.toArray := by simp [hf.evs ha]
    rw [this]
    refine (hx h hC hT w hw).mono fun e w' hq => ?_
    obtain ⟨v, rfl, ⟨h1, h2, h3⟩, h4⟩ := hq
    exact ⟨h4, h1, h2, h3⟩) (fun a v hv hf => ⟨_, hf.put d v hb, k v hv⟩)

/-- An operation that is passed over. -/
theorem k_skip {o : Oper} {d : Nat} (ho : opAt ops i = some o) (hd : o.dst = some d) (hg : gd ops l o.guard = some false) (hb : Nat.blt d n = true)
    (k : SK P n ops Ch E F K Φ Q (i + 1) D fl ((d, undef) :: l)) : SK P n ops Ch E F K Φ Q i D fl l := SK.mk fun a w0 hf => by
  obtain ⟨h1, h2⟩ := s_step ho
  rw [h2]
  have hw := gd_wanted hf hg
  exact ⟨o, h1, .inl ⟨undef, fun _ => hw, .inr ⟨hw, rfl⟩, k.run _ w0 (by rw [hd]; exact hf.put d undef hb)⟩⟩

/-- A load that waits for what acts. -/
theorem k_load {d off : Nat} {t : TypeId} {x : Operand} {p u : Value} {ty : TypeId} {ps : String} {af : Array Edge} {g : Option (Nat × Bool)} (ho : opAt ops i = some ⟨some d, .load t x, ty, ps, af, g⟩) (hg : gd ops l g = some true) (hE : E i = true) (hb : Nat.blt d n = true)
    (hx : ev l x = some (ptrOff p off)) (ht : plainTy P t = true) (hD : ∀ h1 h2, D h1 → Ext h1 h2 → D h2) (hK : ∀ h, K h h)
    (hr : ∀ h, Ch h → D h → (∀ p ∈ fl, Φ p.1 p.2 h) → ∃ e cs, Var h p e cs ∧ nth cs off = some u)
    (k : SK P n ops Ch E F K Φ Q (i + 1) D fl ((d, u) :: l)) : SK P n ops Ch E F K Φ Q i D fl l :=
  k_act ho hE hg fun h hC hDh hT a w hf hw => by
    obtain ⟨e, cs, hv, hj⟩ := hr h hC hDh hT
    rw [nth_eq] at hj
    subst hw
    obtain ⟨gg, rfl, hc⟩ := hv.cell hj
    have hl := run_load1 (P := P) (t := t) (a := (⟨gg, 0, none⟩ : Addr).add off) (w := w) ht (by rw [Addr.add_lit, cell?_cellH, Nat.zero_add]; exact hc)
    unfold Eff
    simp only [execOp, hf.ev hx, ptrOff, Sem.run_bind, hl]
    exact ⟨⟨rfl, rfl, rfl⟩, hC, D, _, hD, hDh, hf.put d u hb, .inl ⟨hK _, k⟩⟩

variable {h : Hp} {d : Nat} {t : TypeId} {x : Operand}
/-- A load of one cell that every heap of the class has alike. -/
theorem s_loadCell {p u : Value} {off : Nat} (hx : ev l x = some (ptrOff p off)) (ht : plainTy P t = true) (hs : Rd Ch E i h (fun h' => ∃ e cs, Var h' p e cs ∧ nth cs off = some u)) (hb : Nat.blt d n = true)
    (k : S P n ops Ch E Q (i + 1) ((d, u) :: l) h) : O P n ops Ch E Q i d (.load t x) l h :=
  s_read hb _ hs (fun a w' hf hs => by
    obtain ⟨e, cs, hs, hj⟩ := hs
    rw [nth_eq] at hj
    obtain ⟨g, rfl, hc⟩ := hs.cell hj
    have hl := run_load1 (P := P) (t := t) (a := (⟨g, 0, none⟩ : Addr).add off) (w := w') ht (by rw [Addr.add_lit, cell?_cellH, Nat.zero_add]; exact hc)
    simp only [execOp, hf.ev hx, ptrOff, Sem.run_bind, hl]; rfl) k
theorem rd_cl {p : Hp → Prop} (hp : ∀ h', Ch h' → p h') : Rd Ch E i h p := ⟨.inr hp⟩
end rules
end Go.Den

/- Package bound: sums of bounds (drawn regions with floats). Condition of what tests primes: the table of math/bits reads as it is laid. -/
namespace Go.Proofs.YtajgcmgkhmkmbaaDoor
set_option linter.unusedVariables false
set_option maxRecDepth 8000
open Go Go.Den Go.RowKit Go.Dig

/-- The heaps of a region about a place: they differ in its block alone, and of its cells in the sum alone. -/
structure ChP (h0 : Hp) (g c0 c1 c2 c3 c4 c5 : Value) (h' : Hp) : Prop where mk ::
  only : Only (pblk g) h0 h'
  var : ∃ vS, Var h' g 86 [c0, c1, c2, c3, c4, c5, vS]
/-- A row that lies elsewhere, or is empty. -/
def El (g v : Value) (n : Nat) : Prop := n = 0 ∨ v.ownBlock = none ∨ v.ownBlock ≠ pblk g
theorem SlF.keep {α : Type} {h h' : Hp} {f : α → Value} {v g : Value} {xs : List α} (s : SlF h f v xs) (k : Only (pblk g) h h') (e : El g v xs.length) : SlF h' f v xs := by
  rcases e with e | e
  · have : xs = [] := List.eq_nil_of_length_eq_zero e
    subst this
    rcases s with s | ⟨b, o, c, h1, h2, -⟩
    · exact .inl s
    · exact .inr ⟨b, o, c, h1, h2, fun j u hj => by simp at hj⟩
  · exact s.only k e
theorem el_old {α : Type} {h : Hp} {f : α → Value} {v g : Value} {xs : List α} {k : Nat} (s : SlF h f v xs) (hg : pblk g = some k) (hk : h.size ≤ k) : El g v xs.length := by
  by_cases h0 : xs.length = 0
  · exact .inl h0
  · refine .inr ?_
    cases hv : v.ownBlock with
    | none => exact .inl rfl
    | some j =>
      refine .inr fun hc => ?_
      have := s.lt (by omega) j hv
      rw [hg] at hc; cases hc; omega
theorem el_new {α : Type} {h : Hp} {f : α → Value} {v g : Value} {xs : List α} {B k : Nat} {e : TypeId} (o : OwnF h B e f v xs) (hg : pblk g = some k) (hk : k < B) : El g v xs.length := .inr (o.neV hg hk)
/-- A float: a row of rows, or a row of words. -/
def PhR (g : Value) (rows : List (Value × List Nat)) (v : Value) (h : Hp) : Prop := RowN h v rows ∧ El g v rows.length ∧ ∀ x ∈ rows, El g x.1 x.2.length
def PhW (g : Value) (ws : List Nat) (v : Value) (h : Hp) : Prop := SlF h U v ws ∧ El g v ws.length
theorem PhR.only {g v : Value} {rows : List (Value × List Nat)} {h h' : Hp} (s : PhR g rows v h) (k : Only (pblk g) h h') : PhR g rows v h' :=
  ⟨⟨SlF.keep s.1.row k s.2.1, fun x hx => ⟨SlF.keep (s.1.nat x hx).1 k (s.2.2 x hx), (s.1.nat x hx).2⟩⟩, s.2⟩
theorem PhW.only {g v : Value} {ws : List Nat} {h h' : Hp} (s : PhW g ws v h) (k : Only (pblk g) h h') : PhW g ws v h' := ⟨SlF.keep s.1 k s.2, s.2⟩
theorem ChP.ext {h0 h h' : Hp} {g c0 c1 c2 c3 c4 c5 : Value} (s : ChP h0 g c0 c1 c2 c3 c4 c5 h) (e : Ext h h') : ChP h0 g c0 c1 c2 c3 c4 c5 h' :=
  ⟨s.only.trans (e.only _), let ⟨v, hv⟩ := s.var; ⟨v, hv.ext e⟩⟩
theorem ChP.lt {h0 h : Hp} {g c0 c1 c2 c3 c4 c5 : Value} (s : ChP h0 g c0 c1 c2 c3 c4 c5 h) {k : Nat} (hg : pblk g = some k) : k < h.size := by
  obtain ⟨v, hv⟩ := s.var
  obtain ⟨j, hj, hl⟩ := hv.blk
  rw [hg] at hj; cases hj; exact hl

section lits
variable {h0 h h' : Hp} {g c0 c1 c2 c3 c4 c5 : Value} {gb : Nat}
/-- A row that is built in a region of that class. -/
theorem phR_lit {v : Value} {e : TypeId} {rows : List (Value × List Nat)} (hgb : pblk g = some gb) (hC : ChP h0 g c0 c1 c2 c3 c4 c5 h) (o : OwnF h' h.size e Prod.fst v rows) (k : Ext h h') (hr : ∀ x ∈ rows, SlF h U x.1 x.2 ∧ El g x.1 x.2.length ∧ Al 18446744073709551616 x.2 ∧ x.2.length < 10000) :
    ChP h0 g c0 c1 c2 c3 c4 c5 h' ∧ PhR g rows v h' :=
  ⟨hC.ext k, ⟨o.sl, fun x hx => ⟨(hr x hx).1.ext k, (hr x hx).2.2⟩⟩, el_new o hgb (hC.lt hgb), fun x hx => (hr x hx).2.1⟩
theorem phW_lit {v : Value} {e : TypeId} {ws : List Nat} (hgb : pblk g = some gb) (hC : ChP h0 g c0 c1 c2 c3 c4 c5 h) (o : OwnF h' h.size e U v ws) (k : Ext h h') :
    ChP h0 g c0 c1 c2 c3 c4 c5 h' ∧ PhW g ws v h' := ⟨hC.ext k, o.sl, el_new o hgb (hC.lt hgb)⟩
theorem ChP.row {α : Type} {f : α → Value} {v : Value} {xs : List α} (hC : ChP h0 g c0 c1 c2 c3 c4 c5 h) (s : SlF h0 f v xs) (e : El g v xs.length) : SlF h f v xs := SlF.keep s hC.only e
theorem prodR_one (v : Value) (xs : List Nat) : prodR [(v, xs)] = vl 18446744073709551616 xs := by simp [prodR]
end lits
theorem two_sum {B x y a b k : Nat} (hB : 2 ≤ B) (hx : x < B ^ a) (hy : y < B ^ b) (ha : a ≤ k) (hb : b ≤ k) : x + y < B ^ (k + 1) := by
  have h1 : B ^ a ≤ B ^ k := Nat.pow_le_pow_right (by omega) ha
  have h2 : B ^ b ≤ B ^ k := Nat.pow_le_pow_right (by omega) hb
  have h3 : B ^ k * 2 ≤ B ^ k * B := Nat.mul_le_mul_left _ hB
  rw [Nat.pow_succ]
  omega
theorem sum_len {n k : Nat} (h : n < 18446744073709551616 ^ k) (hk : k ≤ 5000000) : (dg 18446744073709551616 n).length < 10000000 := by
  have := dg_len (b := 18446744073709551616) (n := n) (k := k) (by decide) h
  omega

theorem Tryd_ent56 : Ent Tryd.prog 56 := ent_of Tryd.func56 (by kernel_rfl) rfl
set_option maxHeartbeats 2000000 in
theorem badd_spec (p : ParD) (l : Int) (va vb : Value) (xs ys : List Nat) (h : Hp) (T : TB h) (A : ParAt h p) (sa : SlF h U va xs) (sb : SlF h U vb ys) (ha : Al 18446744073709551616 xs) (hb : Al 18446744073709551616 ys) (la : xs.length < 1000) (lb : ys.length < 1000) (hlo : -9223372036854775808 ≤ l) (hhi : l < 9223372036854775808) (hE : levE p l = 0) :
    CallsH Tryd.prog 56 [.agg p.cells.toArray, I l, va, vb] h fun v' h' => Ext h h' ∧ ∃ r, v' = .tuple #[r, N 0] ∧ OwnF h' h.size 31 U r (dg 18446744073709551616 (vl 18446744073709551616 xs + vl 18446744073709551616 ys + levM p l % p.t)) := by
  have F := fun h T A => bat_spec p l h T A hlo hhi
  unfold ParD.cells at F ⊢
  rw [hE] at F
  (apply enter Tryd.func56 rfl Tryd.ntmps56 rfl)
  refine runJ ?_
  (apply s_box; exact rfl; exact rfl; exact rfl; exact rfl)
  intro p1 h1 x1 e1 b1
  (try dsimp only [Value.cells, List.toList_toArray] at x1)
  refine ⟨(by first | exact trivial | exact Ext.refl _ | assumption | exact Ext.trans (by assumption) (by assumption)), ?_⟩
  refine runJ ?_
  apply (s_call Tryd_ent57 rfl rfl rfl)
  refine (F h1 (T.ext e1) (A.ext e1)).mono ?_
  rintro _ h2 ⟨e2, g, rfl, hg⟩
  refine ⟨(by first | exact trivial | exact trivial), ?_⟩
  obtain ⟨q, G, sq, -, gb, hgb, hgl⟩ := hg rfl
  have e12 := e1.trans e2
  have sa2 := sa.ext e12
  have sb2 := sb.ext e12
  have ea := el_old sa hgb (Nat.le_trans e1.1 hgl)
  have eb := el_old sb hgb (Nat.le_trans e1.1 hgl)
  have hrr : levM p l % p.t < 18446744073709551616 := by have h1 := A.t64; have h2 := par_t (levE_par hE).1; have := Nat.mod_lt (levM p l) h2; omega
  generalize levM p l % p.t = rr at *
  refine runJN ?_
  refine r_drawnKR (ChP h2 g (I p.n) (U p.t) p.vq (I p.w) q (U rr)) (fun i => Nat.beq i 2 || Nat.beq i 5 || Nat.beq i 11) (fun i => Nat.beq i 15) (Only (pblk g))
    (fun i => match i with | 2 => PhR g [(va, xs)] | 5 => PhR g [(vb, ys)] | _ => PhW g [rr]) rfl mixed (by kernel_rfl) (fun _ _ e => e.only _) ?_ ⟨Only.refl _ _, _, G⟩ ?_
  · intro i v h h' hp k
    split at hp
    · exact PhR.only hp k
    · exact PhR.only hp k
    · exact PhW.only hp k
  refine k_run (j := 2) h2 rfl rfl (by kernel_rfl) (by kernel_rfl) ?_
  refine runJ ?_
  refine ⟨⟨rfl, ?_⟩⟩
  refine k_lit (f := Prod.fst) rfl rfl rfl rfl [(va, xs)] rfl rfl rfl rfl rfl rfl (fun u hu => by simp at hu; subst hu; exact sa.one) rfl (by omega) (fun h' v h'' hC _ o e _ => phR_lit hgb hC o e fun x hx => by
    simp at hx; subst hx; exact ⟨hC.row sa2 ea, ea, ha, by dsimp only; omega⟩) (fun v2 => ?_)
  refine k_call rfl rfl rfl rfl Tryd_ent60 rfl ?_
  intro h3 hC3 hD3 hT3
  have P2 : PhR g [(va, xs)] v2 h3 := hT3 (2, v2) (by simp)
  have AD := padd_spec g (.slice none 0 0) v2 _ _ _ _ _ _ 0 [(va, xs)] h3 (G.ext hD3) (SlF.nil _ _) P2.1 (by simp) (by decide)
  rw [prodR_one] at AD
  refine AD.mono ?_
  rintro g1 h4 ⟨rfl, k4, w4, G4, o4⟩
  refine ⟨⟨hC3.only.trans k4, _, G4⟩, .inl ⟨k4, ?_⟩⟩
  have o4 := o4.sl
  rw [Nat.zero_add] at o4
  clear AD hT3
  refine k_run (j := 5) h4 rfl rfl (by kernel_rfl) (by kernel_rfl) ?_
  refine runJ ?_
  refine ⟨⟨rfl, ?_⟩⟩
  refine k_lit (f := Prod.fst) rfl rfl rfl rfl [(vb, ys)] rfl rfl rfl rfl rfl rfl (fun u hu => by simp at hu; subst hu; exact sb.one) rfl (by omega) (fun h' v h'' hC _ o e _ => phR_lit hgb hC o e fun x hx => by
    simp at hx; subst hx; exact ⟨hC.row sb2 eb, eb, hb, by dsimp only; omega⟩) (fun v5 => ?_)
  refine k_call rfl rfl rfl rfl Tryd_ent60 rfl ?_
  intro h5 hC5 hD5 hT5
  have P5 : PhR g1 [(vb, ys)] v5 h5 := hT5 (5, v5) (by simp)
  have hxl := vl_lt ha
  have hyl := vl_lt hb
  have AD := padd_spec g1 w4 v5 _ _ _ _ _ _ (vl 18446744073709551616 xs) [(vb, ys)] h5 (G4.ext hD5) (o4.ext hD5) P5.1 (by simp) (sum_len hxl (by omega))
  rw [prodR_one] at AD
  refine AD.mono ?_
  rintro g2 h6 ⟨rfl, k6, w6, G6, o6⟩
  refine ⟨⟨hC5.only.trans k6, _, G6⟩, .inl ⟨k6, ?_⟩⟩
  have o6 := o6.sl
  clear AD hT5
  refine k_run (j := 11) h6 rfl rfl (by kernel_rfl) (by kernel_rfl) ?_
  refine runJ ?_
  refine s_loadCell (u := U rr) (off := 5) rfl rfl (rd_cl fun h' hc => let ⟨vS, hv⟩ := hc.var; ⟨_, _, hv, rfl⟩) rfl ?_
  refine runJ ?_
  refine ⟨⟨rfl, ?_⟩⟩
  refine k_lit (f := U) rfl rfl rfl rfl [rr] rfl rfl rfl rfl rfl rfl (fun u hu => by simp at hu; subst hu; rfl) rfl (by omega) (fun h' v h'' hC _ o e _ => phW_lit hgb hC o e) (fun v11 => ?_)
  refine k_call rfl rfl rfl rfl Tryd_ent59 rfl ?_
  intro h7 hC7 hD7 hT7
  have P7 : PhW g2 [rr] v11 h7 := hT7 (11, v11) (by simp)
  have hsl := two_sum (k := 1000) (by decide) hxl hyl (by omega) (by omega)
  have AD := pwords_spec g2 w6 v11 _ _ _ _ _ _ (vl 18446744073709551616 xs + vl 18446744073709551616 ys) [rr] h7 (G6.ext hD7) (o6.ext hD7) P7.1 (by intro x hx; simp only [List.mem_singleton] at hx; rw [hx]; exact hrr) (by simp) (sum_len hsl (by decide))
  rw [show prodL [rr] = rr by simp [prodL]] at AD
  refine AD.mono ?_
  rintro g3 h8 ⟨rfl, k8, w8, G8, o8⟩
  refine ⟨⟨hC7.only.trans k8, _, G8⟩, .inr ⟨by kernel_rfl, ?_⟩⟩
  have e28 : Only (pblk g3) h2 h8 := hC7.only.trans k8
  clear AD hT7
  refine k_run (j := 15) h8 rfl rfl (by kernel_rfl) (by kernel_rfl) ?_
  refine runJ ?_
  refine ⟨⟨rfl, ?_⟩⟩
  refine k_load (p := g3) (u := w8) (off := 6) rfl rfl rfl rfl rfl rfl (fun _ _ x y => x.trans y) (fun _ => Only.refl _ _) (fun h' _ hD _ => ⟨_, _, G8.ext hD, rfl⟩) ?_
  refine k_run (j := 18) h8 rfl rfl (by kernel_rfl) (by kernel_rfl) ?_
  refine runJ ?_
  refine ⟨⟨rfl, ?_⟩⟩
  refine k_done rfl ?_
  intro h9 hC9 hD9 _
  refine runJ ?_
  refine fin2 rfl rfl rfl ⟨e1.trans (hC9.only.oldV e2 hgb hgl), _, rfl, (o8.ext hD9).base (Nat.le_trans e12.1 (Nat.le_trans hC7.only.1 (Nat.le_refl _)))⟩
end Go.Proofs.YtajgcmgkhmkmbaaDoor
