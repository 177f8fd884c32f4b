/- Texts DenX to DenY of this work, joined, without what the law does not lean on. -/
import Derived.Test.YtfcmdefigldpnaaGreatDoorMKa22
import Derived.Laws.CopyRow
namespace Go.Den
set_option linter.unusedVariables false
set_option maxRecDepth 8000
open Go Go.RowKit

section rules
variable {P : Program} {n : Nat} {Q : Post} {l : Fr} {ops : List Oper} {Ch : Hp → Prop} {E F : Nat → Bool} {K : Hp → Hp → Prop} {Φ : Nat → Value → Hp → Prop} {i : Nat} {D : Hp → Prop} {fl : List (Nat × Value)}

/-- make([]T, l, c), T of one cell: it floats. -/
theorem k_make {α : Type} {f : α → Value} {d : Nat} {t : TypeId} {x y : Operand} {ln c bytes : Nat} {e : TypeId} {kl kc : IntKind} {z0 : Value} {ty : TypeId} {ps : String} {af : Array Edge} {g : Option (Nat × Bool)} (ho : opAt ops i = some ⟨some d, .makeSlice t x y, ty, ps, af, g⟩) (hg : gd ops l g = some true) (hF : F i = true) (hb : Nat.blt d n = true)
    (z1 : α) (hx : IsK (ev l x) kl ln) (hy : IsK (ev l y) kc c) (ht : P.underlying t = some (.slice e)) (hi : (P.info? e).map (fun i => (i.size, i.bytes, i.zero)) = some (1, bytes, some z0)) (hzs : z0.oneCell' = true) (hz1 : f z1 = z0)
    (h1 : ln ≤ c) (h2 : bytes * c ≤ 281474976710656) (h3 : c ≤ 9223372036854775807)
    (hc : ∀ h v h', Ch h → OwnF h' h.size e f v (List.replicate ln z1) → Ext h h' → v.ownBlock = some h.size → Ch h' ∧ Φ i v h')
    (k : ∀ v, SK P n ops Ch E F K Φ Q (i + 1) D ((i, v) :: fl) ((d, v) :: l)) : SK P n ops Ch E F K Φ Q i D fl l :=
  k_float ho hF hg (fun a w h hf hw hC hT => by
    subst hw
    cases hq : P.info? e with
    | none => rw [hq] at hi; cases hi
    | some inf =>
      rw [hq] at hi
      simp only [Option.map_some, Option.some.injEq, Prod.mk.injEq] at hi
      obtain ⟨i1, i2, i3⟩ := hi
      have hr := run_make (P := P) w t e inf z0 ht hq i3 kl kc ln c (by omega) (by omega) (by rw [i2, ← Int.natCast_mul]; omega) (by omega)
      simp only [Int.toNat_natCast, i1, Nat.mul_one] at hr
      have hmade : (madeCells z0.cells c).toList = List.replicate c z0 := by
        rw [cells_one hzs]
        apply List.ext_getElem
        · simp [madeCells]
        · intro j h1 h2
          simp [madeCells, Nat.mod_one]
      have ho : OwnF (w.alloc (.cells (madeCells z0.cells c) e)).heap w.heap.size e f (.slice (some ⟨w.heap.size, 0, none⟩) ln c) (List.replicate ln z1) := by
        refine ⟨by simp, .inr ⟨w.heap.size, c, _, by simp, Nat.le_refl _, heap_alloc_new w _, by simpa using h1, by simp [maxLen]; omega, by rw [size_madeCells]; simp, ?_⟩⟩
        rw [hmade]; simp [hz1, List.take_replicate, Nat.min_eq_left h1]
      have := hc _ _ _ hC ho (Ext.push _ _) rfl
      unfold Eff
      simp only [execOp, hf.ev hx.h, hf.ev hy.h, Sem.run_bind, hr]
      exact ⟨⟨rfl, rfl, rfl⟩, Ext.push _ _, this.1, this.2⟩) (fun a v hf => ⟨_, hf.put d v hb, k v⟩)
end rules

section copy
variable {P : Program} {n : Nat} {Q : Post} {l : Fr} {ops : List Oper} {Ch : Hp → Prop} {E : Nat → Bool} {i d : Nat} {h : Hp} {x y : Operand} {t : TypeId}
/-- copy(v, u), both as long. -/
theorem s_copy {α : Type} {f : α → Value} {v u : Value} {B : Nat} {cs xs : List α} {e : TypeId} {t2 : TypeId} (hx : ev l x = some v) (hy : ev l y = some u) (ht : P.underlying t = some (.slice e)) (hi : (P.info? e).map (·.size) = some 1)
    (hE : E i = true) (hb : Nat.blt d n = true) (ho : OwnF h B e f v cs) (hs : SlF h f u xs) (hl : xs.length = cs.length) (h1 : ∀ a, (f a).oneCell' = true) (h0 : 0 < cs.length)
    (k : ∀ r h', OwnF h' B e f v xs → Only v.ownBlock h h' → Ch h' ∧ S P n ops Ch E Q (i + 1) ((d, r) :: l) h') : O P n ops Ch E Q i d (.call ⟨.builtin .copy, #[x, y], #[t, t2]⟩) l h :=
  O.mk fun {ty} _ _ _ hop hg => s_eff hop hE hg fun a w hf hw => by
    subst hw
    obtain ⟨-, ⟨rfl, hz⟩ | ⟨g, cap, cur, rfl, hB, hg', hle, hml, hsz, hcur⟩⟩ := ho
    · omega
    have hcl : (xs.map f).length = cs.length := by rw [List.length_map]; exact hl
    have h1' : ∀ u ∈ xs.map f, u.oneCell' = true := fun u hu => by obtain ⟨a, -, rfl⟩ := List.mem_map.1 hu; exact h1 a
    have hfit : 0 + (xs.map f).length ≤ cur.size := by rw [hcl, hsz]; omega
    have hrun : ∃ sl sc a, u = .slice (some a) sl sc ∧ (xs.map f).length = Nat.min sl cs.length ∧ ∀ j u, (xs.map f)[j]? = some u → w.cell? (a.add j) = some u := by
      rcases hs with ⟨-, hz, -⟩ | ⟨b, o, c, rfl, hc, hs⟩
      · omega
      · refine ⟨_, _, _, rfl, ?_, fun j u hu => by rw [Addr.add_lit, cell?_cellH]; exact hs j u hu⟩
        rw [hcl, hl]; exact (Nat.min_self _).symm
    obtain ⟨sl, sc, a', rfl, hn, hsrc⟩ := hrun
    have hr := run_copy_row (P := P) w t t2 ty e g 0 cs.length cap a' sl sc cur e (xs.map f) ht hi hg' hn hsrc hfit h1'
    have hg2 := setRow_heap w g cur (cur.toList.take 0 ++ xs.map f ++ cur.toList.drop (0 + (xs.map f).length)).toArray e _ hg'
    have hok : OwnF (w.setRow g (cur.toList.take 0 ++ xs.map f ++ cur.toList.drop (0 + (xs.map f).length)).toArray).heap B e f (.slice (some ⟨g, 0, none⟩) cs.length cap) xs := by
      refine ⟨by simp, .inr ⟨g, cap, _, by rw [hl], hB, hg2, by rw [hl]; exact hle, hml, ?_, ?_⟩⟩
      · simp at hfit ⊢; omega
      · simp
    have hon : Only (Value.slice (some ⟨g, 0, none⟩) cs.length cap).ownBlock w.heap (w.setRow g (cur.toList.take 0 ++ xs.map f ++ cur.toList.drop (0 + (xs.map f).length)).toArray).heap := ⟨by simp, fun j _ hj => setRow_other w g j _ (fun q => hj (by simp [Value.ownBlock, q]))⟩
    have := k (goInt (xs.map f).length) _ hok hon
    unfold Eff execOp
    simp only [resolve, invoke, builtin, Sem.run_bind, Sem.run_pure, Result.andThen_ok, List.map_toArray, List.map_cons, List.map_nil, hf.ev hx, hf.ev hy, hr]
    exact ⟨⟨rfl, rfl, rfl⟩, this.1, _, hf.put d _ hb, this.2⟩
end copy
end Go.Den


namespace Go.Proofs.YtfcmdefigldpnaaGreatDoor
set_option linter.unusedVariables false
set_option maxRecDepth 8000
open Go Go.Den Go.RowKit Go.Mth Go.Dig

/-- Noughts. -/
def zerosL (n : Nat) (qs : List Nat) : List (List Nat) := qs.map (liftL (List.replicate n 0))
theorem KeyAt.par {h : Hp} {d g tp : Value} {D : KeyD} (K : KeyOk D) (A : KeyAt h d g tp D) : ParAt h ⟨((2 ^ D.L : Nat) : Int), D.t, D.vq, D.R.qs, ((D.w : Nat) : Int)⟩ :=
  ⟨A.row, fun q hq => by have := (K.rok.q q hq).q61; show q < 18446744073709551616; omega, K.t64, by have := K.q8; show D.R.qs.length ≤ _; omega⟩
theorem lvl_nat {l : List Nat} (h : 0 < l.length) : (l.length : Int) - 1 = ((l.length - 1 : Nat) : Int) := by omega

theorem Tryz_ent48 : Ent Tryz.prog 48 := ent_of Tryz.func48 (by kernel_rfl) rfl
set_option maxHeartbeats 4000000 in
theorem zero_spec (d g tp : Value) (D : KeyD) (h : Hp) (K : KeyOk D) (A : KeyAt h d g tp D) :
    CallsH Tryz.prog 48 [d] h fun v' h' => Ext h h' ∧ ∃ vz rz p, v' = .agg #[vz] ∧ RowsAt h' h.size p vz rz ∧ rz.map (·.2) = zerosL (2 ^ D.L) D.R.qs ∧ RowSep rz := by
  have hp9 : 2 ^ D.L ≤ 2 ^ 9 := Nat.pow_le_pow_right (by decide) (by have := K.rok.l9; have := K.rl; omega)
  have e9 : (2 : Nat) ^ 9 = 512 := by decide
  have x0 := A.var
  have hlq : 0 < D.R.qs.length := K.rok.n0
  have hRL := K.rl
  have hq8 := K.q8
  (apply enter Tryz.func48 rfl Tryz.ntmps48 rfl)
  refine runJ ?_
  (apply s_alloc; exact rfl; exact rfl; exact rfl)
  intro p2 h1 x1 e1 b1
  (try dsimp only [Value.cells, List.toList_toArray] at x1)
  refine ⟨(by first | exact trivial | exact Ext.refl _ | assumption | exact Ext.trans (by assumption) (by assumption)), ?_⟩
  have A1 := A.ext e1
  have v1 := A1.var
  refine runJN ?_
  refine r_drawnKR (h := h1) (Ext h1) (fun i => Nat.beq i 9 || Nat.beq i 14 || Nat.beq i 19) (fun _ => false) Ext (fun i p g => match i with
    | 9 => OwnF g h1.size 2 I p (List.replicate (2 ^ D.L) 0)
    | 14 => p = N (D.R.qs.length - 1)
    | _ => Var g p 56 [.slice none 0 0] ∧ ∃ b, pblk p = some b ∧ h1.size ≤ b) rfl mixed (by kernel_rfl) (fun _ _ e => e) (fun i p g g' a e => ?_) (Ext.refl _) ?_
  · split at a
    · exact a.ext e
    · exact a
    · exact ⟨a.1.ext e, a.2⟩
  refine k_run (j := 9) h1 rfl rfl (by kernel_rfl) (by kernel_rfl) ?_
  refine runJ ?_
  refine ⟨⟨rfl, ?_⟩⟩
  refine k_make rfl rfl rfl rfl (0 : Int) (bytes := 8) (ln := 2 ^ D.L) (c := 2 ^ D.L) ⟨rfl⟩ ⟨rfl⟩ rfl rfl rfl rfl (Nat.le_refl _) (by omega) (by omega) (fun g v g' hC o e b => ⟨hC.trans e, o.base hC.1⟩) ?_
  intro v9
  refine k_run (j := 14) h1 rfl rfl (by kernel_rfl) (by kernel_rfl) ?_
  refine runJ ?_
  refine s_loadA [N (2 ^ D.L), U D.t, D.vq, N D.w] (off := 0) rfl rfl (rd_varX v1) rfl rfl rfl ?_
  refine runJ ?_
  refine ⟨⟨rfl, ?_⟩⟩
  refine k_fcallX rfl rfl rfl rfl Tryz_ent52 rfl (fun h7 hC7 _ => (top_spec ⟨((2 ^ D.L : Nat) : Int), D.t, D.vq, D.R.qs, ((D.w : Nat) : Int)⟩ h7 (KeyAt.par K (A.ext (e1.trans hC7)))).mono fun v h' ⟨hv, e⟩ => ⟨e, hC7.trans e, by rw [hv]; exact congrArg I (lvl_nat hlq)⟩) (fun v14 hx14 => ?_)
  obtain ⟨-, -, rfl⟩ := hx14
  refine k_call rfl rfl rfl rfl Tryz_ent55 rfl ?_
  intro h9 hC9 hD9 hT9
  have o9 : OwnF h9 h1.size 2 I v9 (List.replicate (2 ^ D.L) 0) := hT9 (9, v9) (by simp)
  refine (ringLiftS_spec g v9 D.R (List.replicate (2 ^ D.L) 0) (D.R.qs.length - 1) h9 K.rok (A1.rng.ext hC9) o9.sl (fun x hx => by have := List.eq_of_mem_replicate hx; omega) (by rw [hRL]; simp) (by omega)).mono ?_
  rintro _ hL ⟨eL, vl, rl, pl, rfl, RL, ml, sl⟩
  refine ⟨hC9.trans eL, .inl ⟨eL, ?_⟩⟩
  have hvl := RL.own.sl.one
  refine k_run (j := 19) hL rfl rfl (by kernel_rfl) (by kernel_rfl) ?_
  refine runJ ?_
  refine ⟨⟨rfl, ?_⟩⟩
  refine k_alloc rfl rfl rfl rfl rfl (fun g p g' hC x e b => ⟨hC.trans e, x, _, b, hC.1⟩) ?_
  intro p8
  refine k_storeV (p := p8) (u := .agg #[vl]) (us := [vl]) (cs := [.slice none 0 0]) (fun g => Ext h1 g ∧ Var g p8 56 [vl] ∧ RowsAt g h1.size pl vl rl ∧ ∃ b, pblk p8 = some b ∧ h1.size ≤ b) rfl rfl rfl rfl rfl rfl (OneAll.cons hvl OneAll.nil) rfl rfl (by kernel_rfl) (fun _ _ a e => ⟨a.1.trans e, a.2.1.ext e, a.2.2.1.ext e, a.2.2.2⟩) (fun g hC hD hT => (hT (19, p8) (by simp)).1) (fun g g' hC hD hT x k => ?_) ?_
  · obtain ⟨xo, b, hb, hbl⟩ := hT (19, p8) (by simp)
    have e' : Ext h1 g' := ext_onlyR hC k fun j hj => by rw [hb] at hj; cases hj; exact hbl
    exact ⟨e', e', x, ((RL.ext hD).neT xo k).base hC9.1, b, hb, hbl⟩
  refine k_run (j := 22) hL rfl rfl (by kernel_rfl) (by kernel_rfl) ?_
  refine runJ ?_
  refine ⟨⟨rfl, ?_⟩⟩
  refine k_done rfl ?_
  rintro h10 hC10 ⟨e10, x10, RL10, b8, hb8, hl8⟩ -
  have x1A := x1.ext e10
  refine runJ ?_
  (apply s_storeV; exact rfl; exact rfl; exact rfl; exact (OneAll.cons hvl OneAll.nil : OneAll [vl]); exact rfl; exact rfl; exact x1A; exact rfl)
  intro h11 x11 k11
  refine ⟨trivial, ?_⟩
  have x11 : Var h11 p2 56 [vl] := x11
  refine runJ ?_
  have e11 : Ext h h11 := k11.oldV (e1.trans e10) b1 (Nat.le_refl _)
  refine finC rfl rfl x11 rfl rfl ⟨e11, vl, rl, pl, rfl, (RL10.neT x1A k11).base e1.1, ?_, sl⟩
  rw [ml]
  unfold zerosL
  rw [show D.R.qs.length - 1 + 1 = D.R.qs.length by omega, List.take_length]

theorem Tryz_ent37 : Ent Tryz.prog 37 := ent_of Tryz.func37 (by kernel_rfl) rfl
set_option maxHeartbeats 4000000 in
theorem square_spec (d g tp : Value) (D : KeyD) (h : Hp) (K : KeyOk D) (A : KeyAt h d g tp D) :
    CallsH Tryz.prog 37 [d] h fun v' h' => Ext h h' ∧ ∃ vz rz p, v' = .agg #[vz] ∧ RowsAt h' h.size p vz rz ∧ rz.length = D.R.qs.length ∧
      ∀ (i q : Nat) (s r : Value × List Nat), D.R.qs[i]? = some q → D.S[i]? = some s → rz[i]? = some r → Cnv (2 ^ D.L) q s.2 s.2 r.2 := by
  have x0 := A.var
  have hRL := K.rl
  have lS := K.sl
  have htl : D.R.ts.length = D.R.qs.length := by have := congrArg List.length K.rok.map; rwa [List.length_map] at this
  (apply enter Tryz.func37 rfl Tryz.ntmps37 rfl)
  refine runJ ?_
  (apply s_alloc; exact rfl; exact rfl; exact rfl)
  intro p2 h1 x1 e1 b1
  (try dsimp only [Value.cells, List.toList_toArray] at x1)
  refine ⟨(by first | exact trivial | exact Ext.refl _ | assumption | exact Ext.trans (by assumption) (by assumption)), ?_⟩
  have A1 := A.ext e1
  have v1 := A1.var
  refine runJN ?_
  refine r_drawnKR (h := h1) (Ext h1) (fun i => Nat.beq i 16) (fun _ => false) Ext (fun _ p g => Var g p 56 [.slice none 0 0] ∧ ∃ b, pblk p = some b ∧ h1.size ≤ b) rfl mixed (by kernel_rfl) (fun _ _ e => e) (fun i p g g' a e => ⟨a.1.ext e, a.2⟩) (Ext.refl _) ?_
  refine k_run (j := 12) h1 rfl rfl (by kernel_rfl) (by kernel_rfl) ?_
  refine runJ ?_
  refine s_loadA [D.vs] (off := 5) rfl rfl (rd_varX v1) rfl rfl rfl ?_
  refine runJ ?_
  refine s_loadA [D.vs] (off := 5) rfl rfl (rd_varX v1) rfl rfl rfl ?_
  refine runJ ?_
  refine ⟨⟨rfl, ?_⟩⟩
  refine k_call rfl rfl rfl rfl Tryz_ent56 rfl ?_
  intro h9 hC9 hD9 hT9
  refine (ringMul_spec g D.vs D.vs D.R D.S D.S h9 K.rok (A1.rng.ext hC9) (A1.pol.ext hC9) (A1.pol.ext hC9) K.sok K.sok rfl).mono ?_
  rintro _ hL ⟨eL, vl, rl, pl, rfl, RL, ll, ml⟩
  refine ⟨hC9.trans eL, .inl ⟨eL, ?_⟩⟩
  have hvl := RL.own.sl.one
  refine k_run (j := 16) hL rfl rfl (by kernel_rfl) (by kernel_rfl) ?_
  refine runJ ?_
  refine ⟨⟨rfl, ?_⟩⟩
  refine k_alloc rfl rfl rfl rfl rfl (fun g p g' hC x e b => ⟨hC.trans e, x, _, b, hC.1⟩) ?_
  intro p8
  refine k_storeV (p := p8) (u := .agg #[vl]) (us := [vl]) (cs := [.slice none 0 0]) (fun g => Ext h1 g ∧ Var g p8 56 [vl] ∧ RowsAt g h1.size pl vl rl ∧ ∃ b, pblk p8 = some b ∧ h1.size ≤ b) rfl rfl rfl rfl rfl rfl (OneAll.cons hvl OneAll.nil) rfl rfl (by kernel_rfl) (fun _ _ a e => ⟨a.1.trans e, a.2.1.ext e, a.2.2.1.ext e, a.2.2.2⟩) (fun g hC hD hT => (hT (16, p8) (by simp)).1) (fun g g' hC hD hT x k => ?_) ?_
  · obtain ⟨xo, b, hb, hbl⟩ := hT (16, p8) (by simp)
    have e' : Ext h1 g' := ext_onlyR hC k fun j hj => by rw [hb] at hj; cases hj; exact hbl
    exact ⟨e', e', x, ((RL.ext hD).neT xo k).base hC9.1, b, hb, hbl⟩
  refine k_run (j := 19) hL rfl rfl (by kernel_rfl) (by kernel_rfl) ?_
  refine runJ ?_
  refine ⟨⟨rfl, ?_⟩⟩
  refine k_done rfl ?_
  rintro h10 hC10 ⟨e10, x10, RL10, b8, hb8, hl8⟩ -
  have x1A := x1.ext e10
  refine runJ ?_
  (apply s_storeV; exact rfl; exact rfl; exact rfl; exact (OneAll.cons hvl OneAll.nil : OneAll [vl]); exact rfl; exact rfl; exact x1A; exact rfl)
  intro h11 x11 k11
  refine ⟨trivial, ?_⟩
  have x11 : Var h11 p2 56 [vl] := x11
  refine runJ ?_
  have e11 : Ext h h11 := k11.oldV (e1.trans e10) b1 (Nat.le_refl _)
  refine finC rfl rfl x11 rfl rfl ⟨e11, vl, rl, pl, rfl, (RL10.neT x1A k11).base e1.1, by omega, fun i q s r hq hs hr => ?_⟩
  have hi := (List.getElem?_eq_some_iff.1 hq).1
  obtain ⟨t, ht⟩ := get_lt (l := D.R.ts) (j := i) (by omega)
  have hk := K.rok.ok t (List.mem_of_getElem? ht)
  have hq' : t.2.q = q := by
    have hm := congrArg (fun l => l[i]?) K.rok.map
    simp only [List.getElem?_map, ht, hq, Option.map_some, Option.some.injEq] at hm
    exact hm
  have := prd_cnv hk.1 (ml i s s t r hs hs ht hr)
  rw [hk.2.1, hRL, hq'] at this
  exact this

theorem Tryz_ent38 : Ent Tryz.prog 38 := ent_of Tryz.func38 (by kernel_rfl) rfl
set_option maxHeartbeats 4000000 in
theorem turned_spec (d g tp : Value) (D : KeyD) (k : Int) (h : Hp) (TB0 : TB h) (K : KeyOk D) (A : KeyAt h d g tp D) (PP : parP ⟨((2 ^ D.L : Nat) : Int), D.t, D.vq, D.R.qs, ((D.w : Nat) : Int)⟩) (QT : QOk D.L D.t) (hk : -9223372036854775808 ≤ k ∧ k < 9223372036854775808) :
    CallsH Tryz.prog 38 [d, I k] h fun v' h' => Ext h h' ∧ ∃ vz rz p, v' = .agg #[vz] ∧ RowsAt h' h.size p vz rz ∧ rz.length = D.R.qs.length ∧
      ∀ (i q : Nat) (s r : Value × List Nat), D.R.qs[i]? = some q → D.S[i]? = some s → rz[i]? = some r → r.2 = turnL (2 ^ D.L) q (pow3 (2 ^ D.L) (k.emod ((2 ^ D.L / 2 : Nat) : Int)).toNat) s.2 := by
  have hl9 := K.rok.l9
  have hl3 := K.l3
  have x0 := A.var
  have hRL := K.rl
  have lS := K.sl
  (apply enter Tryz.func38 rfl Tryz.ntmps38 rfl)
  refine runJ ?_
  (apply s_alloc; exact rfl; exact rfl; exact rfl)
  intro p2 h1 x1 e1 b1
  (try dsimp only [Value.cells, List.toList_toArray] at x1)
  refine ⟨(by first | exact trivial | exact Ext.refl _ | assumption | exact Ext.trans (by assumption) (by assumption)), ?_⟩
  have A1 := A.ext e1
  have v1 := A1.var
  refine runJ ?_
  refine s_loadA [N (2 ^ D.L), U D.t, D.vq, N D.w] (off := 0) rfl rfl (rd_varP v1) rfl rfl rfl ?_
  refine runJ ?_
  apply (s_call Tryz_ent84 rfl rfl rfl)
  refine (batchNew_spec ⟨((2 ^ D.L : Nat) : Int), D.t, D.vq, D.R.qs, ((D.w : Nat) : Int)⟩ D.L h1 (TB0.ext e1) (KeyAt.par K A1) PP rfl (by omega) (by omega) QT).mono ?_
  rintro r h2 ⟨e2, gb, B, rfl, BA, BO, BL, BT⟩
  refine ⟨(by first | exact trivial | exact Ext.refl _ | assumption | exact Ext.trans (by assumption) (by assumption)), ?_⟩
  have e12 := e1.trans e2
  have A2 := A.ext e12
  have v2 := A2.var
  have GB := BA.var
  rw [BL, BT] at GB
  generalize hpw : pow3 (2 ^ D.L) (k.emod ((2 ^ D.L / 2 : Nat) : Int)).toNat = pw
  have hpo : pw % 2 = 1 := by rw [← hpw]; exact pow3_odd _ _
  have hpn : 2 ^ D.L ≤ 2 ^ 9 := Nat.pow_le_pow_right (by decide) (by omega)
  have e9 : (2 : Nat) ^ 9 = 512 := by decide
  have hpb : pw < 4611686018427387904 := by
    have : pw < 2 * 2 ^ D.L := by rw [← hpw]; unfold pow3; exact Nat.mod_lt _ (by have := Nat.two_pow_pos D.L; omega)
    omega
  refine runJN ?_
  refine r_drawnKR (h := h2) (Ext h2) (fun i => Nat.beq i 15) (fun _ => false) Ext (fun _ p g => Var g p 56 [.slice none 0 0] ∧ ∃ b, pblk p = some b ∧ h2.size ≤ b) rfl mixed (by kernel_rfl) (fun _ _ e => e) (fun i p g g' a e => ⟨a.1.ext e, a.2⟩) (Ext.refl _) ?_
  refine k_run (j := 10) h2 rfl rfl (by kernel_rfl) (by kernel_rfl) ?_
  refine runJ ?_
  refine s_loadA [D.vs] (off := 5) rfl rfl (rd_varX v2) rfl rfl rfl ?_
  refine runJ ?_
  refine ⟨⟨rfl, ?_⟩⟩
  refine k_call rfl rfl rfl rfl Tryz_ent86 rfl ?_
  intro h7 hC7 hD7 hT7
  refine (power_spec gb _ _ D.L D.t k h7 (GB.ext hC7) (by omega) (by omega) hk).mono ?_
  rintro _ h8 ⟨rfl, rfl⟩
  refine ⟨hC7, .inl ⟨Ext.refl _, ?_⟩⟩
  rw [hpw]
  refine k_call rfl rfl rfl rfl Tryz_ent85 rfl ?_
  intro h9 hC9 hD9 hT9
  refine (turn_spec g D.vs D.R D.S pw h9 K.rok (A2.rng.ext hC9) (A2.pol.ext hC9) K.sok hpb hpo).mono ?_
  rintro _ hL ⟨eL, vl, rl, pl, rfl, RL, ll, ml⟩
  refine ⟨hC9.trans eL, .inl ⟨eL, ?_⟩⟩
  have hvl := RL.own.sl.one
  refine k_run (j := 15) hL rfl rfl (by kernel_rfl) (by kernel_rfl) ?_
  refine runJ ?_
  refine ⟨⟨rfl, ?_⟩⟩
  refine k_alloc rfl rfl rfl rfl rfl (fun g p g' hC x e b => ⟨hC.trans e, x, _, b, hC.1⟩) ?_
  intro p8
  refine k_storeV (p := p8) (u := .agg #[vl]) (us := [vl]) (cs := [.slice none 0 0]) (fun g => Ext h2 g ∧ Var g p8 56 [vl] ∧ RowsAt g h2.size pl vl rl ∧ ∃ b, pblk p8 = some b ∧ h2.size ≤ b) rfl rfl rfl rfl rfl rfl (OneAll.cons hvl OneAll.nil) rfl rfl (by kernel_rfl) (fun _ _ a e => ⟨a.1.trans e, a.2.1.ext e, a.2.2.1.ext e, a.2.2.2⟩) (fun g hC hD hT => (hT (15, p8) (by simp)).1) (fun g g' hC hD hT x k => ?_) ?_
  · obtain ⟨xo, b, hb, hbl⟩ := hT (15, p8) (by simp)
    have e' : Ext h2 g' := ext_onlyR hC k fun j hj => by rw [hb] at hj; cases hj; exact hbl
    exact ⟨e', e', x, ((RL.ext hD).neT xo k).base hC9.1, b, hb, hbl⟩
  refine k_run (j := 18) hL rfl rfl (by kernel_rfl) (by kernel_rfl) ?_
  refine runJ ?_
  refine ⟨⟨rfl, ?_⟩⟩
  refine k_done rfl ?_
  rintro h10 hC10 ⟨e10, x10, RL10, b8, hb8, hl8⟩ -
  have x1A := x1.ext (e2.trans e10)
  refine runJ ?_
  (apply s_storeV; exact rfl; exact rfl; exact rfl; exact (OneAll.cons hvl OneAll.nil : OneAll [vl]); exact rfl; exact rfl; exact x1A; exact rfl)
  intro h11 x11 k11
  refine ⟨trivial, ?_⟩
  have x11 : Var h11 p2 56 [vl] := x11
  refine runJ ?_
  have e11 : Ext h h11 := k11.oldV (e12.trans e10) b1 (Nat.le_refl _)
  refine finC rfl rfl x11 rfl rfl ⟨e11, vl, rl, pl, rfl, (RL10.neT x1A k11).base e12.1, by omega, fun i q s r hq hs hr => ?_⟩
  have := ml i q s r hs hq hr
  rw [hRL] at this
  exact this

end Go.Proofs.YtfcmdefigldpnaaGreatDoor


namespace Go.Den
set_option linter.unusedVariables false
set_option maxRecDepth 8000
open Go Go.RowKit

section rules
variable {P : Program} {n : Nat} {Q : Post} {l : Fr} {ops : List Oper} {Ch : Hp → Prop} {E F : Nat → Bool} {K : Hp → Hp → Prop} {Φ : Nat → Value → Hp → Prop} {i : Nat} {D : Hp → Prop} {fl : List (Nat × Value)}

/-- A float: what it hands back is known to be such a value, at a time like this. -/
theorem k_floatD {o : Oper} (ho : opAt ops i = some o) (hF : F i = true) (hg : gd ops l o.guard = some true)
    (hx : ∀ a w h, Fits l n a → w.heap = h → Ch h → (∀ p ∈ fl, ancB ops i p.1 = true → Φ p.1 p.2 h) → Eff P o a w fun v w' => Oth w w' ∧ Ext h w'.heap ∧ Ch w'.heap ∧ Φ i v w'.heap)
    (hl : ∀ a v, (∃ h, Ch h ∧ D h ∧ Φ i v h) → Fits l n a → ∃ l', Fits l' n (a.put o.dst v) ∧ SK P n ops Ch E F K Φ Q (i + 1) D ((i, v) :: fl) l') : SK P n ops Ch E F K Φ Q i D fl l := SK.mk fun a w0 hf => by
  obtain ⟨h1, h2⟩ := s_step ho
  rw [h2]
  refine ⟨o, h1, .inr (.inl ⟨hF, gd_wanted hf hg, fun w hC hT => Eff_mono (fun v w' hk => ?_) (hx a w w.heap hf rfl hC.2 hT), fun v hv => ?_⟩)⟩
  · exact ⟨⟨hk.1, hk.2.1⟩, ⟨hC.1.trans hk.1, hk.2.2.1⟩, hk.2.2.2⟩
  · obtain ⟨w, hC, hD, -, hp⟩ := hv
    obtain ⟨l', g1, g2⟩ := hl a v ⟨w.heap, hC.2, hD, hp⟩ hf
    exact g2.run _ w0 g1

/-- A read of a cell that another one may have been stored in: it floats. -/
theorem k_loadF {d off : Nat} {t : TypeId} {x : Operand} {p : Value} {ty : TypeId} {ps : String} {af : Array Edge} {g : Option (Nat × Bool)} (ho : opAt ops i = some ⟨some d, .load t x, ty, ps, af, g⟩) (hg : gd ops l g = some true) (hF : F i = true) (hb : Nat.blt d n = true)
    (hx : ev l x = some (ptrOff p off)) (ht : plainTy P t = true)
    (hr : ∀ h, Ch h → ∃ e cs u, Var h p e cs ∧ nth cs off = some u ∧ Φ i u h)
    (k : ∀ v, (∃ h, Ch h ∧ D h ∧ Φ i v h) → SK P n ops Ch E F K Φ Q (i + 1) D ((i, v) :: fl) ((d, v) :: l)) : SK P n ops Ch E F K Φ Q i D fl l :=
  k_floatD ho hF hg (fun a w h hf hw hC hT => by
    subst hw
    obtain ⟨e, cs, u, hv, hj, hp⟩ := hr _ hC
    rw [nth_eq] at hj
    obtain ⟨gg, rfl, hc⟩ := hv.cell hj
    have hl := run_load1 (P := P) (t := t) (a := (⟨gg, 0, none⟩ : Addr).add off) (w := w) ht (by rw [Addr.add_lit, cell?_cellH, Nat.zero_add]; exact hc)
    unfold Eff
    simp only [execOp, hf.ev hx, ptrOff, Sem.run_bind, hl]
    exact ⟨⟨rfl, rfl, rfl⟩, Ext.refl _, hC, hp⟩) (fun a v hv hf => ⟨_, hf.put d v hb, k v hv⟩)

/-- []T{..}, T of s cells: it floats. -/
theorem k_litC {d ln s : Nat} {t : TypeId} {parts : Array (Nat × Operand)} {vs : List Value} {css : List (List Value)} {e : TypeId} {zc : List Value} {ty : TypeId} {ps : String} {af : Array Edge} {g : Option (Nat × Bool)} (ho : opAt ops i = some ⟨some d, .buildSlice t ln parts, ty, ps, af, g⟩) (hg : gd ops l g = some true) (hF : F i = true) (hb : Nat.blt d n = true)
    (cs : List Value) (he : evs l (parts.toList.map (·.2)) = some vs) (hc : CellsAll vs css)
    (ht : P.underlying t = some (.slice e)) (hi : (P.info? e).map (fun i => (i.size, i.zero.map fun z => z.cells.toList)) = some (s, some zc)) (hs : Nat.beq zc.length s = true) (hs0 : Nat.blt 0 s = true) (h0 : Nat.blt 0 ln = true) (hln : Nat.ble (ln * s) 16777216 = true)
    (hf : fillP (fun i => some (i * s, s)) ((List.range (ln * s)).map fun j => zc.getD (j % s) undef) ((parts.toList.map (·.1)).zip css) = some cs) (hcl : Nat.beq cs.length (ln * s) = true)
    (hk : ∀ h v h', Ch h → Own h' h.size e s v ln cs → Ext h h' → v.ownBlock = some h.size → Ch h' ∧ Φ i v h')
    (k : ∀ v, SK P n ops Ch E F K Φ Q (i + 1) D ((i, v) :: fl) ((d, v) :: l)) : SK P n ops Ch E F K Φ Q i D fl l :=
  k_float ho hF hg (fun a w h hfit hw hC hT => by
    subst hw
    have hs := Nat.eq_of_beq_eq_true hs
    have hcl := Nat.eq_of_beq_eq_true hcl
    have hs0 : 0 < s := Nat.le_of_ble_eq_true hs0
    have h0 : 0 < ln := Nat.le_of_ble_eq_true h0
    have hln := Nat.le_of_ble_eq_true hln
    cases hq : P.info? e with
    | none => rw [hq] at hi; cases hi
    | some inf =>
      rw [hq] at hi
      simp only [Option.map_some, Option.some.injEq, Prod.mk.injEq] at hi
      obtain ⟨i1, i3⟩ := hi
      cases hz : inf.zero with
      | none => rw [hz] at i3; cases i3
      | some z =>
        rw [hz] at i3
        simp only [Option.map_some, Option.some.injEq] at i3
        have hzs : z.cells.size = s := by rw [← hs, ← i3]; simp
        have hpa : (parts.map fun (i, x) => (i, a.eval x)).toList = (parts.toList.map (·.1)).zip vs := by
          rw [← hfit.evs he, Array.toList_map, List.map_map, List.zip_map']; rfl
        have hzip : ((parts.toList.map (·.1)).zip vs).map (fun x => (x.1, x.2.cells.toList)) = (parts.toList.map (·.1)).zip css := by
          rw [← hc.eq, List.zip_map_right]; rfl
        have hmade : ((Array.range (ln * inf.size)).map (z.cells[· % z.cells.size]!)) = ((List.range (ln * s)).map fun j => zc.getD (j % s) undef).toArray := by
          apply Array.ext'
          rw [i1]
          simp only [Array.toList_map, Array.toList_range]
          apply List.map_congr_left
          intro j hj
          have hj1 : j % s < s := Nat.mod_lt _ hs0
          rw [hzs, getElem!_pos z.cells (j % s) (by omega), ← i3, List.getD_eq_getElem?_getD, List.getElem?_eq_getElem (by simp; omega)]
          simp
        have hr := Go.run_buildSlice (P := P) w t e ln (parts.map fun (i, x) => (i, a.eval x)) cs.toArray inf z ht hq hz (by rw [i1]; omega) (by rw [i1]; exact Nat.ne_of_gt (Nat.mul_pos h0 hs0)) (by
          rw [hmade, i1, hpa]
          exact fill_fillP _ _ _ (by rw [hzip]; exact hf))
        have ho : Own (w.alloc (.cells cs.toArray e)).heap w.heap.size e s (.slice (some ⟨w.heap.size, 0, none⟩) ln ln) ln cs :=
          ⟨hcl, .inr ⟨w.heap.size, ln, _, rfl, Nat.le_refl _, heap_alloc_new w _, Nat.le_refl _, by
            have : ln ≤ ln * s := Nat.le_mul_of_pos_right _ hs0
            simp [maxLen]; omega, by simp [hcl], by rw [← hcl]; simp⟩⟩
        have := hk _ _ _ hC ho (Ext.push _ _) rfl
        unfold Eff
        simp only [execOp, Sem.run_bind, hr]
        exact ⟨⟨rfl, rfl, rfl⟩, Ext.push _ _, this.1, this.2⟩) (fun a v hf => ⟨_, hf.put d v hb, k v⟩)

/-- append in its turn. -/
theorem k_append {d : Nat} {t : TypeId} {x y : Operand} {v u : Value} {m k' s B bytes : Nat} {cs news : List Value} {e : TypeId} {z0 : Value} {ty : TypeId} {ps : String} {af : Array Edge} {g : Option (Nat × Bool)} (ho : opAt ops i = some ⟨some d, .call ⟨.builtin .append, #[x, y], #[t, t]⟩, ty, ps, af, g⟩) (hg : gd ops l g = some true) (hE : E i = true) (hb : Nat.blt d n = true)
    (hx : ev l x = some v) (hy : ev l y = some u) (ht : P.underlying t = some (.slice e)) (hi : (P.info? e).map (fun i => (i.size, i.bytes, i.zero)) = some (s, bytes, some z0)) (hzs : z0.cells.size = s) (hsz : 0 < s)
    (hl : news.length = k' * s) (h1 : ∀ u ∈ news, u.oneCell' = true) (h63 : m + k' ≤ maxLen) (hby : (m + k') * bytes ≤ 140737488355328)
    (hr : ∀ h, Ch h → D h → (∀ p ∈ fl, Φ p.1 p.2 h) → Own h B e s v m cs ∧ Sl h u k' news ∧ B ≤ h.size)
    (k : ∀ h v' h', Ch h → D h → (∀ p ∈ fl, Φ p.1 p.2 h) → Own h' B e s v' (m + k') (cs ++ news) → Only v.ownBlock h h' → (v'.ownBlock = v.ownBlock ∨ ∃ b, v'.ownBlock = some b ∧ h.size ≤ b) →
      Ch h' ∧ ∃ D' : Hp → Prop, (∀ h1 h2, D' h1 → Ext h1 h2 → D' h2) ∧ D' h' ∧ K h h' ∧ SK P n ops Ch E F K Φ Q (i + 1) D' fl ((d, v') :: l)) : SK P n ops Ch E F K Φ Q i D fl l :=
  k_act ho hE hg fun h hC hD hT a w hf hw => by
    subst hw
    obtain ⟨o, s', hB⟩ := hr _ hC hD hT
    obtain ⟨v', w', g1, g2, g3, g4, g5⟩ := own_append (P := P) (ty := ty) ht hi hzs hsz o s' hl h1 h63 hby hB
    obtain ⟨c1, D', c2, c3, c4, c5⟩ := k _ v' w'.heap hC hD hT g2 g3 g4
    unfold Eff execOp
    simp only [resolve, invoke, builtin, Sem.run_bind, Sem.run_pure, Result.andThen_ok, List.map_toArray, List.map_cons, List.map_nil, hf.ev hx, hf.ev hy, g1]
    exact ⟨g5, c1, D', _, c2, c3, hf.put d _ hb, .inl ⟨c4, c5⟩⟩

/-- A store into a variable's cell, behind all floats. -/
theorem k_storeC {t e : TypeId} {off : Nat} {x y : Operand} {p u : Value} {cs : List Value} {ty : TypeId} {ps : String} {af : Array Edge} {g : Option (Nat × Bool)} (D' : Hp → Prop) (ho : opAt ops i = some ⟨none, .store t x y, ty, ps, af, g⟩) (hg : gd ops l g = some true) (hE : E i = true)
    (hx : ev l x = some (ptrOff p off)) (hy : ev l y = some u) (h1 : u.oneCell' = true) (ht : (P.info? t).map (·.size) = some 1) (hl : Nat.blt off cs.length = true)
    (hnf : (List.range' (i + 1) (ops.length - (i + 1))).all (fun i => !F i) = true) (hD' : ∀ h1 h2, D' h1 → Ext h1 h2 → D' h2)
    (hv : ∀ h, Ch h → D h → (∀ p ∈ fl, Φ p.1 p.2 h) → Var h p e cs)
    (hs : ∀ h h', Ch h → D h → (∀ p ∈ fl, Φ p.1 p.2 h) → Var h' p e (cs.set off u) → Only (pblk p) h h' → Ch h' ∧ D' h')
    (k : SK P n ops Ch E F K Φ Q (i + 1) D' [] l) : SK P n ops Ch E F K Φ Q i D fl l :=
  k_act ho hE hg fun h hC hD hT a w hf hw => by
    have hv := hv h hC hD hT
    have hs := hs h
    subst hw
    obtain ⟨g, rfl, hgc⟩ := hv
    have hus : u.cells.toList = [u] := oneL h1
    have hus1 : u.cells.size = 1 := by rw [← Array.length_toList, hus]; rfl
    have hlt : off < cs.length := Nat.le_of_ble_eq_true hl
    have hr := run_storeVar (P := P) (w := w) (t := t) (off := off) (u := u) hgc (by rw [hus1]; exact ht) (by rw [hus]; exact (OneAll.cons h1 OneAll.nil).all) (by rw [hus1]; omega)
    rw [hus, hus1] at hr
    have hcell : cs.take off ++ [u] ++ cs.drop (off + 1) = cs.set off u := by
      have := set_seg cs off u hlt
      first | exact this | exact this.symm
    rw [hcell] at hr
    have hg' := setRow_heap w g cs.toArray (cs.set off u).toArray e _ hgc
    have := hs _ hC hD hT ⟨g, rfl, hg'⟩ ⟨by simp, fun j _ hj => setRow_other w g j _ (fun q => hj (by simp [pblk, q]))⟩
    unfold Eff
    simp only [execOp, hf.ev hx, hf.ev hy, ptrOff, Addr.add_lit, Nat.zero_add, Instr.storeAt, Instr.sureAddr, Sem.run_bind, Sem.run_pure, Result.andThen_ok, hr]
    exact ⟨⟨rfl, rfl, rfl⟩, this.1, D', l, hD', this.2, hf.putNone _, .inr ⟨hnf, k⟩⟩
end rules
end Go.Den

