/- Texts BatB to PspA of this work, joined: each says in its own head what it proves, and of which condition. -/
import Derived.Test.YtfcmdefigldpnaaDoorMPk18
/- Package batch: a row is packed. No condition. -/
namespace Go.Proofs.YtfcmdefigldpnaaDoor
set_option linter.unusedVariables false
set_option maxRecDepth 8000
open Go Go.Den Go.RowKit Go.Mth Go.Dig

theorem cells_neq {h : Hp} {p w u : Value} {cs : List Value} {k : Nat} (s : Cells h p (u :: cs)) (hw : w.ownBlock = some k) (hk : h.size ≤ k) : pblk p ≠ w.ownBlock := fun e => by
  obtain ⟨b, o, rfl, hc⟩ := s
  have := cellH_lt (hc 0 u rfl)
  rw [hw] at e
  have e : some b = some k := e
  cases e; omega

/-- What a batch holds. -/
structure BatD where
  L : Nat
  t : Nat
  vt : Value
  T : Tbl
  vp : Value
  ps : List (Nat × Nat)
def pr2 (x : Nat × Nat) : List Value := [N x.1, N x.2]
structure BatAt (h : Hp) (g : Value) (B : BatD) : Prop where mk ::
  var : Var h g 77 [N (2 ^ B.L), N (2 ^ B.L / 2), U B.t, B.vt, B.vp]
  tab : TblAt h B.vt B.T
  pl : SlA h pr2 2 B.vp B.ps
theorem BatAt.ext {h h' : Hp} {g : Value} {B : BatD} (s : BatAt h g B) (e : Ext h h') : BatAt h' g B := ⟨s.var.ext e, s.tab.ext e, s.pl.ext e⟩
/-- Where the value of a slot, and that beneath it, stand. -/
def place (n i : Nat) : Nat × Nat := ((pow3 n i - 1) / 2, (2 * n - pow3 n i - 1) / 2)
structure BatOk (B : BatD) : Prop where mk ::
  l1 : 1 ≤ B.L
  l9 : B.L ≤ 9
  tl : B.T.L = B.L
  tq : B.T.q = B.t
  ok : TblOk B.T
  root : RootR B.t (2 ^ (B.L + 1)) B.T.w
  ps : B.ps = (List.range (2 ^ B.L / 2)).map (place (2 ^ B.L))
/-- The values of a row, each laid in its two places. -/
def layF (n t : Nat) : List Int → List Nat
  | xs => (xs.zipIdx).foldl (fun ys x => (ys.set (place n x.2).1 (liftm x.1 t)).set (place n x.2).2 (liftm x.1 t)) (List.replicate n 0)
theorem layF_snoc (n t : Nat) (xs : List Int) (x : Int) : layF n t (xs ++ [x]) = ((layF n t xs).set (place n xs.length).1 (liftm x t)).set (place n xs.length).2 (liftm x t) := by
  unfold layF
  dsimp only
  rw [List.zipIdx_append, List.foldl_append]
  simp
theorem layF_len (n t : Nat) (xs : List Int) : (layF n t xs).length = n := by
  unfold layF
  dsimp only
  suffices H : ∀ (l : List (Int × Nat)) (ys : List Nat), ys.length = n → (l.foldl (fun ys x => (ys.set (place n x.2).1 (liftm x.1 t)).set (place n x.2).2 (liftm x.1 t)) ys).length = n from H _ _ (by simp)
  intro l
  induction l with
  | nil => intro ys h; exact h
  | cons a l ih => intro ys h; rw [List.foldl_cons]; exact ih _ (by simp [h])
theorem liftm_lt9 {v : Int} {t : Nat} (ht : 0 < t) : liftm v t < t := by
  unfold liftm
  rw [if_neg (by omega)]
  have h1 := Int.emod_nonneg v (show (t : Int) ≠ 0 by omega)
  have h2 := Int.emod_lt_of_pos v (show (0 : Int) < t by omega)
  omega
theorem layF_lt {n t : Nat} (ht : 0 < t) (xs : List Int) : ∀ x ∈ layF n t xs, x < t := by
  unfold layF
  dsimp only
  suffices H : ∀ (l : List (Int × Nat)) (ys : List Nat), (∀ y ∈ ys, y < t) → ∀ y ∈ (l.foldl (fun ys x => (ys.set (place n x.2).1 (liftm x.1 t)).set (place n x.2).2 (liftm x.1 t)) ys), y < t from H _ _ (by intro y hy; have := (List.mem_replicate.1 hy).2; omega)
  intro l
  induction l with
  | nil => intro ys h; exact h
  | cons a l ih =>
    intro ys h
    rw [List.foldl_cons]
    refine ih _ fun y hy => ?_
    rcases List.mem_or_eq_of_mem_set hy with hy | rfl
    · rcases List.mem_or_eq_of_mem_set hy with hy | rfl
      · exact h y hy
      · exact liftm_lt9 ht
    · exact liftm_lt9 ht
theorem place_lt {n : Nat} (hn : 0 < n) (i : Nat) : (place n i).1 < n ∧ (place n i).2 < n := by
  have : pow3 n i < 2 * n := Nat.mod_lt _ (by omega)
  unfold place
  constructor <;> dsimp only <;> omega

set_option maxHeartbeats 1000000 in
theorem pack_spec (g vv : Value) (B : BatD) (xs : List Int) (h : Hp) (K : BatOk B) (A : BatAt h g B) (s : SlF h I vv xs) (hx : ∀ x ∈ xs, -9223372036854775808 ≤ x ∧ x < 9223372036854775808) (hl : xs.length ≤ 2 ^ B.L / 2) :
    CallsH Tryd.prog 8 [g, vv] h fun v' h' => Ext h h' ∧ ∃ r rs, v' = .tuple #[r, N 0] ∧ OwnF h' h.size 22 U r rs ∧ Bck B.T (layF (2 ^ B.L) B.t xs) rs := by
  have hn : 2 ≤ 2 ^ B.L ∧ 2 ^ B.L ≤ 512 := ⟨Nat.pow_le_pow_right (n := 2) (by omega) K.l1, Nat.pow_le_pow_right (n := 2) (by omega) K.l9⟩
  have G := A.var
  have pl := A.pl
  have hps := K.ps
  have hq61 := K.ok.q61
  have hq1 := K.ok.q1
  have htq := K.tq
  have htl := K.tl
  have Tb := A.tab
  have Tk := K.ok
  obtain ⟨L, t, vt, T, vp, ps⟩ := B
  dsimp only at G pl hps hn hl htq htl Tb Tk hq61 hq1 ⊢
  rw [htq] at hq61 hq1
  have hBk := fun va xs h => back_spec vt va T xs h Tk
  rw [htl, htq] at hBk
  generalize hnn : 2 ^ L = n at *
  obtain ⟨gb, hgp, -⟩ := id G
  (apply enter Tryd.func8 rfl Tryd.ntmps8 rfl)
  refine runJ ?_
  rw [decide_eq_false (show ¬ n / 2 < xs.length by omega)]
  refine runJ ?_
  (apply (s_make (f := U) (bytes := 8) (0)); (first | exact isK_c | exact isK_t rfl); (first | exact isK_c | exact isK_t rfl); exact rfl; exact rfl; exact rfl; exact rfl; exact rfl; exact rfl; omega; omega; omega)
  intro w1 h1 o1 e1 b1
  refine ⟨(by first | exact trivial | exact Ext.refl _ | assumption | exact Ext.trans (by assumption) (by assumption)), ?_⟩
  have s1 := s.ext e1
  have ng := G.neq (u := w1) b1 (Nat.le_refl _)
  have hpn : ps.length = n / 2 := by rw [hps]; simp
  refine runJ ?_
  (first | (apply w_seqB; exact rfl; apply w_block; exact rfl) | skip)
  apply (w_loop (σ := Nat) rfl (fun j => [(0, g), (1, vv), (6, w1), (26, vv), (27, N xs.length), (28, N j)])
    (fun j h' => Ext h h' ∧ j ≤ xs.length ∧ OwnF h' h.size 22 U w1 (layF n t (xs.take j))) (fun j => xs.length - j) 0)
  · exact (Sub.cons rfl (Sub.cons rfl (Sub.cons rfl (Sub.cons rfl (Sub.cons rfl (Sub.cons rfl (Sub.nil _)))))))
  · exact ⟨e1, Nat.zero_le _, o1⟩
  clear o1 s1
  rintro j h2 ⟨e2, j1, o2⟩
  have s2 := s.ext e2
  have G2 := G.ext e2
  have p2 := pl.ext e2
  refine runJ ?_
  (apply w_condD; exact rfl; exact rfl) <;> intro hj
  · obtain ⟨x, hxj⟩ := get_lt hj
    have hxb := hx x (List.mem_of_getElem? hxj)
    obtain ⟨y, hyj⟩ := get_lt (l := ps) (j := j) (by omega)
    have hy : y = place n j := by
      rw [hps, List.getElem?_map, List.getElem?_range (by omega)] at hyj
      exact (Option.some.inj hyj).symm
    have hlt := place_lt (n := n) (by omega) j
    rw [← hy] at hlt
    have hlen := layF_len n t (xs.take j)
    have hcl := (pl.cells hyj)
    have hnc := cells_neq (w := w1) hcl b1 (Nat.le_refl _)
    have hl1 : y.1 < (layF n t (xs.take j)).length := by omega
    have hl2 : y.2 < ((layF n t (xs.take j)).set y.1 (liftm x t)).length := by rw [List.length_set]; omega
    refine runJ ?_
    apply (s_call Tryd_ent31 rfl rfl rfl)
    refine (lift_spec x t h2 hxb (by omega)).mono ?_
    rintro _ _ ⟨rfl, rfl⟩
    refine ⟨(by first | exact trivial | exact Ext.refl _ | assumption | exact Ext.trans (by assumption) (by assumption)), ?_⟩
    refine runJN ?_
    (apply (r_drawnO (w1.ownBlock)); exact rfl; exact mixed; kernel_rfl)
    refine runJ ?_
    refine s_indexArr (p := ptrAt vp (j * 2)) (j := 0) rfl hcl.ptr isK_c rfl rfl rfl (by decide) ?_
    have hc2 := hcl.ext e2
    have hcp : isPtr (ptrAt vp (j * 2)) = true := hcl.ptr
    generalize hpj : ptrAt vp (j * 2) = pj at *
    refine runJ ?_
    refine s_indexArr (p := pj) (j := 1) (congrArg some hpj) hcp isK_c rfl rfl rfl (by decide) ?_
    refine runJ ?_
    (apply (s_storeF (liftm x t)); exact rfl; exact rfl; exact rfl; exact rfl; exact rfl; exact o2; exact rfl; (first | assumption | omega))
    intro h3 o3 k3
    refine ⟨(by first | exact k3 | exact trivial | exact Ext.refl _ | assumption | exact Ext.trans (by assumption) (by assumption)), ?_⟩
    refine runJ ?_
    (apply (s_storeF (liftm x t)); exact rfl; exact rfl; exact rfl; exact rfl; exact rfl; exact o3; exact rfl; (first | assumption | omega))
    intro h4 o4 k4
    refine ⟨(by first | exact (k3.trans k4) | exact trivial | exact Ext.refl _ | assumption | exact Ext.trans (by assumption) (by assumption)), ?_⟩
    have e4 := o2.old (k3.trans k4) e2 (Nat.le_refl _)
    have hlj : (xs.take j).length = j := by rw [List.length_take]; omega
    refine runJ ?_
    apply again_normal (j + 1)
    · exact (Sub.cons rfl (Sub.cons rfl (Sub.cons rfl (Sub.cons rfl (Sub.cons rfl (Sub.cons rfl (Sub.nil _)))))))
    · refine ⟨e4, hj, ?_⟩
      rw [take_snoc hxj, layF_snoc, hlj, ← hy]
      exact o4
    · omega
  · obtain rfl : j = xs.length := by omega
    rw [List.take_length] at o2
    have T2 := Tb.ext e2
    have o2s := o2.sl
    have hfit : Fit n t (layF n t xs) := ⟨layF_len n t xs, layF_lt (by omega) xs⟩
    refine runJ ?_
    apply (s_call Tryd_ent32 rfl rfl rfl)
    refine (hBk w1 _ h2 T2 o2s hfit).mono ?_
    rintro _ h3 ⟨e3, r3, ys, rfl, o3, B3⟩
    refine ⟨(by first | exact trivial | exact trivial), ?_⟩
    refine runJ ?_
    exact fin2 rfl rfl rfl ⟨e2.trans e3, r3, ys, rfl, o3.base e2.1, B3⟩
end Go.Proofs.YtfcmdefigldpnaaDoor

/- Package batch: a batch of parameters. Condition: the table of math/bits reads as it is laid. -/
namespace Go.Proofs.YtfcmdefigldpnaaDoor
set_option linter.unusedVariables false
set_option maxRecDepth 8000
open Go Go.Den Go.RowKit Go.Mth Go.Dig

theorem pow3_odd (n j : Nat) : pow3 n j % 2 = 1 := by
  unfold pow3
  rw [Nat.mod_mul_right_mod]
  induction j with
  | zero => rfl
  | succ j ih => rw [Nat.pow_succ, Nat.mul_mod, ih]
def plc (n j : Nat) : List Value := ((List.range j).map (place n)).flatMap pr2
theorem plc_succ (n j : Nat) : plc n (j + 1) = plc n j ++ pr2 (place n j) := by
  unfold plc
  rw [List.range_succ, List.map_append, List.flatMap_append]
  simp

theorem Tryd_ent7 : Ent Tryd.prog 7 := ent_of Tryd.func7 (by kernel_rfl) rfl
set_option maxHeartbeats 2000000 in
theorem batchNew_spec (p : ParD) (L : Nat) (h : Hp) (TB0 : TB h) (A : ParAt h p) (P : parP p) (hN : p.n = ((2 ^ L : Nat) : Int)) (hL1 : 1 ≤ L) (hL9 : L ≤ 9) (Q : QOk L p.t) :
    CallsH Tryd.prog 7 [.agg p.cells.toArray] h fun v' h' => Ext h h' ∧ ∃ (g : Value) (B : BatD), v' = .tuple #[g, N 0] ∧ BatAt h' g B ∧ BatOk B ∧ B.L = L ∧ B.t = p.t := by
  have CK := check_spec p
  rw [if_pos P] at CK
  obtain ⟨X, hX1, hX2, hX3⟩ := Q.root
  have NW := fun h T => nttNewX_spec L p.t X h T hL1 hL9 Q.q61 Q.qm Q.q1 Q.is hX1 hX2 hX3
  have hq61 := Q.q61
  have hq1 := Q.q1
  have hn : 2 ≤ 2 ^ L ∧ 2 ^ L ≤ 512 := ⟨Nat.pow_le_pow_right (n := 2) (by omega) hL1, Nat.pow_le_pow_right (n := 2) (by omega) hL9⟩
  have hPW := fun g vt vp t k h G => power_spec g vt vp L t k h G hL1 (by omega)
  obtain ⟨pn, t, vq, qs, pw⟩ := p
  dsimp only at hN NW hq61 hq1
  unfold ParD.cells at CK ⊢
  dsimp only at CK ⊢
  subst hN
  clear Q hX1 hX2 hX3
  generalize hnn : 2 ^ L = n at *
  (apply enter Tryd.func7 rfl Tryd.ntmps7 rfl)
  refine runJ ?_
  (apply s_box; exact rfl; exact rfl; exact rfl; exact rfl)
  intro p1 h1 x1 e1 b1
  (try dsimp only [Value.cells, List.toList_toArray] at x1)
  refine ⟨(by first | exact trivial | exact Ext.refl _ | assumption | exact Ext.trans (by assumption) (by assumption)), ?_⟩
  refine runJ ?_
  apply (s_call Tryd_ent29 rfl rfl rfl)
  refine (CK h1 (TB0.ext e1) (A.ext e1)).mono ?_
  rintro _ h2 ⟨rfl, e2⟩
  refine ⟨(by first | exact trivial | exact trivial), ?_⟩
  have x2 := x1.ext e2
  have E2 := e1.trans e2
  refine runJ ?_
  (apply (s_build ([N n, N (n / 2), U t, .pointer none, .slice none 0 0])); exact rfl; exact rfl; exact rfl; (repeat (first | exact CellsAll.nil | (apply CellsAll.cons; (first | exact oneL (by assumption) | exact oneL (SlF.one (by assumption)) | exact oneL (SlF.one (OwnF.sl (by assumption))) | exact oneL (Var.one (by assumption)) | exact rfl)))); exact rfl; exact rfl)
  refine runJ ?_
  (apply s_box; exact rfl; exact rfl; exact rfl; exact rfl)
  intro g h3 g3 e3 b3
  (try dsimp only [Value.cells, List.toList_toArray] at g3)
  refine ⟨(by first | exact trivial | exact Ext.refl _ | assumption | exact Ext.trans (by assumption) (by assumption)), ?_⟩
  have g3 : Var h3 g 77 [N n, N (n / 2), U t, .pointer none, .slice none 0 0] := g3
  have x3 := x2.ext e3
  have E3 := E2.trans e3
  refine runJ ?_
  apply (s_call Tryd_ent30 rfl rfl rfl)
  refine (NW h3 (TB0.ext E3)).mono ?_
  rintro _ h4 ⟨e4, vt, T, rfl, At, Kt, hTL, hTq, hTR, hTN⟩
  refine ⟨(by first | exact trivial | exact trivial), ?_⟩
  have g4 := g3.ext e4
  have x4 := x3.ext e4
  have Av := At.var
  refine runJ ?_
  (apply s_storeC; exact rfl; exact rfl; (first | exact rfl | exact SlF.one (by assumption) | exact SlF.one (OwnF.sl (by assumption)) | exact Var.one (by assumption)); exact rfl; exact rfl; exact g4; exact rfl)
  intro h5 g5 k5
  refine ⟨(by first | exact trivial | exact Ext.refl _ | assumption | exact Ext.only (by assumption) _ | exact Only.trans (Ext.only (by assumption) _) (by assumption)), ?_⟩
  have e5 : Ext h2 h5 := k5.oldV (e3.trans e4) b3 (Nat.le_refl _)
  have g5 : Var h5 g 77 [N n, N (n / 2), U t, vt, .slice none 0 0] := g5
  have hb23 : h2.size < h3.size := by obtain ⟨b, hb, hlb⟩ := g3.blk; rw [b3] at hb; cases hb; exact hlb
  rw [b3] at k5
  have At5 := At.only k5 (hTN.sep hb23)
  have x5 := x2.ext e5
  have hs5 := k5.1
  have hs35 : h3.size ≤ h5.size := Nat.le_trans e4.1 hs5
  have hs02 : h.size < h2.size := by obtain ⟨b, hb, hlb⟩ := x2.blk; rw [b1] at hb; cases hb; exact hlb
  clear g3 g4 x3 x4 Av At E3 k5
  refine runJ ?_
  (first | (apply w_seqB; exact rfl; apply w_block; exact rfl) | skip)
  apply (w_loop (σ := Nat × Value) rfl (fun j => [(1, p1), (5, g), (36, N (n / 2)), (37, N j.1)])
    (fun j h' => Ext h2 h' ∧ h5.size ≤ h'.size ∧ j.1 ≤ n / 2 ∧ Var h' g 77 [N n, N (n / 2), U t, vt, j.2] ∧ TblAt h' vt T ∧ Own h' h5.size 80 2 j.2 j.1 (plc n j.1)) (fun j => n / 2 - j.1) (0, .slice none 0 0))
  · exact (Sub.cons rfl (Sub.cons rfl (Sub.cons rfl (Sub.cons rfl (Sub.nil _)))))
  · exact ⟨e5, Nat.le_refl _, Nat.zero_le _, g5, At5, Own.nil _ _ _ _⟩
  rintro ⟨j, vp⟩ h6 ⟨e6, z6, j1, g6, A6, o6⟩
  dsimp only at e6 z6 j1 g6 A6 o6 ⊢
  have x6 := x2.ext e6
  refine runJ ?_
  (apply w_condD; exact rfl; exact rfl) <;> intro hj
  · have PW := hPW g vt vp t (j : Int) h6 g6 (by omega)
    rw [show ((j : Int).emod ((n / 2 : Nat) : Int)).toNat = j by change ((j : Int) % ((n / 2 : Nat) : Int)).toNat = j; rw [Int.emod_eq_of_lt (by omega) (by omega)]; rfl] at PW
    have npv : ∀ b, b < h5.size → vp.ownBlock ≠ some b := fun b hb e => by
      have := o6.blk b e; omega
    have ngv : pblk g ≠ vp.ownBlock := by rw [b3]; exact fun e => npv _ (by omega) e.symm
    have nxv : pblk p1 ≠ vp.ownBlock := by rw [b1]; exact fun e => npv _ (by omega) e.symm
    have hk1 := pow3_odd n j
    have hk2 : pow3 n j < 2 * n := Nat.mod_lt _ (by omega)
    have hpl : place n j = ((pow3 n j - 1) / 2, (2 * n - pow3 n j - 1) / 2) := rfl
    have hps := plc_succ n j
    rw [hpl] at hps
    generalize pow3 n j = k at *
    refine runJ ?_
    apply (s_call Tryd_ent11 rfl rfl rfl)
    refine (PW).mono ?_
    rintro _ _ ⟨rfl, rfl⟩
    refine ⟨(by first | exact trivial | exact trivial), ?_⟩
    refine runJN ?_
    (apply (r_drawnT 20 (Only vp.ownBlock h6)); exact rfl; exact mixed; kernel_rfl; exact rfl; first | exact Ext.refl _ | exact Only.refl _ _)
    refine runJ ?_
    have hts : TblSep vp.ownBlock (vt, T) := by
      rcases hv : vp.ownBlock with _ | b
      · exact At5.sep0
      · exact At5.lt Kt (o6.blk b hv).1
    refine s_buildArr [N ((k - 1) / 2), N ((2 * n - k - 1) / 2)] rfl rfl rfl rfl (.cons rfl (.cons rfl .nil)) rfl rfl ?_
    refine runJ ?_
    (apply (s_litC (s := 2) ([N ((k - 1) / 2), N ((2 * n - k - 1) / 2)])); exact rfl; (repeat (first | exact CellsAll.nil | (apply CellsAll.cons; exact rfl))); exact rfl; exact rfl; exact rfl; exact rfl; exact rfl; exact rfl; exact rfl; exact rfl; exact rfl; exact rfl)
    intro w7 h7 o7 e7 b7
    refine ⟨e7.only _, ?_⟩
    have o67 := o6.ext e7
    refine runJ ?_
    refine s_append (bytes := 16) (s := 2) (k' := 1) rfl rfl rfl rfl rfl (by decide) rfl rfl o67 o7.sl rfl (by intro u hu; simp only [List.mem_cons, List.not_mem_nil, or_false] at hu; rcases hu with rfl | rfl <;> rfl) (Nat.le_trans z6 e7.1) (by simp only [maxLen]; omega) (by omega) ?_
    intro v8 h8 o8 k8 b8
    have k68 := (e7.only vp.ownBlock).trans k8
    refine ⟨k68, ?_⟩
    have g8 := g6.only k68 ngv
    have A8 := A6.only k68 hts
    have e8 : Ext h2 h8 := o6.old k68 e6 (Nat.le_trans (Nat.le_of_lt hb23) hs35)
    have s8 := o8.sl.one
    refine runJ ?_
    apply tail_end
    refine runJ ?_
    (apply s_storeC; exact rfl; exact rfl; exact s8; exact rfl; exact rfl; exact g8; exact rfl)
    intro h9 g9 k9
    refine ⟨trivial, ?_⟩
    have g9 : Var h9 g 77 [N n, N (n / 2), U t, vt, v8] := g9
    have e9 : Ext h2 h9 := k9.oldV e8 b3 (Nat.le_refl _)
    rw [b3] at k9
    have A9 := A8.only k9 (hTN.sep hb23)
    have o9 := o8.only k9 (.inr fun e => by have := (o8.blk _ e).1; omega)
    refine runJ ?_
    apply again_normal (j + 1, v8)
    · exact (Sub.cons rfl (Sub.cons rfl (Sub.cons rfl (Sub.cons rfl (Sub.nil _)))))
    · refine ⟨e9, Nat.le_trans z6 (Nat.le_trans k68.1 k9.1), hj, g9, A9, ?_⟩
      dsimp only
      rw [hps]
      exact o9
    · dsimp only; omega
  · obtain rfl : j = n / 2 := by omega
    refine runJ ?_
    refine fin2 rfl rfl rfl ⟨(e1.trans e2).trans e6, g, ⟨L, t, vt, T, vp, (List.range (n / 2)).map (place n)⟩, rfl, ⟨?_, A6, ?_⟩, ⟨hL1, hL9, hTL, hTq, Kt, hTR, ?_⟩, rfl, rfl⟩
    · dsimp only; rw [hnn]; exact g6
    · refine ⟨fun x => rfl, ?_⟩
      have := o6.sl
      dsimp only
      rw [List.length_map, List.length_range]
      exact this
    · dsimp only; rw [hnn]
end Go.Proofs.YtfcmdefigldpnaaDoor

/- Package batch: a polynomial is unpacked. No condition. -/
namespace Go.Proofs.YtfcmdefigldpnaaDoor
set_option linter.unusedVariables false
set_option maxRecDepth 8000
open Go Go.Den Go.RowKit Go.Mth Go.Dig

/-- What stands in the slots. -/
def unl (n t : Nat) (ys : List Nat) : List Int := (List.range (n / 2)).map fun i => centerm (ys.getD (place n i).1 0) t
theorem unl_len (n t : Nat) (ys : List Nat) : (unl n t ys).length = n / 2 := by unfold unl; simp
theorem unl_get {n t : Nat} {ys : List Nat} {i : Nat} (h : i < n / 2) : (unl n t ys)[i]? = some (centerm (ys.getD (place n i).1 0) t) := by unfold unl; simp [h]
theorem set_fill {α : Type} {l : List α} {j m : Nat} {x z : α} (hx : l[j]? = some x) (hj : j < m) : (l.take j ++ List.replicate (m - j) z).set j x = l.take (j + 1) ++ List.replicate (m - (j + 1)) z := by
  obtain ⟨k, hk⟩ : ∃ k, m - j = k + 1 := ⟨m - j - 1, by omega⟩
  have hl : j < l.length := (List.getElem?_eq_some_iff.1 hx).1
  have ht : (l.take j).length = j := by rw [List.length_take]; omega
  rw [hk, List.replicate_succ, List.set_append_right _ _ (by omega), ht, Nat.sub_self, List.set_cons_zero, take_snoc hx, show m - (j + 1) = k by omega, List.append_assoc]
  rfl

set_option maxHeartbeats 1000000 in
theorem unpack_spec (g va : Value) (B : BatD) (xs : List Nat) (h : Hp) (K : BatOk B) (A : BatAt h g B) (s : SlF h U va xs) (hf : Fit (2 ^ B.L) B.t xs) :
    CallsH Tryd.prog 12 [g, va] h fun v' h' => Ext h h' ∧ ∃ r ys, v' = .tuple #[r, N 0] ∧ OwnF h' h.size 3 I r (unl (2 ^ B.L) B.t ys) ∧ Val B.T xs ys := by
  have hn : 2 ≤ 2 ^ B.L ∧ 2 ^ B.L ≤ 512 := ⟨Nat.pow_le_pow_right (n := 2) (by omega) K.l1, Nat.pow_le_pow_right (n := 2) (by omega) K.l9⟩
  have G := A.var
  have pl := A.pl
  have hps := K.ps
  have hq61 := K.ok.q61
  have hq1 := K.ok.q1
  have htq := K.tq
  have htl := K.tl
  have Tb := A.tab
  have Tk := K.ok
  obtain ⟨L, t, vt, T, vp, ps⟩ := B
  dsimp only at G pl hps hn hf htq htl Tb Tk hq61 hq1 ⊢
  rw [htq] at hq61 hq1
  rw [← htl, ← htq] at hf
  have VS := values_spec vt va T xs h Tk Tb s hf
  have hV : ∀ ys, Val T xs ys → ys.length = 2 ^ L ∧ ∀ y ∈ ys, y < t := fun ys hv => by
    rw [← htl, ← htq]; exact hv.1
  clear hf
  generalize hnn : 2 ^ L = n at *
  obtain ⟨gb, hgp, -⟩ := id G
  (apply enter Tryd.func12 rfl Tryd.ntmps12 rfl)
  refine runJ ?_
  refine s_callV rfl Tryd_ent34 rfl rfl rfl ?_
  refine (VS).mono ?_
  rintro _ h1 ⟨e1, w1, ys, rfl, o1, V1⟩
  refine ⟨(by first | exact trivial | exact trivial), ?_⟩
  obtain ⟨hyl, hyt⟩ := hV ys V1
  have G1 := G.ext e1
  refine runJ ?_
  (apply (s_make (f := I) (bytes := 8) (0)); (first | exact isK_c | exact isK_t rfl); (first | exact isK_c | exact isK_t rfl); exact rfl; exact rfl; exact rfl; exact rfl; exact rfl; exact rfl; omega; omega; omega)
  intro w2 h2 o2 e2 b2
  refine ⟨(by first | exact trivial | exact Ext.refl _ | assumption | exact Ext.trans (by assumption) (by assumption)), ?_⟩
  have s1 := o1.sl.ext e2
  have E2 := e1.trans e2
  have hpn : ps.length = n / 2 := by rw [hps]; simp
  have G2 := G.ext E2
  refine runJ ?_
  (first | (apply w_seqB; exact rfl; apply w_block; exact rfl) | skip)
  apply (w_loop (σ := Nat) rfl (fun j => [(0, g), (7, w1), (9, w2), (36, vp), (37, N ps.length), (38, N j)])
    (fun j h' => Ext h1 h' ∧ j ≤ n / 2 ∧ OwnF h' h1.size 3 I w2 ((unl n t ys).take j ++ List.replicate (n / 2 - j) 0)) (fun j => n / 2 - j) 0)
  · exact (Sub.cons rfl (Sub.cons rfl (Sub.cons rfl (Sub.cons rfl (Sub.cons rfl (Sub.cons rfl (Sub.nil _)))))))
  · exact ⟨e2, Nat.zero_le _, o2⟩
  clear o2 s1 G2 E2
  rintro j h3 ⟨e3, j1, o3⟩
  have E3 := e1.trans e3
  have G3 := G.ext E3
  have p3 := pl.ext E3
  have s3 := o1.sl.ext e3
  refine runJ ?_
  (apply w_condD; exact rfl; exact rfl) <;> intro hj
  · obtain ⟨y, hyj⟩ := get_lt (l := ps) (j := j) (by omega)
    have hy : y = place n j := by
      rw [hps, List.getElem?_map, List.getElem?_range (by omega)] at hyj
      exact (Option.some.inj hyj).symm
    have hlt := place_lt (n := n) (by omega) j
    rw [← hy] at hlt
    have hcl := (p3.cells hyj)
    refine runJN ?_
    (apply s_alloc; exact rfl; exact rfl; exact rfl)
    intro p4 h4 v4 e4 b4
    (try dsimp only [Value.cells, List.toList_toArray] at v4)
    refine ⟨(by first | exact trivial | exact Ext.refl _ | assumption | exact Ext.trans (by assumption) (by assumption)), ?_⟩
    refine runJ ?_
    (apply s_storeV; exact rfl; exact rfl; exact rfl; (repeat (first | exact OneAll.nil | (apply OneAll.cons; (first | exact rfl | exact SlF.one (by assumption) | exact SlF.one (OwnF.sl (by assumption)) | exact Var.one (by assumption))))); exact rfl; exact rfl; exact v4; exact rfl)
    intro h5 v5 k5
    (try dsimp only [Value.cells, List.toList_toArray] at v5)
    refine ⟨(by first | exact trivial | exact Ext.refl _ | assumption | exact Ext.only (by assumption) _ | exact Only.trans (Ext.only (by assumption) _) (by assumption)), ?_⟩
    dsimp only [pr2] at v5
    have e5 : Ext h3 h5 := k5.oldV e4 b4 (Nat.le_refl _)
    rw [b4] at k5
    have o5 := o3.ext e5
    have G5 := G3.ext e5
    have s5 := s3.ext e5
    have hz1 := (o3.blk _ b2).2
    have hpv : pblk p4 ≠ w2.ownBlock := by
      rw [b4, b2]
      intro e
      have := Option.some.inj e
      omega
    have hgv : pblk g ≠ w2.ownBlock := G1.neq (u := w2) b2 (Nat.le_refl _)
    have hne : w1.ownBlock = none ∨ w1.ownBlock ≠ w2.ownBlock := .inr fun e => by
      rw [b2] at e
      have := (o1.blk _ e).2; omega
    have hl1 : y.1 < ys.length := by omega
    obtain ⟨a, ha⟩ := get_lt hl1
    have hat := hyt a (List.mem_of_getElem? ha)
    have hlen : (List.take j (unl n t ys) ++ List.replicate (n / 2 - j) (0 : Int)).length = n / 2 := by rw [List.length_append, List.length_take, unl_len, List.length_replicate]; omega
    refine runJN ?_
    (apply (r_drawnO (w2.ownBlock)); exact rfl; exact mixed; kernel_rfl)
    refine runJ ?_
    refine s_indexArr (p := p4) (j := 0) rfl v5.ptr isK_c rfl rfl rfl (by decide) ?_
    refine runJ ?_
    apply (s_call Tryd_ent35 rfl rfl rfl)
    refine (center_spec _ t h5 (by omega) (by omega)).mono ?_
    rintro _ _ ⟨rfl, rfl⟩
    refine ⟨(Only.refl _ _), ?_⟩
    refine runJ ?_
    (apply (s_storeF (centerm a t)); exact rfl; exact rfl; exact rfl; exact rfl; exact rfl; exact o5; exact rfl; (first | assumption | omega))
    intro h6 o6 k6
    refine ⟨(by first | exact k6 | exact trivial | exact Ext.refl _ | assumption | exact Ext.trans (by assumption) (by assumption)), ?_⟩
    have e6 : Ext h1 h6 := o5.old k6 (e3.trans e5) (Nat.le_refl _)
    have hu : (unl n t ys)[j]? = some (centerm a t) := by
      rw [unl_get (by omega), ← hy]
      rw [List.getD_eq_getElem?_getD, ha]; rfl
    rw [set_fill hu (by omega)] at o6
    refine runJ ?_
    apply again_normal (j + 1)
    · exact (Sub.cons rfl (Sub.cons rfl (Sub.cons rfl (Sub.cons rfl (Sub.cons rfl (Sub.cons rfl (Sub.nil _)))))))
    · exact ⟨e6, by omega, o6⟩
    · omega
  · obtain rfl : j = n / 2 := by omega
    rw [List.take_of_length_le (by rw [unl_len]; exact Nat.le_refl _), Nat.sub_self, List.replicate_zero, List.append_nil] at o3
    refine runJ ?_
    exact fin2 rfl rfl rfl ⟨E3, w2, ys, rfl, o3.base e1.1, V1⟩
end Go.Proofs.YtfcmdefigldpnaaDoor

/- Plain facts for the laws of package ntt: fast powers, the three primes. No condition. -/
namespace Go.Proofs.YtfcmdefigldpnaaDoor
set_option linter.unusedVariables false
set_option maxRecDepth 8000
open Go Go.Den Go.RowKit Go.Mth

def fp (m : Nat) : Nat → Nat → Nat → Nat
  | 0, _, _ => 1 % m
  | f + 1, a, n => if n = 0 then 1 % m else if n % 2 = 1 then a * fp m f (a * a % m) (n / 2) % m else fp m f (a * a % m) (n / 2)
theorem fp_eq (m : Nat) : ∀ f a n, n < 2 ^ f → fp m f a n = a ^ n % m
  | 0, a, n, h => by
    obtain rfl : n = 0 := by rw [Nat.pow_zero] at h; omega
    rfl
  | f + 1, a, n, h => by
    unfold fp
    by_cases h0 : n = 0
    · rw [if_pos h0, h0, Nat.pow_zero]
    rw [if_neg h0, fp_eq m f _ _ (by rw [Nat.pow_succ] at h; omega)]
    have e : (a * a % m) ^ (n / 2) % m = a ^ (2 * (n / 2)) % m := by rw [← Nat.pow_mod, Nat.pow_mul, Nat.pow_two]
    rw [e]
    by_cases h1 : n % 2 = 1
    · rw [if_pos h1, Nat.mul_mod_mod, ← Nat.pow_succ', show (2 * (n / 2)).succ = n by omega]
    · rw [if_neg h1, show 2 * (n / 2) = n by omega]
theorem powm_fp {a n m : Nat} (hn : n < 18446744073709551616) (hm : m ≠ 0) : powm a n m = fp m 64 a n := by
  unfold powm; rw [if_neg hm, fp_eq m 64 a n hn]

def holdsF (n d s a : Nat) : Bool := a % n == 0 || (fp n 64 (a % n) d == 1 || (fp n 64 (a % n) d == n - 1 || holdsLoop n (s - 1) (fp n 64 (a % n) d)))
def isF (n : Nat) : Bool := if n < 4 ∨ n % 2 = 0 then n == 2 || n == 3 else bases.all (holdsF n ((n - 1) / 2 ^ tz (n - 1)) (tz (n - 1)))
theorem isB_fast {n : Nat} (hn : n < 18446744073709551616) (h0 : n ≠ 0) : isB n = isF n := by
  unfold isB isF
  have hd : (n - 1) / 2 ^ tz (n - 1) < 18446744073709551616 := Nat.lt_of_le_of_lt (Nat.div_le_self _ _) (by omega)
  have : holdsB n ((n - 1) / 2 ^ tz (n - 1)) (tz (n - 1)) = holdsF n ((n - 1) / 2 ^ tz (n - 1)) (tz (n - 1)) := by
    funext a
    unfold holdsB holdsF
    rw [powm_fp hd h0]
  rw [this]

def q3 : List Nat := [12289, 40961, 1152921504606830593]
def x3 : List Nat := [11, 3, 5]
theorem is3 : isB 12289 = true ∧ isB 40961 = true ∧ isB 1152921504606830593 = true :=
  ⟨(isB_fast (by decide) (by decide)).trans (by decide +kernel), (isB_fast (by decide) (by decide)).trans (by decide +kernel), (isB_fast (by decide) (by decide)).trans (by decide +kernel)⟩
def facts (r : Nat) (q X : Nat) : Bool := Nat.beq (q % (2 * 2 ^ (r + 1))) 1 && Nat.beq (fp q 64 (fp q 64 X ((q - 1) / 2 ^ (r + 2))) (2 ^ (r + 2) / 2)) (q - 1)
theorem facts9 : ∀ r, r < 9 → facts r (q3.getD (r % 3) 0) (x3.getD (r % 3) 0) = true := by decide +kernel
theorem prime3 {r : Nat} (hr : r < 9) : ∃ q X, q3[r % 3]? = some q ∧ q < 2305843009213693952 ∧ 1 < q ∧ isB q = true ∧ q % (2 * 2 ^ (r + 1)) = 1 ∧ 2 ≤ X ∧ X < 18446744073709551615 ∧ powm (powm X ((q - 1) / 2 ^ (r + 2)) q) (2 ^ (r + 2) / 2) q = q - 1 := by
  have hf := facts9 r hr
  have h2 : (2 : Nat) ^ (r + 2) ≤ 2 ^ 10 := Nat.pow_le_pow_right (by decide) (by omega)
  obtain ⟨q, hq, X, hX, b⟩ : ∃ q, q3[r % 3]? = some q ∧ ∃ X, x3.getD (r % 3) 0 = X ∧ q < 2305843009213693952 ∧ 1 < q ∧ isB q = true ∧ 2 ≤ X ∧ X < 18446744073709551615 := by
    rcases (show r % 3 = 0 ∨ r % 3 = 1 ∨ r % 3 = 2 by omega) with h | h | h <;> rw [h]
    · exact ⟨_, rfl, _, rfl, by decide, by decide, is3.1, by decide, by decide⟩
    · exact ⟨_, rfl, _, rfl, by decide, by decide, is3.2.1, by decide, by decide⟩
    · exact ⟨_, rfl, _, rfl, by decide, by decide, is3.2.2, by decide, by decide⟩
  rw [getD_of hq, hX] at hf
  obtain ⟨b1, b2, b3, b4, b5⟩ := b
  unfold facts at hf
  simp only [Bool.and_eq_true] at hf
  refine ⟨q, X, hq, b1, b2, b3, Nat.eq_of_beq_eq_true hf.1, b4, b5, ?_⟩
  rw [powm_fp (a := X) (by have := Nat.div_le_self (q - 1) (2 ^ (r + 2)); omega) (by omega), powm_fp (by omega) (by omega)]
  exact Nat.eq_of_beq_eq_true hf.2

/-- There and back. -/
theorem val_bck {t : Tbl} (K : TblOk t) {xs ys zs : List Nat} (hx : Fit (2 ^ t.L) t.q xs) (h1 : Val t xs ys) (h2 : Bck t ys zs) : zs = xs :=
  lists_cg (by rw [h2.1.1, hx.1]) h2.1.2 hx.2 fun p hp => by
    have hp' : p < 2 ^ t.L := by rw [← h2.1.1]; exact hp
    exact (h2.2 p hp').trans ((idft_cg (fun j hj => h1.2 j hj) p).trans (idft_dft K.cw K.cuw K.cp (gt xs) hp'))
theorem bck_val {t : Tbl} (K : TblOk t) {xs ys zs : List Nat} (hx : Fit (2 ^ t.L) t.q xs) (h1 : Bck t xs ys) (h2 : Val t ys zs) : zs = xs :=
  lists_cg (by rw [h2.1.1, hx.1]) h2.1.2 hx.2 fun p hp => by
    have hp' : p < 2 ^ t.L := by rw [← h2.1.1]; exact hp
    exact (h2.2 p hp').trans ((dft_cg (fun j hj => h1.2 j hj) p).trans (dft_idft K.cw K.cuw K.cp (gt xs) hp'))

/-- A row cut to n words below q. -/
def cutL (xs : List Nat) (n q : Nat) : List Nat := (List.range n).map fun i => if i < xs.length then xs.getD i 0 % q else 0
theorem cutL_fit (xs : List Nat) {n q : Nat} (hq : 0 < q) : Fit n q (cutL xs n q) := ⟨by unfold cutL; simp, fun x hx => by
  unfold cutL at hx
  obtain ⟨i, -, rfl⟩ := List.mem_map.1 hx
  split
  · exact Nat.mod_lt _ hq
  · exact hq⟩
theorem cutL_get {xs : List Nat} {n q k : Nat} (hk : k < n) : (cutL xs n q)[k]? = some (if k < xs.length then xs.getD k 0 % q else 0) := by
  unfold cutL; rw [List.getElem?_map, List.getElem?_range hk]; rfl
end Go.Proofs.YtfcmdefigldpnaaDoor

/- Package batch: the fixed calls; the law BatchNil. Condition: the table of math/bits reads as it is laid. -/
namespace Go.Proofs.YtfcmdefigldpnaaDoor
set_option linter.unusedVariables false
set_option maxRecDepth 8000
open Go Go.Den Go.RowKit Go.Mth Go.Dig

theorem root17 {r : Nat} (h : RootR 17 16 r) : r = 3 := by
  obtain ⟨hr, w, hw, hp, ⟨j, hj, rfl⟩, hall⟩ := h
  have key : ∀ w, w < 17 → powm w (16 / 2) 17 = 17 - 1 → ∀ j, j < 16 / 2 → (∀ i, i < 16 / 2 → w ^ (2 * j + 1) % 17 ≤ w ^ (2 * i + 1) % 17) → w ^ (2 * j + 1) % 17 = 3 := by decide +kernel
  exact key w hw hp j hj hall
theorem isB17 : isB 17 = true := by decide +kernel
theorem qok17 : QOk 3 17 := ⟨by decide, by decide, by decide, isB17, 3, by decide, by decide, by decide⟩
theorem par17 (w : Value) : parP ⟨8, 17, w, [97], 1⟩ := (by decide +kernel : parP ⟨8, 17, .bool false, [97], 1⟩)
theorem pack17 {B : BatD} {rs : List Nat} (K : BatOk B) (hL : B.L = 3) (ht : B.t = 17) (h : Bck B.T (layF (2 ^ B.L) B.t [1, 1, 1, 1]) rs) : rs = [1, 0, 0, 0, 0, 0, 0, 0] := by
  have hR := K.root
  have hTL := K.tl
  have hTq := K.tq
  have hK := K.ok
  rw [hL, ht] at hR h
  rw [hL] at hTL
  rw [ht] at hTq
  have hw := root17 hR
  rw [show layF (2 ^ 3) 17 [1, 1, 1, 1] = [1, 1, 1, 1, 1, 1, 1, 1] by decide +kernel] at h
  obtain ⟨L, t, vt, T, vp, ps⟩ := B
  obtain ⟨L', q, w, u, p, vr, vu⟩ := T
  dsimp only at hTL hTq hw h hK
  subst hTL hTq hw
  refine val_bck hK (by dsimp only; decide) ⟨by dsimp only; decide, fun k hk => ?_⟩ h
  rcases (show k = 0 ∨ k = 1 ∨ k = 2 ∨ k = 3 ∨ k = 4 ∨ k = 5 ∨ k = 6 ∨ k = 7 by change k < 8 at hk; omega) with rfl | rfl | rfl | rfl | rfl | rfl | rfl | rfl <;> exact cgd (by dsimp only; decide +kernel)

theorem Tryd_ent5 : Ent Tryd.prog 5 := ent_of Tryd.func5 (by kernel_rfl) rfl
set_option maxHeartbeats 1000000 in
theorem fixed09_spec (h : Hp) (TB0 : TB h) : CallsH Tryd.prog 5 [] h fun v' h' => v' = .bool true ∧ Ext h h' := by
  have PN := fun w h T A => batchNew_spec ⟨8, 17, w, [97], 1⟩ 3 h T A (par17 w) rfl (by decide) (by decide) qok17
  unfold ParD.cells at PN
  dsimp only at PN
  (apply enter Tryd.func5 rfl Tryd.ntmps5 rfl)
  refine runJ ?_
  (apply (s_litF (f := U) [97] (fun _ => rfl)); exact rfl; exact rfl; exact rfl; exact rfl; exact rfl; exact rfl; exact rfl; exact rfl; omega)
  intro w1 h1 o1 e1 b1
  refine ⟨(by first | exact trivial | exact Ext.refl _ | assumption | exact Ext.trans (by assumption) (by assumption)), ?_⟩
  refine runJ ?_
  (apply (s_build ([I 8, U 17, w1, I 1])); exact rfl; exact rfl; exact rfl; (repeat (first | exact CellsAll.nil | (apply CellsAll.cons; (first | exact oneL (by assumption) | exact oneL (SlF.one (by assumption)) | exact oneL (SlF.one (OwnF.sl (by assumption))) | exact oneL (Var.one (by assumption)) | exact rfl)))); exact rfl; exact rfl)
  refine runJ ?_
  apply (s_call Tryd_ent7 rfl rfl rfl)
  refine (PN w1 h1 (TB0.ext e1) ⟨o1.sl, by intro x hx; simp only [List.mem_singleton] at hx; omega, (by decide : 17 < 18446744073709551616), (by decide : 1 ≤ 4611686018427387904)⟩).mono ?_
  rintro _ h2 ⟨e2, g, B, rfl, A, K, hL, ht⟩
  refine ⟨(by first | exact trivial | exact trivial), ?_⟩
  refine runJ ?_
  (apply (s_litF (f := I) [1, 1, 1, 1] (fun _ => rfl)); exact rfl; exact rfl; exact rfl; exact rfl; exact rfl; exact rfl; exact rfl; exact rfl; omega)
  intro w3 h3 o3 e3 b3
  refine ⟨(by first | exact trivial | exact Ext.refl _ | assumption | exact Ext.trans (by assumption) (by assumption)), ?_⟩
  refine runJ ?_
  apply (s_call Tryd_ent8 rfl rfl rfl)
  refine (pack_spec g w3 B _ h3 K (A.ext e3) o3.sl (by intro x hx; simp only [List.mem_cons, List.not_mem_nil, or_false] at hx; omega) (by rw [hL]; decide)).mono ?_
  rintro _ h4 ⟨e4, r4, rs, rfl, o4, P4⟩
  refine ⟨(by first | exact trivial | exact trivial), ?_⟩
  obtain rfl := pack17 K hL ht P4
  have G4 := ((A.ext e3).ext e4).var
  have P1 := power_spec g B.vt B.vp B.L B.t 1 h4 G4 K.l1 (by have := K.l9; omega) (by decide)
  have P2 := power_spec g B.vt B.vp B.L B.t (-1) h4 G4 K.l1 (by have := K.l9; omega) (by decide)
  rw [hL, show pow3 (2 ^ 3) (Int.emod 1 ((2 ^ 3 / 2 : Nat) : Int)).toNat = 3 by decide +kernel] at P1
  rw [hL, show pow3 (2 ^ 3) (Int.emod (-1) ((2 ^ 3 / 2 : Nat) : Int)).toNat = 11 by decide +kernel] at P2
  refine runJ ?_
  apply (s_call Tryd_ent11 rfl rfl rfl)
  refine (P1).mono ?_
  rintro _ _ ⟨rfl, rfl⟩
  refine ⟨(by first | exact trivial | exact trivial), ?_⟩
  refine runJ ?_
  apply (s_call Tryd_ent11 rfl rfl rfl)
  refine (P2).mono ?_
  rintro _ _ ⟨rfl, rfl⟩
  refine ⟨(by first | exact trivial | exact trivial), ?_⟩
  refine runJ ?_
  (apply (s_litF (f := U) [1, 0, 0, 0, 0, 0, 0, 0] (fun _ => rfl)); exact rfl; exact rfl; exact rfl; exact rfl; exact rfl; exact rfl; exact rfl; exact rfl; omega)
  intro w5 h5 o5 e5 b5
  refine ⟨(by first | exact trivial | exact Ext.refl _ | assumption | exact Ext.trans (by assumption) (by assumption)), ?_⟩
  refine runJ ?_
  apply (s_call Tryd_ent28 rfl rfl rfl)
  refine (sameU9_spec r4 w5 _ _ h5 (o4.sl.ext e5) o5.sl (by decide) (by decide)).mono ?_
  rintro _ _ ⟨rfl, rfl⟩
  refine ⟨(by first | exact trivial | exact Ext.refl _ | assumption | exact Ext.trans (by assumption) (by assumption)), ?_⟩
  refine runJ ?_
  exact fin1 rfl rfl ⟨rfl, (((e1.trans e2).trans e3).trans e4).trans e5⟩

end Go.Proofs.YtfcmdefigldpnaaDoor

/- Package batch: what a packed row holds in its slots; the small contracts of the law. Condition of what tests primes: the table of math/bits reads as it is laid. -/
namespace Go.Proofs.YtfcmdefigldpnaaDoor
set_option linter.unusedVariables false
set_option maxRecDepth 8000
open Go Go.Den Go.RowKit Go.Mth Go.Dig

/-- The places are unlike. -/
def apart (n : Nat) : Bool := (List.range (n / 2)).all fun i => Nat.blt (place n i).1 n && Nat.blt (place n i).2 n && !(Nat.beq (place n i).1 (place n i).2) && (List.range i).all fun j => !(Nat.beq (place n i).1 (place n j).1) && !(Nat.beq (place n i).1 (place n j).2) && !(Nat.beq (place n i).2 (place n j).1) && !(Nat.beq (place n i).2 (place n j).2)
theorem apart_all : apart 8 = true ∧ apart 16 = true ∧ apart 32 = true ∧ apart 64 = true := by decide +kernel
def Apart (n : Nat) : Prop := (∀ i, i < n / 2 → (place n i).1 < n ∧ (place n i).2 < n ∧ (place n i).1 ≠ (place n i).2) ∧ ∀ i j, i < n / 2 → j < n / 2 → i ≠ j → (place n i).1 ≠ (place n j).1 ∧ (place n i).1 ≠ (place n j).2 ∧ (place n i).2 ≠ (place n j).1 ∧ (place n i).2 ≠ (place n j).2
theorem nb_ne {a b : Nat} (h : (!(Nat.beq a b)) = true) : a ≠ b := fun e => by subst e; rw [Nat.beq_refl] at h; cases h
theorem apart_of {n : Nat} (h : apart n = true) : Apart n := by
  have key := fun i (hi : i < n / 2) => by
    have h1 := List.all_eq_true.1 h i (List.mem_range.2 hi)
    rw [Bool.and_eq_true, Bool.and_eq_true, Bool.and_eq_true] at h1
    exact h1
  have lt2 : ∀ i j, i < n / 2 → j < i → (place n i).1 ≠ (place n j).1 ∧ (place n i).1 ≠ (place n j).2 ∧ (place n i).2 ≠ (place n j).1 ∧ (place n i).2 ≠ (place n j).2 := fun i j hi hj => by
    have h2 := List.all_eq_true.1 (key i hi).2 j (List.mem_range.2 hj)
    rw [Bool.and_eq_true, Bool.and_eq_true, Bool.and_eq_true] at h2
    exact ⟨nb_ne h2.1.1.1, nb_ne h2.1.1.2, nb_ne h2.1.2, nb_ne h2.2⟩
  refine ⟨fun i hi => ?_, fun i j hi hj hne => ?_⟩
  · obtain ⟨⟨⟨h1, h2⟩, h3⟩, -⟩ := key i hi
    exact ⟨Eq.mp Nat.blt_eq h1, Eq.mp Nat.blt_eq h2, nb_ne h3⟩
  · rcases Nat.lt_or_ge j i with hlt | hge
    · exact lt2 i j hi hlt
    · obtain ⟨a, b, c, d⟩ := lt2 j i hj (by omega)
      exact ⟨a.symm, c.symm, b.symm, d.symm⟩
/-- A row of slots, filled up with noughts. -/
def fillL (n t : Nat) (xs : List Int) : List Nat := (List.range (n / 2)).map fun i => if i < xs.length then liftm (xs.getD i 0) t else 0
theorem layF_at {n t : Nat} (A : Apart n) : ∀ (k : Nat) (xs : List Int), xs.length = k → k ≤ n / 2 → ∀ i, i < n / 2 →
    (layF n t xs).getD (place n i).1 0 = (if i < xs.length then liftm (xs.getD i 0) t else 0) ∧ (layF n t xs).getD (place n i).2 0 = (if i < xs.length then liftm (xs.getD i 0) t else 0) := by
  intro k
  induction k with
  | zero =>
    intro xs hl _ i hi
    obtain rfl : xs = [] := List.eq_nil_of_length_eq_zero hl
    obtain ⟨a1, a2, -⟩ := A.1 i hi
    have e : layF n t [] = List.replicate n 0 := rfl
    rw [e, List.length_nil, if_neg (by omega)]
    constructor <;> rw [List.getD_eq_getElem?_getD, List.getElem?_replicate, if_pos (by assumption)] <;> rfl
  | succ k ih =>
    intro xs hl hk i hi
    obtain ⟨ys, x, rfl⟩ : ∃ ys x, xs = ys ++ [x] := ⟨xs.dropLast, xs.getLast (by intro e; subst e; cases hl), (List.dropLast_concat_getLast _).symm⟩
    have hyl : ys.length = k := by simpa using hl
    obtain ⟨i1, i2⟩ := ih ys hyl (by omega) i hi
    obtain ⟨a1, a2, a3⟩ := A.1 i hi
    obtain ⟨c1, c2, c3⟩ := A.1 ys.length (by omega)
    have hlen := layF_len n t ys
    rw [layF_snoc, List.length_append, List.length_singleton]
    rw [getD_set (by rw [List.length_set]; omega), getD_set (by omega), getD_set (by rw [List.length_set]; omega), getD_set (by omega)]
    by_cases hik : i = ys.length
    · subst hik
      rw [if_pos (show ys.length < ys.length + 1 by omega), if_neg c3, if_pos rfl, if_pos rfl]
      have e : (ys ++ [x]).getD ys.length 0 = x := by rw [List.getD_eq_getElem?_getD]; simp
      rw [e]; exact ⟨rfl, rfl⟩
    · obtain ⟨b1, b2, b3, b4⟩ := A.2 i ys.length hi (by omega) hik
      rw [if_neg b2, if_neg b1, if_neg b4, if_neg b3, i1, i2]
      by_cases hlt : i < ys.length
      · have e : (ys ++ [x]).getD i 0 = ys.getD i 0 := by rw [List.getD_eq_getElem?_getD, List.getD_eq_getElem?_getD, List.getElem?_append_left hlt]
        rw [if_pos hlt, if_pos (by omega), e]; exact ⟨rfl, rfl⟩
      · rw [if_neg hlt, if_neg (by omega)]; exact ⟨rfl, rfl⟩
/-- What is nearest to 0, slot by slot. -/
def centL (n t : Nat) (xs : List Int) : List Int := (List.range (n / 2)).map fun i => centerm (if i < xs.length then liftm (xs.getD i 0) t else 0) t
theorem centL_len (n t : Nat) (xs : List Int) : (centL n t xs).length = n / 2 := by unfold centL; simp
theorem centL_get {n t : Nat} {xs : List Int} {i : Nat} (h : i < n / 2) : (centL n t xs)[i]? = some (centerm (if i < xs.length then liftm (xs.getD i 0) t else 0) t) := by unfold centL; simp [h]
theorem unl_lay {n t : Nat} (A : Apart n) (xs : List Int) (hl : xs.length ≤ n / 2) : unl n t (layF n t xs) = centL n t xs := by
  unfold unl centL
  refine List.map_congr_left fun i hi => ?_
  rw [(layF_at A _ xs rfl hl i (List.mem_range.1 hi)).1]

theorem Tryd_ent6 : Ent Tryd.prog 6 := ent_of Tryd.func6 (by kernel_rfl) rfl
theorem small9_spec (p : ParD) (h : Hp) (A : ParA0 h p) : CallsH Tryd.prog 6 [.agg p.cells.toArray] h fun v' h' => v' = .bool (decide (p.n ≤ 64 ∧ p.q.length ≤ 20)) ∧ Ext h h' := by
  have hl := A.ln
  unfold ParD.cells
  (apply enter Tryd.func6 rfl Tryd.ntmps6 rfl)
  refine runJ ?_
  (apply s_box; exact rfl; exact rfl; exact rfl; exact rfl)
  intro p1 h1 x1 e1 b1
  (try dsimp only [Value.cells, List.toList_toArray] at x1)
  refine ⟨(by first | exact trivial | exact Ext.refl _ | assumption | exact Ext.trans (by assumption) (by assumption)), ?_⟩
  have s1 := A.row.ext e1
  refine runJ ?_
  (apply s_splitG; exact rfl; exact rfl; exact rfl; exact rfl) <;> intro g1
  · refine runJ ?_
    refine fin1 rfl rfl ⟨?_, e1⟩
    by_cases g2 : p.q.length ≤ 20
    · rw [decide_eq_true g2, decide_eq_true (show p.n ≤ 64 ∧ p.q.length ≤ 20 by omega)]
    · rw [decide_eq_false g2, decide_eq_false (show ¬ (p.n ≤ 64 ∧ p.q.length ≤ 20) by omega)]
  · refine runJ ?_
    exact fin1 rfl rfl ⟨dec_f (by omega), e1⟩

end Go.Proofs.YtfcmdefigldpnaaDoor

/- Primes: Euclid's lemma, Fermat's theorem. No program. No condition. -/
namespace Go.Mth
set_option linter.unusedVariables false
set_option maxRecDepth 8000

/-- A prime: nothing but 1 and itself goes into it. -/
def Pr (p : Nat) : Prop := 2 ≤ p ∧ ∀ d, d ∣ p → d = 1 ∨ d = p
theorem Pr.euclid {p a b : Nat} (h : Pr p) (k : p ∣ a * b) : p ∣ a ∨ p ∣ b := by
  rcases h.2 (Nat.gcd p a) (Nat.gcd_dvd_left p a) with h1 | h1
  · exact .inr (Nat.Coprime.dvd_of_dvd_mul_left h1 k)
  · exact .inl (h1 ▸ Nat.gcd_dvd_right p a)
theorem Pr.pow {p a : Nat} (h : Pr p) : ∀ n, p ∣ a ^ n → p ∣ a
  | 0, k => by
    rw [Nat.pow_zero] at k
    have := Nat.le_of_dvd (by decide) k
    have := h.1; omega
  | n + 1, k => by
    rw [Nat.pow_succ] at k
    rcases h.euclid k with k | k
    · exact h.pow n k
    · exact k

/-- Every number above 1 has a least divisor above 1, which is a prime; it is at most the root, if the number is none. -/
theorem least {n : Nat} (hn : 2 ≤ n) : ∃ p, Pr p ∧ p ∣ n ∧ ∀ d, 2 ≤ d → d ∣ n → p ≤ d := by
  have key : ∀ k, (∃ d, 2 ≤ d ∧ d ≤ k ∧ d ∣ n) → ∃ p, 2 ≤ p ∧ p ∣ n ∧ ∀ d, 2 ≤ d → d ∣ n → p ≤ d := by
    intro k
    induction k with
    | zero => rintro ⟨d, h1, h2, -⟩; omega
    | succ k ih =>
      rintro ⟨d, h1, h2, h3⟩
      by_cases hc : ∃ d, 2 ≤ d ∧ d ≤ k ∧ d ∣ n
      · exact ih hc
      · refine ⟨d, h1, h3, fun e he1 he2 => ?_⟩
        refine Classical.byContradiction fun hlt => hc ⟨e, he1, by omega, he2⟩
  obtain ⟨p, h1, h2, h3⟩ := key n ⟨n, hn, Nat.le_refl _, Nat.dvd_refl _⟩
  refine ⟨p, ⟨h1, fun d hd => ?_⟩, h2, h3⟩
  rcases Nat.lt_or_ge d 2 with hd2 | hd2
  · rcases Nat.eq_zero_or_pos d with rfl | h0
    · have := Nat.eq_zero_of_zero_dvd hd; omega
    · exact .inl (by omega)
  · exact .inr (Nat.le_antisymm (Nat.le_of_dvd (by omega) hd) (h3 d hd2 (Nat.dvd_trans hd h2)))

theorem perm_of {α : Type} [DecidableEq α] : ∀ (l1 l2 : List α), l1.Nodup → (∀ x ∈ l1, x ∈ l2) → l2.length ≤ l1.length → List.Perm l1 l2
  | [], l2, _, _, hl => by
    have : l2 = [] := List.eq_nil_of_length_eq_zero (by simpa using hl)
    subst this; exact List.Perm.refl _
  | x :: xs, l2, hn, hs, hl => by
    have hx : x ∈ l2 := hs x (List.mem_cons_self ..)
    have h1 := List.perm_cons_erase hx
    rw [List.nodup_cons] at hn
    have h2 : List.Perm xs (l2.erase x) := perm_of xs (l2.erase x) hn.2 (fun y hy => by
      have hyx : y ≠ x := fun e => hn.1 (e ▸ hy)
      exact (List.mem_erase_of_ne hyx).2 (hs y (List.mem_cons_of_mem _ hy))) (by
      rw [List.length_erase_of_mem hx]
      simp only [List.length_cons] at hl
      omega)
    exact (h2.cons x).trans h1.symm

def prd : List Nat → Nat
  | [] => 1
  | x :: xs => x * prd xs
theorem prd_perm {l1 l2 : List Nat} (h : List.Perm l1 l2) : prd l1 = prd l2 := by
  induction h with
  | nil => rfl
  | cons x _ ih => simp only [prd, ih]
  | swap x y l => simp only [prd]; rw [← Nat.mul_assoc, ← Nat.mul_assoc, Nat.mul_comm y x]
  | trans _ _ ih1 ih2 => exact ih1.trans ih2
theorem prd_map (a p : Nat) : ∀ l : List Nat, prd (l.map fun x => a * x % p) % p = a ^ l.length * prd l % p
  | [] => by simp [prd]
  | x :: xs => by
    simp only [List.map_cons, prd, List.length_cons]
    rw [Nat.mul_mod, prd_map a p xs, Nat.mod_mod, ← Nat.mul_mod]
    congr 1
    rw [Nat.pow_succ]
    simp only [Nat.mul_assoc, Nat.mul_comm, Nat.mul_left_comm]
theorem Pr.prd {p : Nat} (h : Pr p) : ∀ l : List Nat, (∀ x ∈ l, ¬ p ∣ x) → ¬ p ∣ prd l
  | [], _ => fun k => by have := Nat.le_of_dvd (by decide) k; have := h.1; simp only [Mth.prd] at *; omega
  | x :: xs, hx => fun k => by
    rcases h.euclid k with k | k
    · exact hx x (List.mem_cons_self ..) k
    · exact h.prd xs (fun y hy => hx y (List.mem_cons_of_mem _ hy)) k

theorem dvd_sub_of_mod {a b p : Nat} (h : a % p = b % p) (hab : b ≤ a) : p ∣ a - b := by
  rw [Nat.dvd_iff_mod_eq_zero]
  exact (Nat.sub_mod_eq_zero_of_mod_eq h)
/-- Fermat's theorem. -/
theorem fermat {p a : Nat} (h : Pr p) (ha : ¬ p ∣ a) : a ^ (p - 1) % p = 1 := by
  have h2 := h.1
  have hl : ((List.range (p - 1)).map (· + 1)).length = p - 1 := by simp
  have hmem : ∀ x, x ∈ (List.range (p - 1)).map (· + 1) ↔ 1 ≤ x ∧ x < p := fun x => by
    simp only [List.mem_map, List.mem_range]
    constructor
    · rintro ⟨y, hy, rfl⟩; omega
    · intro hx; exact ⟨x - 1, by omega, by omega⟩
  have hnd : ((List.range (p - 1)).map (· + 1)).Nodup := by
    rw [List.nodup_iff_pairwise_ne, List.pairwise_map]
    exact List.nodup_range.imp fun hab e => hab (by omega)
  generalize (List.range (p - 1)).map (· + 1) = l at *
  have hnp : ∀ x ∈ l, ¬ p ∣ x := fun x hx k => by
    have := (hmem x).1 hx
    have := Nat.le_of_dvd (by omega) k; omega
  have hinj : ∀ x ∈ l, ∀ y ∈ l, y ≤ x → a * x % p = a * y % p → x = y := fun x hx y hy hle e => by
    have k := dvd_sub_of_mod e (Nat.mul_le_mul_left _ hle)
    rw [← Nat.mul_sub] at k
    rcases h.euclid k with k | k
    · exact absurd k ha
    · have h3 := (hmem x).1 hx
      have h4 := (hmem y).1 hy
      rcases Nat.eq_zero_or_pos (x - y) with h0 | h0
      · omega
      · have := Nat.le_of_dvd h0 k; omega
  have hP : List.Perm (l.map fun x => a * x % p) l := by
    refine perm_of _ _ ?_ ?_ (by simp)
    · rw [List.nodup_iff_pairwise_ne, List.pairwise_map]
      have := hnd
      rw [List.nodup_iff_pairwise_ne] at this
      refine List.Pairwise.imp_of_mem ?_ this
      intro x y hx hy hne e
      rcases Nat.le_total y x with hle | hle
      · exact hne (hinj x hx y hy hle e)
      · exact hne (hinj y hy x hx hle e.symm).symm
    · intro y hy
      obtain ⟨x, hx, rfl⟩ := List.mem_map.1 hy
      refine (hmem _).2 ⟨?_, Nat.mod_lt _ (by omega)⟩
      refine Nat.pos_of_ne_zero fun h0 => ?_
      rcases h.euclid (Nat.dvd_of_mod_eq_zero h0) with k | k
      · exact ha k
      · exact hnp x hx k
  have h3 := prd_map a p l
  rw [prd_perm hP, hl] at h3
  have h4 : p ∣ a ^ (p - 1) * prd l - prd l := dvd_sub_of_mod h3.symm (Nat.le_mul_of_pos_left _ (Nat.pow_pos (Nat.pos_of_ne_zero fun h0 => ha (h0 ▸ Nat.dvd_zero p))))
  have h5 : a ^ (p - 1) * prd l - prd l = (a ^ (p - 1) - 1) * prd l := by rw [Nat.sub_mul, Nat.one_mul]
  rw [h5] at h4
  rcases h.euclid h4 with k | k
  · have hpos : 1 ≤ a ^ (p - 1) := Nat.pow_pos (Nat.pos_of_ne_zero fun h0 => ha (h0 ▸ Nat.dvd_zero p))
    obtain ⟨c, hc⟩ := k
    rw [show a ^ (p - 1) = 1 + p * c by omega, Nat.add_mul_mod_self_left, Nat.mod_eq_of_lt (by omega)]
  · exact absurd k (h.prd l hnp)
end Go.Mth
