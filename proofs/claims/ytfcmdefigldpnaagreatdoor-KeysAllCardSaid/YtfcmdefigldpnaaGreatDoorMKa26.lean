/- Texts KeyF to KeyF of this work, joined, without what the law does not lean on. -/
import Derived.Test.YtfcmdefigldpnaaGreatDoorMKa25
namespace Go.Proofs.YtfcmdefigldpnaaGreatDoor
set_option linter.unusedVariables false
set_option maxRecDepth 8000
open Go Go.Den Go.RowKit Go.Mth Go.Dig

theorem slf_onlyK {α : Type} {f : α → Value} {h h' : Hp} {v : Value} {xs : List α} {r : Option Nat} (s : SlF h f v xs) (k : Only r h h') (hne : xs = [] ∨ (v.ownBlock = none ∨ v.ownBlock ≠ r)) : SlF h' f v xs := by
  rcases hne with rfl | hne
  · rcases s with s | ⟨b, o, c, e, hc, -⟩
    · exact .inl s
    · exact .inr ⟨b, o, c, e, hc, fun j u hu => by cases hu⟩
  · exact s.only k hne
/-- Draws of switches. -/
def allsG (n w : Nat) (qs : List Nat) : Nat → List Nat → Option (List (List (List (List Nat) × List Int)) × List Nat)
  | 0, ds => some ([], ds)
  | k + 1, ds => match swG n w qs qs.length ds with
    | none => none
    | some (x, ds1) => match allsG n w qs k ds1 with
      | none => none
      | some (xs, ds2) => some (x :: xs, ds2)
/-- A switch that hides H. -/
def SwR (n : Nat) (qs : List Nat) (S H : List (List Nat)) (xs : List (List (List Nat) × List Int)) (B A : List (List (List Nat))) : Prop :=
  A = xs.map (·.1) ∧ B.length = qs.length ∧ ∀ (i : Nat) (ae : List (List Nat) × List Int) (b : List (List Nat)), xs[i]? = some ae → B[i]? = some b → SwB n qs S H i ae b
/-- The square. -/
def SqH (n : Nat) (qs : List Nat) (S H : List (List Nat)) : Prop := H.length = qs.length ∧ ∀ (i q : Nat) (s r : List Nat), qs[i]? = some q → S[i]? = some s → H[i]? = some r → Cnv n q s s r
/-- The turned. -/
def TuH (n : Nat) (qs : List Nat) (k : Int) (S H : List (List Nat)) : Prop := H.length = qs.length ∧ ∀ (i q : Nat) (s r : List Nat), qs[i]? = some q → S[i]? = some s → H[i]? = some r → r = turnL n q (pow3 n (k.emod ((n / 2 : Nat) : Int)).toNat) s
/-- All keys. -/
def KeysR (n : Nat) (qs : List Nat) (S : List (List Nat)) (ks : List Int) (xss : List (List (List (List Nat) × List Int))) (B A : List (List (List Nat))) (ts : List (Int × List (List (List Nat)) × List (List (List Nat)))) : Prop :=
  (∃ H xs0, SqH n qs S H ∧ xss[0]? = some xs0 ∧ SwR n qs S H xs0 B A) ∧ ts.map (·.1) = ks ∧ ∀ (j : Nat) (t : Int × List (List (List Nat)) × List (List (List Nat))) (xs : List (List (List Nat) × List Int)), ts[j]? = some t → xss[j + 1]? = some xs → ∃ H, TuH n qs t.1 S H ∧ SwR n qs S H xs t.2.1 t.2.2
/-- Elements, plainly. -/
def polysL (ps : List (Value × List (Value × List Nat))) : List (List (List Nat)) := ps.map fun x => x.2.map (·.2)
abbrev TurnV := Int × (Value × List (Value × List (Value × List Nat))) × (Value × List (Value × List (Value × List Nat)))
def turnCells (x : TurnV) : List Value := [I x.1, x.2.1.1, x.2.2.1]
def turnsL (ts : List TurnV) : List (Int × List (List (List Nat)) × List (List (List Nat))) := ts.map fun x => (x.1, polysL x.2.1.2, polysL x.2.2.2)
structure TurnsAt (h : Hp) (B : Nat) (v : Value) (ts : List TurnV) : Prop where mk ::
  own : Own h B 96 3 v ts.length (ts.flatMap turnCells)
  el : ∀ x ∈ ts, SwAt h B x.2.1.1 x.2.1.2 ∧ SwAt h B x.2.2.1 x.2.2.2

section frame
variable {h h' : Hp} {B : Nat} {v : Value} {ps : List (Value × List (Value × List Nat))} {ts : List TurnV}
theorem SwAt.ext (s : SwAt h B v ps) (e : Ext h h') : SwAt h' B v ps := ⟨s.own.ext e, fun x hx => by obtain ⟨p, hp⟩ := s.el x hx; exact ⟨p, hp.ext e⟩⟩
theorem SwAt.base {B' : Nat} (s : SwAt h B v ps) (e : B' ≤ B) : SwAt h B' v ps := ⟨s.own.base e, fun x hx => by obtain ⟨p, hp⟩ := s.el x hx; exact ⟨p, hp.base e⟩⟩
theorem own_low {s n : Nat} {e : TypeId} {cs : List Value} {b : Nat} (o : Own h B e s v n cs) (k : Only (some b) h h') (hb : b < B) : Own h' B e s v n cs := o.only k (by
  cases hv : v.ownBlock with
  | none => exact .inl rfl
  | some j => exact .inr fun e => by cases e; have := (o.blk _ hv).1; omega)
theorem SwAt.low {b : Nat} (s : SwAt h B v ps) (k : Only (some b) h h') (hb : b < B) : SwAt h' B v ps := ⟨own_low s.own k hb, fun x hx => by obtain ⟨p, hp⟩ := s.el x hx; exact ⟨p, hp.low k hb⟩⟩
theorem RowsAt.neE {p : Option Nat} {pv : Value} {rows : List (Value × List Nat)} {e : TypeId} {ds : List Value} (s : RowsAt h B p v rows) (x : Var h pv e ds) (k : Only (pblk pv) h h') (h1 : Nat.beq 22 e = false) (h2 : Nat.beq 26 e = false) : RowsAt h' B p v rows :=
  ⟨s.own.only k (Own.neT s.own x h1), fun y hy => (s.el y hy).only k (Own.neT (s.el y hy) x h2), s.ne, s.np, s.vp⟩
theorem SwAt.neE {pv : Value} {e : TypeId} {ds : List Value} (s : SwAt h B v ps) (x : Var h pv e ds) (k : Only (pblk pv) h h') (h1 : Nat.beq 22 e = false) (h2 : Nat.beq 26 e = false) (h3 : Nat.beq 56 e = false) : SwAt h' B v ps :=
  ⟨Own.only s.own k (Own.neT s.own x h3), fun y hy => by obtain ⟨p, hp⟩ := s.el y hy; exact ⟨p, hp.neE x k h1 h2⟩⟩
theorem RowsAt.neW {B2 n s2 : Nat} {p : Option Nat} {w : Value} {e : TypeId} {rows : List (Value × List Nat)} {ds : List Value} (s : RowsAt h B p v rows) (x : Own h B2 e s2 w n ds) (k : Only w.ownBlock h h') (h1 : Nat.beq 22 e = false) (h2 : Nat.beq 26 e = false) : RowsAt h' B p v rows :=
  ⟨s.own.only k (own_neO s.own x h1), fun y hy => (s.el y hy).only k (own_neO (s.el y hy) x h2), s.ne, s.np, s.vp⟩
theorem SwAt.neW {B2 n s2 : Nat} {w : Value} {e : TypeId} {ds : List Value} (s : SwAt h B v ps) (x : Own h B2 e s2 w n ds) (k : Only w.ownBlock h h') (h1 : Nat.beq 22 e = false) (h2 : Nat.beq 26 e = false) (h3 : Nat.beq 56 e = false) : SwAt h' B v ps :=
  ⟨Own.only s.own k (own_neO s.own x h3), fun y hy => by obtain ⟨p, hp⟩ := s.el y hy; exact ⟨p, hp.neW x k h1 h2⟩⟩
theorem TurnsAt.ext (s : TurnsAt h B v ts) (e : Ext h h') : TurnsAt h' B v ts := ⟨s.own.ext e, fun x hx => ⟨(s.el x hx).1.ext e, (s.el x hx).2.ext e⟩⟩
theorem TurnsAt.base {B' : Nat} (s : TurnsAt h B v ts) (e : B' ≤ B) : TurnsAt h B' v ts := ⟨s.own.base e, fun x hx => ⟨(s.el x hx).1.base e, (s.el x hx).2.base e⟩⟩
theorem TurnsAt.low {b : Nat} (s : TurnsAt h B v ts) (k : Only (some b) h h') (hb : b < B) : TurnsAt h' B v ts := ⟨own_low s.own k hb, fun x hx => ⟨(s.el x hx).1.low k hb, (s.el x hx).2.low k hb⟩⟩
theorem TurnsAt.neE {pv : Value} {e : TypeId} {ds : List Value} (s : TurnsAt h B v ts) (x : Var h pv e ds) (k : Only (pblk pv) h h') (h1 : Nat.beq 22 e = false) (h2 : Nat.beq 26 e = false) (h3 : Nat.beq 56 e = false) (h4 : Nat.beq 96 e = false) : TurnsAt h' B v ts :=
  ⟨s.own.only k (Own.neT s.own x h4), fun y hy => ⟨(s.el y hy).1.neE x k h1 h2 h3, (s.el y hy).2.neE x k h1 h2 h3⟩⟩
end frame
theorem TB.onlyG {h h' : Hp} {r : Option Nat} (s : TB h) (k : Only r h h') (hne : r ≠ some 2) : TB h' := Cells.only s k (fun e => hne (by rw [← e]; rfl))

theorem Tryz_ent11 : Ent Tryz.prog 11 := ent_of Tryz.func11 (by kernel_rfl) rfl
set_option maxHeartbeats 8000000 in
theorem keysAll_spec (L t w : Nat) (vq vs tp vk : Value) (qs : List Nat) (ss ks : List Int) (B : Option Nat) (ds : List Nat) (h : Hp) (TB0 : TB h) (A : ParAt h ⟨((2 ^ L : Nat) : Int), t, vq, qs, (w : Int)⟩) (P : parP ⟨((2 ^ L : Nat) : Int), t, vq, qs, (w : Int)⟩) (hL3 : 3 ≤ L) (hL9 : L ≤ 9) (hQ : ∀ q ∈ qs, QOk L q) (QT : QOk L t)
    (s : SlF h I vs ss) (hl : ss.length < 4611686018427387904) (hsb : ∀ x ∈ ss, -9223372036854775808 ≤ x ∧ x < 9223372036854775808) (sk : SlF h I vk ks) (hlk : ks.length < 1048576) (hkb : ∀ x ∈ ks, -9223372036854775808 ≤ x ∧ x < 9223372036854775808) (T : TapeAt h tp B ds false) (hqt : vq.ownBlock = none ∨ vq.ownBlock ≠ pblk tp) (hkt : ks = [] ∨ (vk.ownBlock = none ∨ vk.ownBlock ≠ pblk tp)) (hgt : pblk tp ≠ some 2) :
    CallsH Tryz.prog 11 [.agg #[N (2 ^ L), U t, vq, N w], vs, vk, tp] h fun v' h' => Only (pblk tp) h h' ∧
      ((¬ SecP ((2 ^ L : Nat) : Int) ss ∧ v' = .tuple #[.agg #[.slice none 0 0, .slice none 0 0, .slice none 0 0], N 3] ∧ TapeAt h' tp B ds false) ∨
       (SecP ((2 ^ L : Nat) : Int) ss ∧ stepsB ((2 ^ L / 2 : Nat) : Int) 0 ks = false ∧ v' = .tuple #[.agg #[.slice none 0 0, .slice none 0 0, .slice none 0 0], N 5] ∧ TapeAt h' tp B ds false) ∨
       (SecP ((2 ^ L : Nat) : Int) ss ∧ stepsB ((2 ^ L / 2 : Nat) : Int) 0 ks = true ∧ match allsG (2 ^ L) w qs (ks.length + 1) ds with
        | none => v' = .tuple #[.agg #[.slice none 0 0, .slice none 0 0, .slice none 0 0], N 11] ∧ TapeAt h' tp B [] true
        | some (xss, ds') => ∃ vB vA vT pB pA ts, v' = .tuple #[.agg #[vB, vA, vT], N 0] ∧ SwAt h' h.size vB pB ∧ SwAt h' h.size vA pA ∧ TurnsAt h' h.size vT ts ∧ TapeAt h' tp B ds' false ∧ KeysR (2 ^ L) qs (qs.map (liftL ss)) ks xss (polysL pB) (polysL pA) (turnsL ts))) := by
  obtain ⟨tk, htk, htl⟩ := T.pb
  obtain ⟨ct, xt⟩ : ∃ ct, Var h tp 87 ct := by
    obtain ⟨v, s1, -⟩ := T
    exact ⟨_, s1⟩
  have hpk : ∀ j, pblk tp = some j → j < h.size := fun j hj => by rw [htk] at hj; cases hj; exact htl
  have RD := fun h TB0 A s sk x hqt => ready_spec L t w vq vs tp vk qs ss ks h TB0 A P hL3 hL9 hQ s hl hsb sk (by omega) hkb (et := 87) (ct := ct) x hqt
  (apply enter Tryz.func11 rfl Tryz.ntmps11 rfl)
  refine runJ ?_
  (apply s_box; exact rfl; exact rfl; exact rfl; exact rfl)
  intro p4 h1 x1 e1 b1
  (try dsimp only [Value.cells, List.toList_toArray] at x1)
  refine ⟨(by first | exact trivial | exact Ext.refl _ | assumption | exact Ext.trans (by assumption) (by assumption)), ?_⟩
  have A1 := A.ext e1
  have s1 := s.ext e1
  have sk1 := sk.ext e1
  have xt1 := xt.ext e1
  refine runJ ?_
  (apply s_alloc; exact rfl; exact rfl; exact rfl)
  intro p8 h2 x2 e2 b2
  (try dsimp only [Value.cells, List.toList_toArray] at x2)
  refine ⟨(by first | exact trivial | exact Ext.refl _ | assumption | exact Ext.trans (by assumption) (by assumption)), ?_⟩
  have E2 := e1.trans e2
  have x12 := x1.ext e2
  have xt2 := xt.ext E2
  have hs1 : h.size < h1.size := by obtain ⟨j, hj, hl⟩ := x1.blk; rw [b1] at hj; cases hj; exact hl
  have hs2 : h1.size < h2.size := by obtain ⟨j, hj, hl⟩ := x2.blk; rw [b2] at hj; cases hj; exact hl
  have hge8 : ∀ j, pblk p8 = some j → h.size ≤ j := fun j hj => by rw [b2] at hj; have := Option.some.inj hj; omega
  refine runJ ?_
  apply (s_call Tryz_ent35 rfl rfl rfl)
  refine (RD h2 (TB0.ext E2) (A.ext E2) (s.ext E2) (sk.ext E2) xt2 hqt).mono ?_
  rintro r h3 ⟨e3, G3⟩
  refine ⟨(by first | exact trivial | exact trivial), ?_⟩
  have E3 := E2.trans e3
  have x23 := x2.ext e3
  have xt3 := xt2.ext e3
  have sk3 := sk.ext E3
  have T3 := T.ext E3
  rcases G3 with ⟨hS, rfl⟩ | ⟨hS, hK, rfl⟩ | ⟨hS, hK, d, g, D, rfl, KA, KO, KZ, rfl, rfl, rfl, rfl, rfl, hDS⟩
  · refine runJ ?_
    (apply (s_build ([.slice none 0 0, .slice none 0 0, .slice none 0 0])); exact rfl; exact rfl; exact rfl; (repeat (first | exact CellsAll.nil | (apply CellsAll.cons; (first | exact oneL (by assumption) | exact oneL (SlF.one (by assumption)) | exact oneL (SlF.one (OwnF.sl (by assumption))) | exact oneL (Var.one (by assumption)) | exact rfl)))); exact rfl; exact rfl)
    refine runJ ?_
    (apply s_storeV; exact rfl; exact rfl; exact rfl; exact (OneAll.cons rfl (OneAll.cons rfl (OneAll.cons rfl OneAll.nil)) : OneAll [.slice none 0 0, .slice none 0 0, .slice none 0 0]); exact rfl; exact rfl; exact x23; exact rfl)
    intro h4 x4 k4
    refine ⟨trivial, ?_⟩
    have x4 : Var h4 p8 45 [.slice none 0 0, .slice none 0 0, .slice none 0 0] := x4
    refine runJ ?_
    exact finCT rfl rfl rfl x4 rfl rfl ⟨only_own (E3.only _) k4 hge8, .inl ⟨hS, rfl, T3.own k4 hpk T.bl hge8⟩⟩
  · refine runJ ?_
    (apply (s_build ([.slice none 0 0, .slice none 0 0, .slice none 0 0])); exact rfl; exact rfl; exact rfl; (repeat (first | exact CellsAll.nil | (apply CellsAll.cons; (first | exact oneL (by assumption) | exact oneL (SlF.one (by assumption)) | exact oneL (SlF.one (OwnF.sl (by assumption))) | exact oneL (Var.one (by assumption)) | exact rfl)))); exact rfl; exact rfl)
    refine runJ ?_
    (apply s_storeV; exact rfl; exact rfl; exact rfl; exact (OneAll.cons rfl (OneAll.cons rfl (OneAll.cons rfl OneAll.nil)) : OneAll [.slice none 0 0, .slice none 0 0, .slice none 0 0]); exact rfl; exact rfl; exact x23; exact rfl)
    intro h4 x4 k4
    refine ⟨trivial, ?_⟩
    have x4 : Var h4 p8 45 [.slice none 0 0, .slice none 0 0, .slice none 0 0] := x4
    refine runJ ?_
    exact finCT rfl rfl rfl x4 rfl rfl ⟨only_own (E3.only _) k4 hge8, .inr (.inl ⟨hS, hK, rfl, T3.own k4 hpk T.bl hge8⟩)⟩
  · have vd := KA.var
    have hRL := KO.rl
    have lS := KO.sl
    have hn24 := KO.rok.n24
    have hlq : 0 < D.R.qs.length := KO.rok.n0
    refine runJ ?_
    (apply (s_build ([.slice none 0 0, .slice none 0 0, .slice none 0 0])); exact rfl; exact rfl; exact rfl; (repeat (first | exact CellsAll.nil | (apply CellsAll.cons; (first | exact oneL (by assumption) | exact oneL (SlF.one (by assumption)) | exact oneL (SlF.one (OwnF.sl (by assumption))) | exact oneL (Var.one (by assumption)) | exact rfl)))); exact rfl; exact rfl)
    refine runJ ?_
    (apply s_alloc; exact rfl; exact rfl; exact rfl)
    intro p12 h4 x4 e4 b4
    (try dsimp only [Value.cells, List.toList_toArray] at x4)
    refine ⟨(by first | exact trivial | exact Ext.refl _ | assumption | exact Ext.trans (by assumption) (by assumption)), ?_⟩
    refine runJ ?_
    (apply s_storeV; exact rfl; exact rfl; exact rfl; exact (OneAll.cons rfl (OneAll.cons rfl (OneAll.cons rfl OneAll.nil)) : OneAll [.slice none 0 0, .slice none 0 0, .slice none 0 0]); exact rfl; exact rfl; exact x4; exact rfl)
    intro h5 x5 k5
    refine ⟨trivial, ?_⟩
    have x5 : Var h5 p12 45 [.slice none 0 0, .slice none 0 0, .slice none 0 0] := x5
    have E35 : Ext h3 h5 := k5.oldV e4 b4 (Nat.le_refl _)
    have x25 := x23.ext E35
    have KA5 := KA.ext E35
    have T5 := T3.ext E35
    have sk5 := sk3.ext E35
    have hsz3 := E3.1
    have hs4 : h3.size < h4.size := by obtain ⟨j, hj, hl⟩ := x4.blk; rw [b4] at hj; cases hj; exact hl
    have hp812 : pblk p8 ≠ pblk p12 := by
      obtain ⟨b, hb, hl⟩ := x23.blk
      rw [hb, b4]; intro e; cases e; omega
    have hp8t : pblk p8 ≠ pblk tp := by rw [b2, htk]; intro e; have := Option.some.inj e; omega
    have hp12t : pblk p12 ≠ pblk tp := by rw [b4, htk]; intro e; have := Option.some.inj e; omega
    have hge12 : ∀ j, pblk p12 = some j → h3.size ≤ j := fun j hj => by rw [b4] at hj; have := Option.some.inj hj; omega
    refine runJ ?_
    apply (s_call Tryz_ent37 rfl rfl rfl)
    refine (square_spec d g tp D h5 KO KA5).mono ?_
    rintro r h6 ⟨e6, vsq, rsq, psq, rfl, RQ, lsq, CQ⟩
    refine ⟨(by first | exact trivial | exact Ext.refl _ | assumption | exact Ext.trans (by assumption) (by assumption)), ?_⟩
    have lowt : ∀ {z : Nat} (v : Value), h.size ≤ z → (∀ k, v.ownBlock = some k → z ≤ k) → v.ownBlock = none ∨ v.ownBlock ≠ pblk tp := fun {z} v hz hv => by
      cases hb : v.ownBlock with
      | none => exact .inl rfl
      | some j => exact .inr fun e => by rw [htk] at e; cases e; have := hv _ hb; omega
    have PQ : PolOk D.R rsq := by
      refine ⟨by omega, by omega, fun i q x hx hq => ?_⟩
      obtain ⟨s', hs'⟩ := get_lt (l := D.S) (j := i) (by have := (List.getElem?_eq_some_iff.1 hq).1; omega)
      have := (CQ i q s' x hq hs' hx).1
      rw [hRL]; exact this
    have KA6 := KA5.ext e6
    have T6 := T5.ext e6
    have hz5 : h.size ≤ h5.size := Nat.le_trans E3.1 E35.1
    refine runJ ?_
    apply (s_call Tryz_ent36 rfl rfl rfl)
    refine (change_spec d g tp vsq D B ds rsq h6 KO KA6 KZ T6 RQ.pol PQ lsq (lowt _ hz5 fun k hk => (RQ.own.blk k hk).1) (fun x hx => lowt _ hz5 fun k hk => ((RQ.el x hx).blk k hk).1)).mono ?_
    rintro r h7 ⟨k7, G7⟩
    refine ⟨(by first | exact trivial | exact Ext.refl _ | assumption | exact Ext.trans (by assumption) (by assumption)), ?_⟩
    have x57 := (x5.ext e6).only k7 hp12t
    have x27 := (x25.ext e6).only k7 hp8t
    have k37 : Only (pblk tp) h3 h7 := ((E35.trans e6).only _).trans k7
    cases hw : swG (2 ^ D.L) D.w D.R.qs D.R.qs.length ds with
    | none =>
      rw [hw] at G7
      obtain ⟨rfl, T7⟩ := G7
      have hN : allsG (2 ^ D.L) D.w D.R.qs (ks.length + 1) ds = none := by unfold allsG; rw [hw]
      rw [hN]
      refine runJ ?_
      (apply s_storeP; exact rfl; exact rfl; exact rfl; exact (OneAll.cons rfl (OneAll.cons rfl OneAll.nil) : OneAll [.slice none 0 0, .slice none 0 0]); exact rfl; exact rfl; exact x57; exact rfl)
      intro h8 x8 k8
      refine ⟨trivial, ?_⟩
      have x28 := x27.only k8 hp812
      have k38 := only_own k37 k8 hge12
      have T8 := T7.own k8 (fun j hj => Nat.lt_of_lt_of_le (hpk j hj) E3.1) (fun b hb => Nat.lt_of_lt_of_le (T.bl b hb) E3.1) hge12
      refine runJ ?_
      (apply (s_build ([.slice none 0 0, .slice none 0 0, .slice none 0 0])); exact rfl; exact rfl; exact rfl; (repeat (first | exact CellsAll.nil | (apply CellsAll.cons; (first | exact oneL (by assumption) | exact oneL (SlF.one (by assumption)) | exact oneL (SlF.one (OwnF.sl (by assumption))) | exact oneL (Var.one (by assumption)) | exact rfl)))); exact rfl; exact rfl)
      refine runJ ?_
      (apply s_storeV; exact rfl; exact rfl; exact rfl; exact (OneAll.cons rfl (OneAll.cons rfl (OneAll.cons rfl OneAll.nil)) : OneAll [.slice none 0 0, .slice none 0 0, .slice none 0 0]); exact rfl; exact rfl; exact x28; exact rfl)
      intro h9 x9 k9
      refine ⟨trivial, ?_⟩
      have x9 : Var h9 p8 45 [.slice none 0 0, .slice none 0 0, .slice none 0 0] := x9
      refine runJ ?_
      exact finCT rfl rfl rfl x9 rfl rfl ⟨only_own ((E3.only _).trans k38) k9 hge8, .inr (.inr ⟨hS, hK, rfl, T8.own k9 hpk T.bl hge8⟩)⟩
    | some y =>
      obtain ⟨xs0, ds1⟩ := y
      rw [hw] at G7
      obtain ⟨vB, vA, pB, pA, rfl, SB7, SA7, mA7, lB7, T7, HS7⟩ := G7
      have hvB := SB7.own.sl.one
      have hvA := SA7.own.sl.one
      refine runJ ?_
      (apply s_storeP; exact rfl; exact rfl; exact rfl; exact (OneAll.cons hvB (OneAll.cons hvA OneAll.nil) : OneAll [vB, vA]); exact rfl; exact rfl; exact x57; exact rfl)
      intro h8 x8 k8
      refine ⟨trivial, ?_⟩
      have x8 : Var h8 p12 45 [vB, vA, .slice none 0 0] := x8
      have x28 := x27.only k8 hp812
      have k38 := only_own k37 k8 hge12
      have hpk3 : ∀ j, pblk tp = some j → j < h3.size := fun j hj => Nat.lt_of_lt_of_le (hpk j hj) E3.1
      have hbl3 : ∀ b, B = some b → b < h3.size := fun b hb => Nat.lt_of_lt_of_le (T.bl b hb) E3.1
      have T8 := T7.own k8 hpk3 hbl3 hge12
      have h36 : h3.size ≤ h6.size := Nat.le_trans E35.1 e6.1
      have SB8 := (SB7.neE x57 k8 rfl rfl rfl).base h36
      have SA8 := (SA7.neE x57 k8 rfl rfl rfl).base h36
      have sk8 := (slf_onlyK sk3 k38 hkt)
      have hA0 : allsG (2 ^ D.L) D.w D.R.qs (ks.length + 1) ds = match allsG (2 ^ D.L) D.w D.R.qs ks.length ds1 with
          | none => none
          | some (ys, ds') => some (xs0 :: ys, ds') := by
        conv => lhs; unfold allsG
        rw [hw]
      refine runJ ?_
      (first | (apply w_seqB; exact rfl; apply w_block; exact rfl) | skip)
      apply (w_loop (σ := Nat × Value × List TurnV × List Nat × List (List (List (List Nat) × List Int))) rfl (fun s => [(1, vs), (2, vk), (3, tp), (8, p8), (10, d), (12, p12), (42, vk), (43, N ks.length), (44, N s.1)])
        (fun s h' => Only (pblk tp) h3 h' ∧ s.1 ≤ ks.length ∧ Var h' p8 45 [.slice none 0 0, .slice none 0 0, .slice none 0 0] ∧ Var h' p12 45 [vB, vA, s.2.1] ∧ SwAt h' h3.size vB pB ∧ SwAt h' h3.size vA pA ∧ TurnsAt h' h3.size s.2.1 s.2.2.1 ∧ TapeAt h' tp B s.2.2.2.1 false ∧ s.2.2.1.map (·.1) = ks.take s.1 ∧ s.2.2.2.2.length = s.1 ∧
          (allsG (2 ^ D.L) D.w D.R.qs ks.length ds1 = match allsG (2 ^ D.L) D.w D.R.qs (ks.length - s.1) s.2.2.2.1 with
            | none => none
            | some (ys, ds') => some (s.2.2.2.2 ++ ys, ds')) ∧
          ∀ (j : Nat) (t : TurnV) (xs : List (List (List Nat) × List Int)), s.2.2.1[j]? = some t → s.2.2.2.2[j]? = some xs → ∃ H, TuH (2 ^ D.L) D.R.qs t.1 (D.R.qs.map (liftL ss)) H ∧ SwR (2 ^ D.L) D.R.qs (D.R.qs.map (liftL ss)) H xs (polysL t.2.1.2) (polysL t.2.2.2))
        (fun s => ks.length - s.1) (0, .slice none 0 0, [], ds1, []))
      · exact (Sub.cons rfl (Sub.cons rfl (Sub.cons rfl (Sub.cons rfl (Sub.cons rfl (Sub.cons rfl (Sub.cons rfl (Sub.cons rfl (Sub.cons rfl (Sub.nil _))))))))))
      · refine ⟨k38, Nat.zero_le _, x28, x8, SB8, SA8, ⟨Own.nil _ _ _ _, fun x hx => by cases hx⟩, T8, rfl, rfl, ?_, fun j t xs hj => by cases hj⟩
        dsimp only
        rw [Nat.sub_zero]
        cases allsG (2 ^ D.L) D.w D.R.qs ks.length ds1 with
        | none => rfl
        | some y => rfl
      rintro ⟨i, vT, ts, dsi, acc⟩ h9 ⟨k9, i9, x29, x9, SB9, SA9, ST9, T9, mT9, la9, hG9, hS9⟩
      dsimp only at k9 i9 x29 x9 SB9 SA9 ST9 T9 mT9 la9 hG9 hS9 ⊢
      have KA9 := KA.only KZ k9
      have sk9 := slf_onlyK sk3 k9 hkt
      have hvT := ST9.own.sl.one
      refine runJ ?_
      (apply w_condD; exact rfl; exact rfl) <;> intro hj
      · obtain ⟨x, hx⟩ := get_lt hj
        have hxb := hkb x (List.mem_of_getElem? hx)
        have TB9 := (TB0.ext E3).onlyG k9 hgt
        refine runJ ?_
        apply (s_call Tryz_ent38 rfl rfl rfl)
        refine (turned_spec d g tp D x h9 TB9 KO KA9 P QT hxb).mono ?_
        rintro r h10 ⟨e10, vtu, rtu, ptu, rfl, RT, ltu, CT⟩
        refine ⟨(by first | exact trivial | exact Ext.refl _ | assumption | exact Ext.trans (by assumption) (by assumption)), ?_⟩
        have PT : PolOk D.R rtu := by
          refine ⟨by omega, by omega, fun i q y hy hq => ?_⟩
          obtain ⟨s', hs'⟩ := get_lt (l := D.S) (j := i) (by have := (List.getElem?_eq_some_iff.1 hq).1; omega)
          rw [CT i q s' y hq hs' hy, hRL]
          have hq1 := (KO.rok.q q (List.mem_of_getElem? hq)).q1
          exact turnL_fit (Nat.two_pow_pos _) (by omega) (KO.sok.fit i q s' hs' hq).2
        have KA10 := KA9.ext e10
        have T10 := T9.ext e10
        have hz9 : h.size ≤ h9.size := Nat.le_trans E3.1 k9.1
        refine runJ ?_
        apply (s_call Tryz_ent36 rfl rfl rfl)
        refine (change_spec d g tp vtu D B dsi rtu h10 KO KA10 KZ T10 RT.pol PT ltu (lowt _ hz9 fun k hk => (RT.own.blk k hk).1) (fun x hx => lowt _ hz9 fun k hk => ((RT.el x hx).blk k hk).1)).mono ?_
        rintro r h11 ⟨k11, G11⟩
        refine ⟨(by first | exact trivial | exact Ext.refl _ | assumption | exact Ext.trans (by assumption) (by assumption)), ?_⟩
        have k311 : Only (pblk tp) h3 h11 := (k9.trans (e10.only _)).trans k11
        have x2b := (x29.ext e10).only k11 hp8t
        have x12b := (x9.ext e10).only k11 hp12t
        have htk3 : tk < h3.size := Nat.lt_of_lt_of_le htl E3.1
        have k11' : Only (some tk) h10 h11 := by rw [← htk]; exact k11
        have SBb := (SB9.ext e10).low k11' htk3
        have SAb := (SA9.ext e10).low k11' htk3
        have STb := (ST9.ext e10).low k11' htk3
        have hlen' : ks.length - i = (ks.length - (i + 1)) + 1 := by omega
        cases hw9 : swG (2 ^ D.L) D.w D.R.qs D.R.qs.length dsi with
        | none =>
          rw [hw9] at G11
          obtain ⟨rfl, T11⟩ := G11
          have hN : allsG (2 ^ D.L) D.w D.R.qs (ks.length + 1) ds = none := by
            rw [hA0, hG9, hlen']
            unfold allsG
            rw [hw9]
          rw [hN]
          refine runJ ?_
          (apply s_alloc; exact rfl; exact rfl; exact rfl)
          intro p15 h12 x12 e12 b12
          (try dsimp only [Value.cells, List.toList_toArray] at x12)
          refine ⟨(by first | exact trivial | exact Ext.refl _ | assumption | exact Ext.trans (by assumption) (by assumption)), ?_⟩
          refine runJ ?_
          (apply s_storeV; exact rfl; exact rfl; exact rfl; exact (OneAll.cons rfl (OneAll.cons rfl OneAll.nil) : OneAll [.slice none 0 0, .slice none 0 0]); exact rfl; exact rfl; exact x12; exact rfl)
          intro h13 x13 k13
          refine ⟨trivial, ?_⟩
          have E13 : Ext h11 h13 := k13.oldV e12 b12 (Nat.le_refl _)
          have x2c := x2b.ext E13
          refine runJ ?_
          (apply (s_build ([.slice none 0 0, .slice none 0 0, .slice none 0 0])); exact rfl; exact rfl; exact rfl; (repeat (first | exact CellsAll.nil | (apply CellsAll.cons; (first | exact oneL (by assumption) | exact oneL (SlF.one (by assumption)) | exact oneL (SlF.one (OwnF.sl (by assumption))) | exact oneL (Var.one (by assumption)) | exact rfl)))); exact rfl; exact rfl)
          refine runJ ?_
          (apply s_storeV; exact rfl; exact rfl; exact rfl; exact (OneAll.cons rfl (OneAll.cons rfl (OneAll.cons rfl OneAll.nil)) : OneAll [.slice none 0 0, .slice none 0 0, .slice none 0 0]); exact rfl; exact rfl; exact x2c; exact rfl)
          intro h14 x14 k14
          refine ⟨trivial, ?_⟩
          have x14 : Var h14 p8 45 [.slice none 0 0, .slice none 0 0, .slice none 0 0] := x14
          refine runJ ?_
          exact finCT rfl rfl rfl x14 rfl rfl ⟨only_own ((E3.only _).trans (k311.trans (E13.only _))) k14 hge8, .inr (.inr ⟨hS, hK, rfl, (T11.ext E13).own k14 hpk T.bl hge8⟩)⟩
        | some y =>
          obtain ⟨xs1, ds2⟩ := y
          rw [hw9] at G11
          obtain ⟨vb, va, pb, pa, rfl, SBn, SAn, mAn, lBn, T11, HSn⟩ := G11
          have hvb := SBn.own.sl.one
          have hva := SAn.own.sl.one
          refine runJ ?_
          (apply s_alloc; exact rfl; exact rfl; exact rfl)
          intro p15 h12 x12 e12 b12
          (try dsimp only [Value.cells, List.toList_toArray] at x12)
          refine ⟨(by first | exact trivial | exact Ext.refl _ | assumption | exact Ext.trans (by assumption) (by assumption)), ?_⟩
          refine runJ ?_
          (apply s_storeV; exact rfl; exact rfl; exact rfl; exact (OneAll.cons hvb (OneAll.cons hva OneAll.nil) : OneAll [vb, va]); exact rfl; exact rfl; exact x12; exact rfl)
          intro h13 x13 k13
          refine ⟨trivial, ?_⟩
          have x13 : Var h13 p15 42 [vb, va] := x13
          have E13 : Ext h11 h13 := k13.oldV e12 b12 (Nat.le_refl _)
          have x2c := x2b.ext E13
          have x12c := x12b.ext E13
          have hz910 : h3.size ≤ h10.size := Nat.le_trans k9.1 e10.1
          have SBc := SBb.ext E13
          have SAc := SAb.ext E13
          have STc := STb.ext E13
          have SBm := (SBn.ext E13).base hz910
          have SAm := (SAn.ext E13).base hz910
          refine runJ ?_
          (apply (s_build ([I x, vb, va])); exact rfl; exact rfl; exact rfl; (repeat (first | exact CellsAll.nil | (apply CellsAll.cons; (first | exact oneL (by assumption) | exact oneL (SlF.one (by assumption)) | exact oneL (SlF.one (OwnF.sl (by assumption))) | exact oneL (Var.one (by assumption)) | exact rfl)))); exact rfl; exact rfl)
          refine runJ ?_
          (apply (s_litC (s := 3) ([I x, vb, va])); exact rfl; (repeat (first | exact CellsAll.nil | (apply CellsAll.cons; (first | exact oneL (by assumption) | exact oneL (SlF.one (by assumption)) | exact oneL (SlF.one (OwnF.sl (by assumption))) | exact oneL (Var.one (by assumption)) | exact rfl)))); exact rfl; exact rfl; exact rfl; exact rfl; exact rfl; exact rfl; exact rfl; exact rfl; exact rfl; exact rfl)
          intro vl h14 o14 e14 b14
          refine ⟨(by first | exact trivial | exact Ext.refl _ | assumption | exact Ext.trans (by assumption) (by assumption)), ?_⟩
          have x12d := x12c.ext e14
          have x2d := x2c.ext e14
          have STd := STc.ext e14
          have SBd := SBc.ext e14
          have SAd := SAc.ext e14
          have SBe := SBm.ext e14
          have SAe := SAm.ext e14
          have k314 : Only (pblk tp) h3 h14 := k311.trans ((E13.trans e14).only _)
          have T14 := T11.ext (E13.trans e14)
          have hlts : ts.length = i := by
            have := congrArg List.length mT9
            rw [List.length_map, List.length_take] at this; omega
          refine runJ ?_
          (apply (s_append (s := 3) (bytes := 56) (B := h3.size) (m := ts.length) (k' := 1)); exact rfl; exact rfl; exact rfl; exact rfl; exact rfl; exact (by decide); exact rfl; exact rfl; exact STd.own; exact o14.sl; exact rfl; exact (fun u hu => by
            rcases List.mem_cons.1 hu with rfl | hu
            · rfl
            rcases List.mem_cons.1 hu with rfl | hu
            · exact hvb
            rw [List.mem_singleton.1 hu]; exact hva); exact k314.1; (simp only [maxLen]; omega); omega)
          intro v15 h15 o15 k15 b15
          refine ⟨trivial, ?_⟩
          have hv15 := o15.sl.one
          have hgeT : ∀ j, vT.ownBlock = some j → h3.size ≤ j := fun j hj => (STd.own.blk j hj).1
          have hp12T := var_ne9 x12d (Own.neT STd.own x12d rfl)
          have hp8T := var_ne9 x2d (Own.neT STd.own x2d rfl)
          have x12e := x12d.only k15 hp12T
          have x2e := x2d.only k15 hp8T
          have k315 := only_own k314 k15 hgeT
          have T15 := T14.own k15 hpk3 hbl3 hgeT
          have SBf := SBd.neW STd.own k15 rfl rfl rfl
          have SAf := SAd.neW STd.own k15 rfl rfl rfl
          have SBg := SBe.neW STd.own k15 rfl rfl rfl
          have SAg := SAe.neW STd.own k15 rfl rfl rfl
          have STe : ∀ y ∈ ts, SwAt h15 h3.size y.2.1.1 y.2.1.2 ∧ SwAt h15 h3.size y.2.2.1 y.2.2.2 := fun y hy => ⟨(STd.el y hy).1.neW STd.own k15 rfl rfl rfl, (STd.el y hy).2.neW STd.own k15 rfl rfl rfl⟩
          refine runJ ?_
          (apply s_storeC; exact rfl; exact rfl; exact hv15; exact rfl; exact rfl; exact x12e; exact rfl)
          intro h16 x16 k16
          refine ⟨trivial, ?_⟩
          have x16 : Var h16 p12 45 [vB, vA, v15] := x16
          refine runJ ?_
          apply again_normal (i + 1, v15, ts ++ [(x, (vb, pb), (va, pa))], ds2, acc ++ [xs1])
          · exact (Sub.cons rfl (Sub.cons rfl (Sub.cons rfl (Sub.cons rfl (Sub.cons rfl (Sub.cons rfl (Sub.cons rfl (Sub.cons rfl (Sub.cons rfl (Sub.nil _))))))))))
          · refine ⟨only_own k315 k16 hge12, hj, x2e.only k16 hp812, x16, SBf.neE x12e k16 rfl rfl rfl, SAf.neE x12e k16 rfl rfl rfl, ⟨?_, fun y hy => ?_⟩, T15.own k16 hpk3 hbl3 hge12, ?_, by dsimp only; rw [List.length_append, la9]; rfl, ?_, fun j t' xs hjt hjx => ?_⟩
            · dsimp only
              rw [List.length_append, List.flatMap_append]
              exact o15.only k16 (Own.neT o15 x12e rfl)
            · rcases List.mem_append.1 hy with hy | hy
              · exact ⟨(STe y hy).1.neE x12e k16 rfl rfl rfl, (STe y hy).2.neE x12e k16 rfl rfl rfl⟩
              · rw [List.mem_singleton.1 hy]
                exact ⟨SBg.neE x12e k16 rfl rfl rfl, SAg.neE x12e k16 rfl rfl rfl⟩
            · dsimp only
              rw [List.map_append, mT9, take_snoc hx]; rfl
            · dsimp only
              rw [hG9, hlen']
              conv => lhs; unfold allsG
              rw [hw9]
              dsimp only
              cases allsG (2 ^ D.L) D.w D.R.qs (ks.length - (i + 1)) ds2 with
              | none => rfl
              | some y => simp
            · dsimp only at hjt hjx
              rcases snoc_get hjx with ⟨ha1, ha2⟩ | ⟨hji, rfl⟩
              · refine hS9 j t' xs ?_ ha2
                rw [List.getElem?_append_left (by omega)] at hjt
                exact hjt
              · have hji : j = ts.length := by omega
                rw [hji, List.getElem?_append_right (Nat.le_refl _), Nat.sub_self] at hjt
                cases hjt
                refine ⟨rtu.map (·.2), ⟨by rw [List.length_map]; exact ltu, fun i' q s' r hq hs' hr => ?_⟩, mAn, by unfold polysL; rw [List.length_map]; exact lBn, fun i' ae b hae hb => ?_⟩
                · rw [← hDS, List.getElem?_map] at hs'
                  obtain ⟨sv, hsv, rfl⟩ := Option.map_eq_some_iff.1 hs'
                  rw [List.getElem?_map] at hr
                  obtain ⟨rv, hrv, rfl⟩ := Option.map_eq_some_iff.1 hr
                  exact CT i' q sv rv hq hsv hrv
                · unfold polysL at hb
                  rw [List.getElem?_map] at hb
                  obtain ⟨bv, hbv, rfl⟩ := Option.map_eq_some_iff.1 hb
                  rw [← hDS]
                  exact HSn i' ae bv hae hbv
          · dsimp only; omega
      · have hil : i = ks.length := by omega
        subst hil
        rw [Nat.sub_self] at hG9
        have hG : allsG (2 ^ D.L) D.w D.R.qs (ks.length + 1) ds = some (xs0 :: acc, dsi) := by
          rw [hA0, hG9]; simp [allsG]
        rw [hG]
        refine runJ ?_
        (apply s_storeV; exact rfl; exact rfl; exact rfl; exact (OneAll.cons hvB (OneAll.cons hvA (OneAll.cons hvT OneAll.nil)) : OneAll [vB, vA, vT]); exact rfl; exact rfl; exact x29; exact rfl)
        intro h10 x10 k10
        refine ⟨trivial, ?_⟩
        have x10 : Var h10 p8 45 [vB, vA, vT] := x10
        refine runJ ?_
        rw [List.take_length] at mT9
        refine finCT rfl rfl rfl x10 rfl rfl ⟨only_own ((E3.only _).trans k9) k10 hge8, .inr (.inr ⟨hS, hK, vB, vA, vT, pB, pA, ts, rfl, (SB9.neE x29 k10 rfl rfl rfl).base E3.1, (SA9.neE x29 k10 rfl rfl rfl).base E3.1, (ST9.neE x29 k10 rfl rfl rfl rfl).base E3.1, T9.own k10 hpk T.bl hge8, ?_⟩)⟩
        refine ⟨⟨rsq.map (·.2), xs0, ⟨by rw [List.length_map]; exact lsq, fun i' q s' r hq hs' hr => ?_⟩, rfl, mA7, by unfold polysL; rw [List.length_map]; exact lB7, fun i' ae b hae hb => ?_⟩, ?_, fun j t' xs hjt hjx => ?_⟩
        · rw [← hDS, List.getElem?_map] at hs'
          obtain ⟨sv, hsv, rfl⟩ := Option.map_eq_some_iff.1 hs'
          rw [List.getElem?_map] at hr
          obtain ⟨rv, hrv, rfl⟩ := Option.map_eq_some_iff.1 hr
          exact CQ i' q sv rv hq hsv hrv
        · unfold polysL at hb
          rw [List.getElem?_map] at hb
          obtain ⟨bv, hbv, rfl⟩ := Option.map_eq_some_iff.1 hb
          rw [← hDS]
          exact HS7 i' ae bv hae hbv
        · unfold turnsL
          rw [List.map_map, ← mT9]; rfl
        · unfold turnsL at hjt
          rw [List.getElem?_map] at hjt
          obtain ⟨tv, htv, rfl⟩ := Option.map_eq_some_iff.1 hjt
          rw [List.getElem?_cons_succ] at hjx
          exact hS9 j tv xs htv hjx
end Go.Proofs.YtfcmdefigldpnaaGreatDoor

