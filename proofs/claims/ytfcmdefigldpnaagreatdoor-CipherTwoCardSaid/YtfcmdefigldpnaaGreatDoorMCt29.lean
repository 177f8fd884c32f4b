/- Texts CipG to CipU of this work, joined, without what the law does not lean on. -/
import Derived.Test.YtfcmdefigldpnaaGreatDoorMCt28
namespace Go.Proofs.YtfcmdefigldpnaaGreatDoor
set_option linter.unusedVariables false
set_option maxRecDepth 8000
open Go Go.Den Go.RowKit Go.Mth Go.Dig

theorem Tryz_ent19 : Ent Tryz.prog 19 := ent_of Tryz.func19 (by kernel_rfl) rfl
set_option maxHeartbeats 4000000 in
theorem public_spec (L t w : Nat) (vq vs tp : Value) (qs : List Nat) (ss : List Int) (B : Option Nat) (ds ds' : List Nat) (a : List (List Nat)) (es : List Int) (h : Hp) (TB0 : TB h) (A : ParAt h ⟨((2 ^ L : Nat) : Int), t, vq, qs, (w : Int)⟩) (P : parP ⟨((2 ^ L : Nat) : Int), t, vq, qs, (w : Int)⟩) (hL3 : 3 ≤ L) (hL9 : L ≤ 9) (hQ : ∀ q ∈ qs, QOk L q)
    (s : SlF h I vs ss) (hl : ss.length < 4611686018427387904) (hsb : ∀ x ∈ ss, -9223372036854775808 ≤ x ∧ x < 9223372036854775808) (hS : SecP ((2 ^ L : Nat) : Int) ss) (T : TapeAt h tp B ds false) (hqt : vq.ownBlock = none ∨ vq.ownBlock ≠ pblk tp) (hG : hideG (2 ^ L) w qs ds = some ((a, es), ds')) :
    CallsH Tryz.prog 19 [.agg #[N (2 ^ L), U t, vq, N w], vs, tp] h fun v' h' => Only (pblk tp) h h' ∧ ∃ vb va rb ra pa, v' = .tuple #[.agg #[vb, va], N 0] ∧ RowsAt h' h.size none vb rb ∧ RowsAt h' h.size pa va ra ∧ ra.map (·.2) = a ∧ rb.length = qs.length ∧ TapeAt h' tp B ds' false ∧
      ∀ (i q : Nat) (ai : List Nat) (b : Value × List Nat), qs[i]? = some q → a[i]? = some ai → rb[i]? = some b → HidB (2 ^ L) q (liftL ss q) (liftL (List.replicate (2 ^ L) 0) q) ai es b.2 := by
  obtain ⟨tk, htk, htl⟩ := T.pb
  obtain ⟨ct, xt⟩ : ∃ ct, Var h tp 87 ct := by
    obtain ⟨v, s1, -⟩ := T
    exact ⟨_, s1⟩
  have hpk : ∀ j, pblk tp = some j → j < h.size := fun j hj => by rw [htk] at hj; cases hj; exact htl
  have RD := fun h TB0 A s x hqt => ready_spec L t w vq vs tp (.slice none 0 0) qs ss [] h TB0 A P hL3 hL9 hQ s hl hsb (SlF.nil _ _) (by decide) (fun x hx => by cases hx) (et := 87) (ct := ct) x hqt
  have hp9 : 2 ^ L ≤ 2 ^ 9 := Nat.pow_le_pow_right (by decide) hL9
  have e9 : (2 : Nat) ^ 9 = 512 := by decide
  (apply enter Tryz.func19 rfl Tryz.ntmps19 rfl)
  refine runJ ?_
  (apply s_box; exact rfl; exact rfl; exact rfl; exact rfl)
  intro p3 h1 x1 e1 b1
  (try dsimp only [Value.cells, List.toList_toArray] at x1)
  refine ⟨(by first | exact trivial | exact Ext.refl _ | assumption | exact Ext.trans (by assumption) (by assumption)), ?_⟩
  refine runJ ?_
  (apply s_alloc; exact rfl; exact rfl; exact rfl)
  intro p6 h2 x2 e2 b2
  (try dsimp only [Value.cells, List.toList_toArray] at x2)
  refine ⟨(by first | exact trivial | exact Ext.refl _ | assumption | exact Ext.trans (by assumption) (by assumption)), ?_⟩
  have E2 := e1.trans e2
  have x12 := x1.ext e2
  have xt2 := xt.ext E2
  refine runJ ?_
  apply (s_call Tryz_ent35 rfl rfl rfl)
  refine (RD h2 (TB0.ext E2) (A.ext E2) (s.ext E2) xt2 hqt).mono ?_
  rintro r h3 ⟨e3, G3⟩
  refine ⟨(by first | exact trivial | exact trivial), ?_⟩
  have E3 := E2.trans e3
  have x23 := x2.ext e3
  have T3 := T.ext E3
  rcases G3 with ⟨hS', -⟩ | ⟨-, hK, -⟩ | ⟨-, -, d, g, D, rfl, KA, KO, KZ, hDL, hDt, hDw, hDv, hDq, hDS⟩
  · exact absurd hS hS'
  · cases hK
  refine runJ ?_
  apply (s_call Tryz_ent48 rfl rfl rfl)
  refine (zero_spec d g tp D h3 KO KA).mono ?_
  rintro _ h4 ⟨e4, vz, rz, pz, rfl, RZ, mz, -⟩
  refine ⟨(by first | exact trivial | exact trivial), ?_⟩
  have E4 := E3.trans e4
  have x24 := x23.ext e4
  have T4 := T3.ext e4
  have KA4 := KA.ext e4
  rw [hDL, hDq] at mz
  have lz : rz.length = qs.length := by have := congrArg List.length mz; unfold zerosL at this; simpa using this
  have zi : ∀ (i q : Nat) (x : Value × List Nat), rz[i]? = some x → qs[i]? = some q → x.2 = liftL (List.replicate (2 ^ L) 0) q := fun i q x hx hq => by
    have h2 := congrArg (fun l => l[i]?) mz
    unfold zerosL at h2
    simp only [List.getElem?_map, hx, hq, Option.map_some, Option.some.injEq] at h2
    exact h2
  have PZ : PolOk D.R rz := ⟨by rw [lz]; have := P.2.2.1.2.2.1; dsimp only at this; omega, by rw [hDq]; omega, fun i q x hx hq => by
    rw [hDq] at hq
    rw [KO.rl, hDL, zi i q x hx hq]
    have hq1 := (hQ q (List.mem_of_getElem? hq)).q1
    refine ⟨by rw [lift_len, List.length_replicate], fun z hz => ?_⟩
    unfold liftL at hz
    obtain ⟨z', -, rfl⟩ := List.mem_map.1 hz
    exact liftm_lt9 (by omega)⟩
  have nhi : ∀ {v : Value}, (∀ b, v.ownBlock = some b → h.size ≤ b) → v.ownBlock = none ∨ v.ownBlock ≠ pblk tp := fun {v} hv => by
    cases hb : v.ownBlock with
    | none => exact .inl rfl
    | some b => exact .inr fun e => by have := hpk b e.symm; have := hv b hb; omega
  have nz := nhi (v := vz) fun b hb => Nat.le_trans E3.1 (RZ.own.blk b hb).1
  have nzr : ∀ x ∈ rz, x.1.ownBlock = none ∨ x.1.ownBlock ≠ pblk tp := fun x hx => nhi fun b hb => Nat.le_trans E3.1 ((RZ.el x hx).blk b hb).1
  have HS := hide_spec d g tp vz D B ds rz h4 KO KA4 KZ T4 RZ.pol PZ (by rw [hDq]; exact lz) nz nzr
  rw [hDL, hDw, hDq, hG] at HS
  refine runJ ?_
  apply (s_call Tryz_ent47 rfl rfl rfl)
  refine (HS).mono ?_
  rintro _ h5 ⟨k5, vb, va, rb, ra, pa, rfl, RB, RA, ma, lb, T5, hH⟩
  refine ⟨(by first | exact trivial | exact trivial), ?_⟩
  have n6 : pblk p6 ≠ pblk tp := by rw [b2]; intro e; have := hpk _ e.symm; have := e1.1; omega
  have x25 := x24.only k5 n6
  have hvb := RB.own.sl.one
  have hva := RA.own.sl.one
  refine runJ ?_
  (apply s_alloc; exact rfl; exact rfl; exact rfl)
  intro p10 h6 x6 e6 b6
  (try dsimp only [Value.cells, List.toList_toArray] at x6)
  refine ⟨(by first | exact trivial | exact Ext.refl _ | assumption | exact Ext.trans (by assumption) (by assumption)), ?_⟩
  refine runJ ?_
  (apply s_alloc; exact rfl; exact rfl; exact rfl)
  intro p11 h7 x7 e7 b7
  (try dsimp only [Value.cells, List.toList_toArray] at x7)
  refine ⟨(by first | exact trivial | exact Ext.refl _ | assumption | exact Ext.trans (by assumption) (by assumption)), ?_⟩
  have x67 := x6.ext e7
  have hs67 : h6.size < h7.size := by obtain ⟨b, hb, hl⟩ := x7.blk; rw [b7] at hb; cases hb; exact hl
  have hs56 : h5.size < h6.size := by obtain ⟨b, hb, hl⟩ := x6.blk; rw [b6] at hb; cases hb; exact hl
  refine runJ ?_
  (apply s_storeV; exact rfl; exact rfl; exact rfl; exact (OneAll.cons hvb OneAll.nil : OneAll [vb]); exact rfl; exact rfl; exact x67; exact rfl)
  intro h8 x8 k8
  refine ⟨trivial, ?_⟩
  have x8 : Var h8 p10 56 [vb] := x8
  have n1011 : pblk p11 ≠ pblk p10 := by rw [b7, b6]; intro e; have := Option.some.inj e; omega
  have x78 := x7.only k8 n1011
  have e58 : Ext h5 h8 := k8.oldV (e6.trans e7) b6 (Nat.le_refl _)
  refine runJ ?_
  (apply s_storeV; exact rfl; exact rfl; exact rfl; exact (OneAll.cons hva OneAll.nil : OneAll [va]); exact rfl; exact rfl; exact x78; exact rfl)
  intro h9 x9 k9
  refine ⟨trivial, ?_⟩
  have x9 : Var h9 p11 56 [va] := x9
  have x89 := x8.only k9 (fun e => n1011 e.symm)
  have e59 : Ext h5 h9 := k9.oldV e58 b7 (Nat.le_of_lt hs56)
  have x29 := x25.ext e59
  refine runJ ?_
  (apply (s_build ([vb, va])); exact rfl; exact rfl; exact rfl; (repeat (first | exact CellsAll.nil | (apply CellsAll.cons; (first | exact oneL (by assumption) | exact oneL (SlF.one (by assumption)) | exact oneL (SlF.one (OwnF.sl (by assumption))) | exact oneL (Var.one (by assumption)) | exact rfl)))); exact rfl; exact rfl)
  refine runJ ?_
  (apply s_storeV; exact rfl; exact rfl; exact rfl; exact (OneAll.cons hvb (OneAll.cons hva OneAll.nil) : OneAll [vb, va]); exact rfl; exact rfl; exact x29; exact rfl)
  intro h10 x10 k10
  refine ⟨trivial, ?_⟩
  have x10 : Var h10 p6 58 [vb, va] := x10
  have hge6 : ∀ j, pblk p6 = some j → h.size ≤ j := fun j hj => by rw [b2] at hj; cases hj; exact e1.1
  have K9 : Only (pblk tp) h h9 := ((E4.only _).trans k5).trans (e59.only _)
  have T9 := T5.ext e59
  refine runJ ?_
  exact finCT rfl rfl rfl x10 rfl rfl ⟨only_own K9 k10 hge6, vb, va, rb, ra, pa, rfl, ((RB.ext e59).neE x29 k10 rfl rfl).base E4.1, ((RA.ext e59).neE x29 k10 rfl rfl).base E4.1, ma, lb, T9.own k10 hpk T.bl hge6, fun i q ai b hqi hai hb => by
    have hi := (List.getElem?_eq_some_iff.1 hqi).1
    obtain ⟨xz, hxz⟩ := get_lt (l := rz) (j := i) (by omega)
    obtain ⟨xs, hxs⟩ := get_lt (l := D.S) (j := i) (by rw [KO.sl, hDq]; exact hi)
    have h1 := hH i q xs xz ai b hqi hxs hxz hai hb
    rw [zi i q xz hxz hqi] at h1
    have h2 := congrArg (fun l => l[i]?) hDS
    simp only [List.getElem?_map, hxs, hqi, Option.map_some, Option.some.injEq] at h2
    rwa [h2] at h1⟩
end Go.Proofs.YtfcmdefigldpnaaGreatDoor


namespace Go.Proofs.YtfcmdefigldpnaaGreatDoor
set_option linter.unusedVariables false
set_option maxRecDepth 8000
open Go Go.Den Go.RowKit Go.Mth Go.Dig

theorem rows_T {n : Nat} {ds ds' : List Nat} {us : List Int} (h : rowG firstT n ds = some (us, ds')) : us.length = n ∧ ∀ v ∈ us, v = 0 ∨ v = 1 ∨ v = -1 := rowG_all firstT_val9 n ds us ds' h
theorem rows_E {n w : Nat} {ds ds' : List Nat} {xs : List Int} (h : rowG (firstE w) n ds = some (xs, ds')) : xs.length = n ∧ ∀ v ∈ xs, -(w : Int) ≤ v ∧ v ≤ w :=
  rowG_all (fun ds r ds' h => by
    cases ds with
    | nil => cases h
    | cons d0 ds0 => cases h; exact errV_le w d0) n ds xs ds' h
theorem hideG_all {n w : Nat} {qs ds ds' : List Nat} {a : List (List Nat)} {es : List Int} (hq : ∀ q ∈ qs, 0 < q) (h : hideG n w qs ds = some ((a, es), ds')) : a.length = qs.length ∧ (∀ (i q : Nat) (l : List Nat), a[i]? = some l → qs[i]? = some q → Fit n q l) ∧ es.length = n ∧ ∀ v ∈ es, -(w : Int) ≤ v ∧ v ≤ w := by
  unfold hideG at h
  cases hU : uniG n qs ds with
  | none => rw [hU] at h; cases h
  | some u =>
    obtain ⟨a', d1⟩ := u
    rw [hU] at h
    dsimp only at h
    cases hE : rowG (firstE w) n d1 with
    | none => rw [hE] at h; cases h
    | some v =>
      obtain ⟨e, d2⟩ := v
      rw [hE] at h
      cases h
      obtain ⟨a1, a2⟩ := uniG_all9 qs ds a d1 hq hU
      exact ⟨a1, fun i q l hl hq' => a2 i q l hl hq', rows_E hE⟩
theorem hidB_fit {n q : Nat} {s hr a b : List Nat} {e : List Int} (hq : 0 < q) (lh : hr.length = n) (le : e.length = n) (h : HidB n q s hr a e b) : Fit n q b := by
  obtain ⟨zs, hz, rfl⟩ := h
  exact subL_fit hq lh (by rw [addL_len (by rw [lift_len]; have := hz.1.1; omega)]; exact hz.1.1)
theorem cip_fit {n : Nat} {qs : List Nat} {rb ra c0 c1 : List (List Nat)} {us xs ys zs : List Int} (hq : ∀ q ∈ qs, 0 < q) (lX : xs.length = n) (lY : ys.length = n) (lZ : zs.length = n) (lrb : rb.length = qs.length) (lra : ra.length = qs.length) (CR : CipR n qs rb ra us xs ys zs c0 c1) :
    (∀ (i q : Nat) (c : List Nat), c0[i]? = some c → qs[i]? = some q → Fit n q c) ∧ ∀ (i q : Nat) (c : List Nat), c1[i]? = some c → qs[i]? = some q → Fit n q c := by
  refine ⟨fun i q c hc hqi => ?_, fun i q c hc hqi => ?_⟩
  · obtain ⟨b, hb⟩ := get_lt (l := rb) (j := i) (by rw [lrb]; exact (List.getElem?_eq_some_iff.1 hqi).1)
    obtain ⟨zB, hB, rfl⟩ := CR.r0 i q b c hqi hb hc
    exact addL_fit (hq q (List.mem_of_getElem? hqi)) (by rw [addL_len (by rw [lift_len]; have := hB.1.1; omega)]; exact hB.1.1) (by rw [lift_len]; exact lZ)
  · obtain ⟨b, hb⟩ := get_lt (l := ra) (j := i) (by rw [lra]; exact (List.getElem?_eq_some_iff.1 hqi).1)
    obtain ⟨zB, hB, rfl⟩ := CR.r1 i q b c hqi hb hc
    exact addL_fit (hq q (List.mem_of_getElem? hqi)) hB.1.1 (by rw [lift_len]; exact lY)
theorem takes_hid {n w : Nat} {ds : List Nat} (h : AltE ds) (hl : 6 * n ≤ ds.length) : ∃ us xs ys d1 d2 d3, rowG firstT n ds = some (us, d1) ∧ rowG (firstE w) n d1 = some (xs, d2) ∧ rowG (firstE w) n d2 = some (ys, d3) := by
  obtain ⟨us, d1, h1, a1, l1⟩ := takes_row takes_T n h (by omega)
  obtain ⟨xs, d2, h2, a2, l2⟩ := takes_row (takes_E w) n a1 (by omega)
  obtain ⟨ys, d3, h3, a3, l3⟩ := takes_row (takes_E w) n a2 (by omega)
  exact ⟨us, xs, ys, d1, d2, d3, h1, h2, h3⟩
/-- The noise of what is made is little. -/
theorem noise_small {n w : Nat} {ss es us xs ys : List Int} (lS : ss.length = n) (lE : es.length = n) (lU : us.length = n) (lX : xs.length = n) (lY : ys.length = n)
    (hs : ∀ v ∈ ss, v = 0 ∨ v = 1 ∨ v = -1) (hu : ∀ v ∈ us, v = 0 ∨ v = 1 ∨ v = -1) (he : ∀ v ∈ es, -(w : Int) ≤ v ∧ v ≤ w) (hx : ∀ v ∈ xs, -(w : Int) ≤ v ∧ v ≤ w) (hy : ∀ v ∈ ys, -(w : Int) ≤ v ∧ v ≤ w) (hn : n ≤ 32) (hw : w ≤ 16) :
    ∀ p, p < n → -100000 ≤ noise n ss es us xs ys p ∧ noise n ss es us xs ys p ≤ 100000 := fun p hp => by
  have h1 := noise_bd lS lE lU lX lY hs hu he hx hy hp
  have h2 : w * (2 * n + 1) ≤ 16 * 65 := Nat.mul_le_mul hw (by omega)
  omega
theorem odd_of {t m : Nat} (h : t % (2 * m) = 1) : t % 2 = 1 := by
  have := Nat.mod_mod_of_dvd t (Nat.dvd_mul_right 2 m)
  rw [h] at this
  exact this.symm
end Go.Proofs.YtfcmdefigldpnaaGreatDoor


namespace Go.Proofs.YtfcmdefigldpnaaGreatDoor
set_option linter.unusedVariables false
set_option maxRecDepth 8000
open Go Go.Den Go.RowKit Go.Mth Go.Dig

theorem varNeT {h : Hp} {p q : Value} {e e2 : TypeId} {cs ds : List Value} (x : Var h p e cs) (y : Var h q e2 ds) (hne : Nat.beq e e2 = false) : pblk p ≠ pblk q := by
  obtain ⟨b, rfl, hb⟩ := x
  obtain ⟨c, rfl, hc⟩ := y
  intro h1
  have h1 : some b = some c := h1
  cases h1
  rw [hb] at hc
  simp only [Option.some.injEq, Obj.cells.injEq] at hc
  have := hc.2.1
  subst this
  simp at hne
theorem SwAt.sla {h : Hp} {B : Nat} {v : Value} {ps : List (Value × List (Value × List Nat))} (s : SwAt h B v ps) : SlA h (fun x : Value × List (Value × List Nat) => [x.1]) 1 v ps := ⟨fun _ => rfl, by
  have := s.own.sl
  unfold SlF at this
  have e : ps.flatMap (fun x : Value × List (Value × List Nat) => [x.1]) = ps.map Prod.fst := by
    clear this s
    induction ps with
    | nil => rfl
    | cons a l ih => rw [List.flatMap_cons, ih]; rfl
  rw [e]
  exact this⟩
theorem TapeAt.varT {h : Hp} {t : Value} {B : Option Nat} {ds : List Nat} {o : Bool} (s : TapeAt h t B ds o) : ∃ ct, Var h t 87 ct := by
  obtain ⟨v, s1, -⟩ := s
  exact ⟨_, s1⟩
theorem cip_hp {h : Hp} {B n : Nat} {v : Value} {c0 c1 : Value × List (Value × List Nat)} {qs : List Nat} {rb ra : List (List Nat)} {us xs ys zs : List Int} (S : SwAt h B v [c0, c1]) (hq : ∀ q ∈ qs, 0 < q) (lX : xs.length = n) (lY : ys.length = n) (lZ : zs.length = n) (lrb : rb.length = qs.length) (lra : ra.length = qs.length)
    (CR : CipR n qs rb ra us xs ys zs (c0.2.map (·.2)) (c1.2.map (·.2))) : ∀ x ∈ [c0, c1], PolAt h x.1 x.2 ∧ x.2.length = qs.length ∧ ∀ (i q : Nat) (y : Value × List Nat), x.2[i]? = some y → qs[i]? = some q → Fit n q y.2 := by
  obtain ⟨f0, f1⟩ := cip_fit hq lX lY lZ lrb lra CR
  have l0 := CR.l0
  have l1 := CR.l1
  rw [List.length_map] at l0 l1
  have key : ∀ x ∈ [c0, c1], PolAt h x.1 x.2 := fun x hx => by obtain ⟨p, hp⟩ := S.el x hx; exact hp.pol
  intro x hx
  refine ⟨key x hx, ?_⟩
  rcases List.mem_cons.1 hx with rfl | hx
  · exact ⟨l0, fun i q y hy hq => f0 i q y.2 (by rw [List.getElem?_map, hy]; rfl) hq⟩
  · rw [List.mem_singleton.1 hx]
    exact ⟨l1, fun i q y hy hq => f1 i q y.2 (by rw [List.getElem?_map, hy]; rfl) hq⟩
/-- Blocks of a public key and a text, beside a tape's. -/
structure Beside (vq vM vB vA tx : Value) (rb ra : List (Value × List Nat)) : Prop where mk ::
  q : vq.ownBlock = none ∨ vq.ownBlock ≠ pblk tx
  m : vM.ownBlock = none ∨ vM.ownBlock ≠ pblk tx
  b : vB.ownBlock = none ∨ vB.ownBlock ≠ pblk tx
  a : vA.ownBlock = none ∨ vA.ownBlock ≠ pblk tx
  rb : ∀ x ∈ rb, x.1.ownBlock = none ∨ x.1.ownBlock ≠ pblk tx
  ra : ∀ x ∈ ra, x.1.ownBlock = none ∨ x.1.ownBlock ≠ pblk tx
  g : pblk tx ≠ some 2
/-- Ciphertexts stay where they are. -/
def KeepC (h h' : Hp) : Prop := ∀ p cs, Var h p 62 cs → Var h' p 62 cs


/-- What is known of a secret and a public key that are made. -/
structure KeyPure (a b L : Nat) (rb rA : List (Value × List Nat)) (ss es : List Int) : Prop where mk ::
  hL : pI a + 3 = L
  lb : rb.length = (qPar a b).length
  la : rA.length = (qPar a b).length
  fb : ∀ (i q : Nat) (x : Value × List Nat), rb[i]? = some x → (qPar a b)[i]? = some q → Fit (2 ^ L) q x.2
  fa : ∀ (i q : Nat) (x : Value × List Nat), rA[i]? = some x → (qPar a b)[i]? = some q → Fit (2 ^ L) q x.2
  hb : ∀ (i q : Nat) (ai bb : List Nat), (qPar a b)[i]? = some q → (rA.map (·.2))[i]? = some ai → (rb.map (·.2))[i]? = some bb → HidB (2 ^ L) q (liftL ss q) (liftL (List.replicate (2 ^ L) 0) q) ai es bb
  lss : ss.length = 2 ^ L
  hss : ∀ v ∈ ss, v = 0 ∨ v = 1 ∨ v = -1
  les : es.length = 2 ^ L
  bes : ∀ v ∈ es, -((1 + b / 16 % 16 : Nat) : Int) ≤ v ∧ v ≤ ((1 + b / 16 % 16 : Nat) : Int)
/-- Where they lie. -/
structure KeyMade (a b L : Nat) (vq vB vA u : Value) (rb rA : List (Value × List Nat)) (ss : List Int) (h : Hp) : Prop where mk ::
  tb : TB h
  par : ParAt h ⟨((2 ^ L : Nat) : Int), tPar a, vq, qPar a b, ((1 + b / 16 % 16 : Nat) : Int)⟩
  sec : SlF h I u ss
  pb : PolAt h vB rb
  pa : PolAt h vA rA
theorem KeyMade.ext {a b L : Nat} {vq vB vA u : Value} {rb rA : List (Value × List Nat)} {ss : List Int} {h h' : Hp} (K : KeyMade a b L vq vB vA u rb rA ss h) (e : Ext h h') : KeyMade a b L vq vB vA u rb rA ss h' :=
  ⟨K.tb.ext e, K.par.ext e, K.sec.ext e, K.pb.ext e, K.pa.ext e⟩
theorem KeyMade.only {a b L : Nat} {vq vB vA u vM tx : Value} {rb rA : List (Value × List Nat)} {ss : List Int} {h h' : Hp} (K : KeyMade a b L vq vB vA u rb rA ss h) (k : Only (pblk tx) h h') (N5 : Beside vq vM vB vA tx rb rA) (nu : u.ownBlock = none ∨ u.ownBlock ≠ pblk tx) : KeyMade a b L vq vB vA u rb rA ss h' :=
  ⟨K.tb.onlyG k N5.g, ⟨K.par.row.only k N5.q, K.par.al, K.par.t64, K.par.ln⟩, K.sec.only k nu, ⟨K.pb.row.only k N5.b, fun x hx => (K.pb.el x hx).only k (N5.rb x hx)⟩, ⟨K.pa.row.only k N5.a, fun x hx => (K.pa.el x hx).only k (N5.ra x hx)⟩⟩
/-- Draws of a text that is hidden. -/
structure DrawsH (n w : Nat) (ds : List Nat) (us xs ys : List Int) (ds' : List Nat) : Prop where mk ::
  dr : ∃ d1 d2, rowG firstT n ds = some (us, d1) ∧ rowG (firstE w) n d1 = some (xs, d2) ∧ rowG (firstE w) n d2 = some (ys, ds')
theorem draws_h {n w : Nat} {ds : List Nat} (h : AltE ds) (hl : 6 * n ≤ ds.length) : ∃ us xs ys ds', DrawsH n w ds us xs ys ds' := by
  obtain ⟨us, xs, ys, d1, d2, d3, h1, h2, h3⟩ := takes_hid (n := n) (w := w) h hl
  exact ⟨us, xs, ys, d3, ⟨d1, d2, h1, h2, h3⟩⟩
theorem DrawsH.lens {n w : Nat} {ds ds' : List Nat} {us xs ys : List Int} (D : DrawsH n w ds us xs ys ds') : (us.length = n ∧ ∀ v ∈ us, v = 0 ∨ v = 1 ∨ v = -1) ∧ (xs.length = n ∧ ∀ v ∈ xs, -(w : Int) ≤ v ∧ v ≤ w) ∧ (ys.length = n ∧ ∀ v ∈ ys, -(w : Int) ≤ v ∧ v ≤ w) := by
  obtain ⟨d1, d2, h1, h2, h3⟩ := D.dr
  exact ⟨rows_T h1, rows_E h2, rows_E h3⟩

section made
variable {a b L : Nat} {vq vB vA u : Value} {rb rA : List (Value × List Nat)} {ss es : List Int}
theorem KeyPure.two (P : KeyPure a b L rb rA ss es) : 8 ≤ 2 ^ L ∧ 2 ^ L ≤ 32 ∧ 3 ≤ L ∧ L ≤ 5 := by
  have hpi : pI a < 3 := Nat.mod_lt _ (by decide)
  have hL := P.hL
  have h1 : 2 ^ 3 ≤ 2 ^ L := Nat.pow_le_pow_right (by decide) (by omega)
  have h2 : 2 ^ L ≤ 2 ^ 5 := Nat.pow_le_pow_right (by decide) (by omega)
  have e3 : (2 : Nat) ^ 3 = 8 := by decide
  have e5 : (2 : Nat) ^ 5 = 32 := by decide
  omega
theorem KeyPure.par (P : KeyPure a b L rb rA ss es) (vq : Value) : parP ⟨((2 ^ L : Nat) : Int), tPar a, vq, qPar a b, ((1 + b / 16 % 16 : Nat) : Int)⟩ := by
  have := parM_ok a b vq
  unfold parM at this
  rwa [P.hL] at this
theorem KeyPure.qok (P : KeyPure a b L rb rA ss es) : ∀ q ∈ qPar a b, QOk L q := by
  obtain ⟨-, q2, -, -⟩ := qPar_facts a b
  rw [← P.hL]
  exact fun q hq => (q2 q hq).2.2
theorem q_pos (a b : Nat) : ∀ q ∈ qPar a b, 0 < q := by
  obtain ⟨-, q2, -, -⟩ := qPar_facts a b
  exact fun q hq => by have := q2 q hq; omega
theorem KeyPure.lrb (P : KeyPure a b L rb rA ss es) : (rb.map (·.2)).length = (qPar a b).length := by rw [List.length_map]; exact P.lb
theorem KeyPure.lra (P : KeyPure a b L rb rA ss es) : (rA.map (·.2)).length = (qPar a b).length := by rw [List.length_map]; exact P.la
theorem KeyPure.fra (P : KeyPure a b L rb rA ss es) : ∀ (i q : Nat) (aa : List Nat), (qPar a b)[i]? = some q → (rA.map (·.2))[i]? = some aa → aa.length = 2 ^ L := fun i q aa hq haa => by
  rw [List.getElem?_map] at haa
  cases hy : rA[i]? with
  | none => rw [hy] at haa; cases haa
  | some y => rw [hy] at haa; cases haa; exact (P.fa i q y hy hq).1
theorem KeyPure.sec (P : KeyPure a b L rb rA ss es) : SecP ((2 ^ L : Nat) : Int) ss := ⟨fun x hx => by have := P.hss x hx; omega, by rw [P.lss]⟩
theorem KeyPure.odd (P : KeyPure a b L rb rA ss es) : tPar a < 100000 ∧ tPar a % 2 = 1 ∧ 0 < tPar a := by
  obtain ⟨t1, t2⟩ := tPar_facts a
  obtain ⟨r1, r2, -, -⟩ := made_isR a b
  have := odd_of r2
  exact ⟨t1, this, by omega⟩
theorem spr_len {n t Q : Nat} {ms : List Nat} (h : Fit n t ms) : (sprZ Q t ms).length = n := by unfold sprZ; rw [List.length_map]; exact h.1

theorem hide_made {vM tx : Value} {ms : List Nat} {Bx : Option Nat} {ds ds' : List Nat} {us xs ys : List Int} {g : Hp} (P : KeyPure a b L rb rA ss es) (K : KeyMade a b L vq vB vA u rb rA ss g) (sm : SlF g U vM ms) (hm : Fit (2 ^ L) (tPar a) ms) (T : TapeAt g tx Bx ds false) (N5 : Beside vq vM vB vA tx rb rA) (D : DrawsH (2 ^ L) (1 + b / 16 % 16) ds us xs ys ds') :
    CallsH Tryz.prog 20 [.agg #[N (2 ^ L), U (tPar a), vq, N (1 + b / 16 % 16)], .agg #[vB, vA], vM, tx] g fun v' h' => Only (pblk tx) g h' ∧ ∃ vc c0 c1, v' = .tuple #[.agg #[vc], N 0] ∧ SwAt h' g.size vc [c0, c1] ∧ TapeAt h' tx Bx ds' false ∧
      CipR (2 ^ L) (qPar a b) (rb.map (·.2)) (rA.map (·.2)) us xs ys (sprZ (prodL (qPar a b) / tPar a) (tPar a) ms) (c0.2.map (·.2)) (c1.2.map (·.2)) := by
  obtain ⟨d1, d2, g1, g2, g3⟩ := D.dr
  obtain ⟨-, -, h3, h5⟩ := P.two
  exact hideC_spec L (tPar a) (1 + b / 16 % 16) vq vB vA vM tx ms (qPar a b) rb rA Bx ds d1 d2 ds' us xs ys g K.tb K.par (P.par vq) h3 (by omega) P.qok sm hm K.pb K.pa P.lb P.la P.fb P.fa T N5.g N5.q N5.m N5.b N5.a N5.rb N5.ra g1 g2 g3
theorem tell_made {vc : Value} {c0 c1 : Value × List (Value × List Nat)} {ms : List Nat} {B : Nat} {ds ds' : List Nat} {us xs ys : List Int} {g : Hp} (P : KeyPure a b L rb rA ss es) (K : KeyMade a b L vq vB vA u rb rA ss g) (S : SwAt g B vc [c0, c1]) (hm : Fit (2 ^ L) (tPar a) ms) (D : DrawsH (2 ^ L) (1 + b / 16 % 16) ds us xs ys ds')
    (CR : CipR (2 ^ L) (qPar a b) (rb.map (·.2)) (rA.map (·.2)) us xs ys (sprZ (prodL (qPar a b) / tPar a) (tPar a) ms) (c0.2.map (·.2)) (c1.2.map (·.2))) :
    CallsH Tryz.prog 21 [.agg #[N (2 ^ L), U (tPar a), vq, N (1 + b / 16 % 16)], u, .agg #[vc]] g fun v' h' => Ext g h' ∧ ∃ vo, v' = .tuple #[vo, N 0] ∧ OwnF h' g.size 26 U vo ms := by
  obtain ⟨⟨lU, bU⟩, ⟨lX, bX⟩, lY, bY⟩ := D.lens
  obtain ⟨h8, h32, h3, h5⟩ := P.two
  obtain ⟨C, hbig⟩ := made_cop a b
  obtain ⟨t1, todd, -⟩ := P.odd
  have n1 := noise_small P.lss P.les lU lX lY P.hss bU P.bes bX bY h32 (by omega)
  obtain ⟨e1, z1⟩ := held_tell (n := 2 ^ L) (ss := ss) (es := es) (us := us) (xs := xs) (ys := ys) (w := 0) hm.1 hm.2 t1 todd hbig n1
  have TL := tellC_spec L (tPar a) (1 + b / 16 % 16) vq u vc (qPar a b) ss c0 c1 _ g K.tb K.par (P.par vq) h3 (by omega) P.qok K.sec P.sec S.sla (cip_hp S (q_pos a b) lX lY (spr_len hm) P.lrb P.lra CR) C (fun R RO hRL hRq x HR => hold_res RO hRL hRq P.lss P.les lU lX lY (spr_len hm) P.lrb P.lra P.fra P.hb CR HR) z1 (by unfold heldZ; rw [List.length_map, List.length_range])
  rw [e1] at TL
  exact TL
theorem q_len (a b : Nat) : 0 < (qPar a b).length ∧ (qPar a b).length ≤ 5 := by
  obtain ⟨q1, -, -, -⟩ := qPar_facts a b
  unfold pC at q1
  omega
theorem same_made {vc vd : Value} {c0 c1 d0 d1 : Value × List (Value × List Nat)} {ms : List Nat} {B B2 : Nat} {ds ds' : List Nat} {us xs ys : List Int} {g : Hp} (P : KeyPure a b L rb rA ss es) (S : SwAt g B vc [c0, c1]) (S2 : SwAt g B2 vd [d0, d1]) (hm : Fit (2 ^ L) (tPar a) ms) (D : DrawsH (2 ^ L) (1 + b / 16 % 16) ds us xs ys ds')
    (CR : CipR (2 ^ L) (qPar a b) (rb.map (·.2)) (rA.map (·.2)) us xs ys (sprZ (prodL (qPar a b) / tPar a) (tPar a) ms) (c0.2.map (·.2)) (c1.2.map (·.2)))
    (CR2 : CipR (2 ^ L) (qPar a b) (rb.map (·.2)) (rA.map (·.2)) us xs ys (sprZ (prodL (qPar a b) / tPar a) (tPar a) ms) (d0.2.map (·.2)) (d1.2.map (·.2))) :
    CallsH Tryz.prog 22 [.agg #[vc], .agg #[vd]] g fun v' h' => v' = .bool true ∧ Ext g h' := by
  obtain ⟨⟨lU, bU⟩, ⟨lX, bX⟩, lY, bY⟩ := D.lens
  obtain ⟨h8, h32, h3, h5⟩ := P.two
  obtain ⟨l0, l5⟩ := q_len a b
  have HP1 := cip_hp S (q_pos a b) lX lY (spr_len hm) P.lrb P.lra CR
  have HP2 := cip_hp S2 (q_pos a b) lX lY (spr_len hm) P.lrb P.lra CR2
  obtain ⟨u0, u1⟩ := cip_one (q_pos a b) P.lrb P.lra CR CR2
  exact same12_spec vc vd [c0, c1] [d0, d1] g S.sla S2.sla rfl (show 2 < 1000 by decide) (fun x hx => by
    obtain ⟨g1, g2, g3⟩ := HP1 x hx
    refine ⟨g1, by omega, fun l hl => ?_⟩
    obtain ⟨i, hi⟩ := List.getElem?_of_mem hl
    obtain ⟨q, hqi⟩ := get_lt (l := qPar a b) (j := i) (by have := (List.getElem?_eq_some_iff.1 hi).1; omega)
    have := (g3 i q l hi hqi).1
    omega) (fun x hx => (HP2 x hx).1) (fun i x y hx hy => by
    match i, hx, hy with
    | 0, hx, hy => cases hx; cases hy; exact u0
    | 1, hx, hy => cases hx; cases hy; exact u1)
end made
/-- The text that is hidden: what is given modulo t, and then nothing. -/
def txt (t : Nat) (text : List Nat) (i : Nat) : Nat := if i < text.length then text.getD i 0 % t else 0
def txtL (n t : Nat) (text : List Nat) : List Nat := (List.range n).map (txt t text)
theorem txtL_get {n t : Nat} {text : List Nat} {i : Nat} (hi : i < n) : (txtL n t text)[i]? = some (txt t text i) := by
  unfold txtL; rw [List.getElem?_map, List.getElem?_range hi]; rfl
theorem txtL_fit {n t : Nat} {text : List Nat} (ht : 0 < t) : Fit n t (txtL n t text) := ⟨by unfold txtL; rw [List.length_map, List.length_range], fun x hx => by
  unfold txtL at hx
  obtain ⟨i, -, rfl⟩ := List.mem_map.1 hx
  unfold txt
  split
  · exact Nat.mod_lt _ ht
  · exact ht⟩

end Go.Proofs.YtfcmdefigldpnaaGreatDoor

