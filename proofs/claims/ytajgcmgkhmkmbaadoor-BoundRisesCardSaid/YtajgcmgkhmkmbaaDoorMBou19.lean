/- Texts CrtB to DenM of this work, joined: each says in its own head what it proves, and of which condition. -/
import Derived.Test.YtajgcmgkhmkmbaaDoorMBou18
import Derived.ChangeKeysEq
import Derived.Laws.StructEq
/- Package crt: a number out of two residues (what the fixed call asks). Condition of what tests primes: the table of math/bits reads as it is laid. -/
namespace Go.Proofs.YtajgcmgkhmkmbaaDoor
set_option linter.unusedVariables false
set_option maxRecDepth 8000
open Go Go.Den Go.RowKit Go.Dig

theorem fin0 {P : Program} {n : Nat} {fn : Func} {R : Value → Hp → Prop} {l : Fr} {h : Hp} (hr : fn.results = #[]) (k : R (.tuple #[]) h) : At (Den.Fin P n fn R) .normal l h :=
  ⟨⟨.tuple #[], fun a w hf _ => by simp [results, hr], k⟩⟩

def timesN (V P r q back : Nat) : Nat := mulm (subm r (V % q) q) back q

theorem Tryd_ent80 : Ent Tryd.prog 80 := ent_of Tryd.func80 (by kernel_rfl) rfl
set_option maxHeartbeats 1000000 in
theorem gadd_spec (g vV vP : Value) (xsV xsP : List Nat) (r q : Nat) (h : Hp) (G : Var h g 104 [vV, vP]) (sV : SlF h U vV xsV) (sP : SlF h U vP xsP) (aV : Al 18446744073709551616 xsV) (aP : Al 18446744073709551616 xsP) (lV : xsV.length < 1000000) (lP : xsP.length < 1000000)
    (hPg : vP.ownBlock = none ∨ vP.ownBlock ≠ pblk g) (hr : r < 18446744073709551616) (hq0 : 0 < q) (hq : q < 18446744073709551616) :
    CallsH Tryd.prog 80 [g, U r, U q] h fun v' h' => Only (pblk g) h h' ∧ ∃ back ok vV' vP', InvIs (vl 18446744073709551616 xsP % q) q back ok ∧ Var h' g 104 [vV', vP'] ∧
      OwnF h' h.size 31 U vV' (dg 18446744073709551616 (vl 18446744073709551616 xsV + vl 18446744073709551616 xsP * timesN (vl 18446744073709551616 xsV) (vl 18446744073709551616 xsP) r q back)) ∧ OwnF h' h.size 31 U vP' (dg 18446744073709551616 (vl 18446744073709551616 xsP * q)) := by
  have hqn : ¬ q = 0 := by omega
  obtain ⟨gb, hgb, hgl⟩ := G.blk
  (apply enter Tryd.func80 rfl Tryd.ntmps80 rfl)
  refine runJ ?_
  apply (s_call Tryd_ent44 rfl rfl rfl)
  refine (mod_spec vV xsV q h sV aV (by omega) hq).mono ?_
  rintro _ h1 ⟨rfl, e1⟩
  refine ⟨(by first | exact trivial | exact trivial), ?_⟩
  have G1 := G.ext e1
  refine runJ ?_
  apply (s_call Tryd_ent44 rfl rfl rfl)
  refine (mod_spec vP xsP q h1 (sP.ext e1) aP (by omega) hq).mono ?_
  rintro _ h2 ⟨rfl, e2⟩
  refine ⟨(by first | exact trivial | exact trivial), ?_⟩
  simp only [hqn, if_false]
  have G2 := G1.ext e2
  have e12 := e1.trans e2
  generalize hV : vl 18446744073709551616 xsV = V at *
  generalize hP : vl 18446744073709551616 xsP = P at *
  have hVq : V % q < q := Nat.mod_lt _ hq0
  have hPq : P % q < q := Nat.mod_lt _ hq0
  refine runJ ?_
  apply (s_call Tryd_ent89 rfl rfl rfl)
  refine (inv_spec _ q h2 (by omega) hq).mono ?_
  rintro _ _ ⟨⟨back, ok, rfl, hI⟩, rfl⟩
  refine ⟨(by first | exact trivial | exact trivial), ?_⟩
  have hb : back < 18446744073709551616 := by
    cases ok with
    | true => have := (hI.1 rfl).2.2.1; omega
    | false => have := (hI.2 rfl).2; omega
  have hs1 : subm r (V % q) q < q := subm_lt hq0
  have ht1 : timesN V P r q back < q := mulm_lt hq0
  have htd : timesN V P r q back = mulm (subm r (V % q) q) back q := rfl
  refine runJ ?_
  apply (s_call Tryd_ent68 rfl rfl rfl)
  refine (sub_spec r _ q h2 hr (by omega) hq).mono ?_
  rintro _ _ ⟨rfl, rfl⟩
  refine ⟨(by first | exact trivial | exact Ext.refl _ | assumption | exact Ext.trans (by assumption) (by assumption)), ?_⟩
  refine runJ ?_
  apply (s_call Tryd_ent90 rfl rfl rfl)
  refine (mul_spec _ back q h2 (by omega) hb hq).mono ?_
  rintro _ _ ⟨rfl, rfl⟩
  refine ⟨(by first | exact trivial | exact Ext.refl _ | assumption | exact Ext.trans (by assumption) (by assumption)), ?_⟩
  rw [← htd]
  generalize htm : timesN V P r q back = times at *
  have hdl : (dg 18446744073709551616 times).length ≤ 1 := dg_len (by decide) (by omega)
  have hdl2 : (dg 18446744073709551616 q).length ≤ 1 := dg_len (by decide) (by omega)
  have b64 : (1 : Nat) < 18446744073709551616 := by decide
  have b640 : (0 : Nat) < 18446744073709551616 := by decide
  have sV2 := sV.ext e12
  have sP2 := sP.ext e12
  refine runJN ?_
  (apply (r_drawnT 15 (Ext h2)); exact rfl; exact mixed; kernel_rfl; exact rfl; first | exact Ext.refl _ | exact Only.refl _ _)
  refine runJ ?_
  apply (s_call Tryd_ent43 rfl rfl rfl)
  refine (of_spec times h2 (by omega)).mono ?_
  rintro w1 h3 ⟨e3, o3⟩
  refine ⟨(by first | exact trivial | exact e3), ?_⟩
  refine runJ ?_
  apply (s_call Tryd_ent65 rfl rfl rfl)
  refine (nmul_spec vP w1 xsP _ h3 (sP2.ext e3) o3.sl aP (al_dg b640 _) (by omega) (by omega)).mono ?_
  rintro w2 h4 ⟨e4, o4⟩
  refine ⟨(by first | exact trivial | exact (e3.trans e4)), ?_⟩
  rw [vl_dg b64, hP] at o4
  have e34 := e3.trans e4
  have hlw : (dg 18446744073709551616 (P * times)).length < 1099511627776 := by
    have h1 := dg_len (b := 18446744073709551616) (n := P * times) (k := xsP.length + 1) (by decide) (by
      rw [Nat.pow_succ]
      have h2 := vl_lt aP
      rw [hP] at h2
      exact Nat.mul_lt_mul_of_lt_of_lt h2 (by omega))
    omega
  refine runJ ?_
  apply (s_call Tryd_ent58 rfl rfl rfl)
  refine (nadd_spec vV w2 xsV _ h4 (sV2.ext e34) o4.sl aV (al_dg b640 _) (by omega) hlw).mono ?_
  rintro vV' h5 ⟨e5, o5⟩
  refine ⟨(by first | exact trivial | exact (e34.trans e5)), ?_⟩
  rw [vl_dg b64, hV] at o5
  have e25 := e34.trans e5
  have G5 := G2.ext e25
  refine runJ ?_
  apply tail_end
  refine runJ ?_
  (apply s_storeC; exact rfl; exact rfl; (first | exact rfl | exact SlF.one (by assumption) | exact SlF.one (OwnF.sl (by assumption)) | exact Var.one (by assumption)); exact rfl; exact rfl; exact G5; exact rfl)
  intro h6 G6 k6
  refine ⟨(by first | exact trivial | exact Ext.refl _ | assumption | exact Ext.only (by assumption) _ | exact Only.trans (Ext.only (by assumption) _) (by assumption)), ?_⟩
  have G6 : Var h6 g 104 [vV', vP] := G6
  have hne5 : vV'.ownBlock = none ∨ vV'.ownBlock ≠ pblk g := o5.neV hgb (Nat.lt_of_lt_of_le hgl (Nat.le_trans (Nat.le_trans e12.1 e3.1) e4.1))
  have o6 := o5.only k6 hne5
  have K6 : Only (pblk g) h h6 := ((e12.trans e25).only _).trans k6
  have sP5 := sP2.ext e25
  have hsp : vP.ownBlock = none ∨ vP.ownBlock ≠ pblk g := hPg
  have sP6 := sP5.only k6 hsp
  refine runJN ?_
  (apply (r_drawnT 10 (Ext h6)); exact rfl; exact mixed; kernel_rfl; exact rfl; first | exact Ext.refl _ | exact Only.refl _ _)
  refine runJ ?_
  apply (s_call Tryd_ent43 rfl rfl rfl)
  refine (of_spec q h6 hq).mono ?_
  rintro w3 h7 ⟨e7, o7⟩
  refine ⟨(by first | exact trivial | exact e7), ?_⟩
  refine runJ ?_
  apply (s_call Tryd_ent65 rfl rfl rfl)
  refine (nmul_spec vP w3 xsP _ h7 (sP6.ext e7) o7.sl aP (al_dg b640 _) (by omega) (by omega)).mono ?_
  rintro vP' h8 ⟨e8, o8⟩
  refine ⟨(by first | exact trivial | exact (e7.trans e8)), ?_⟩
  rw [vl_dg b64, hP] at o8
  have e68 := e7.trans e8
  have G8 := G6.ext e68
  refine runJ ?_
  apply tail_end
  refine runJ ?_
  (apply s_storeC; exact rfl; exact rfl; (first | exact rfl | exact SlF.one (by assumption) | exact SlF.one (OwnF.sl (by assumption)) | exact Var.one (by assumption)); exact rfl; exact rfl; exact G8; exact rfl)
  intro h9 G9 k9
  refine ⟨(by first | exact trivial | exact Ext.refl _ | assumption | exact Ext.only (by assumption) _ | exact Only.trans (Ext.only (by assumption) _) (by assumption)), ?_⟩
  have G9 : Var h9 g 104 [vV', vP'] := G9
  have hle6 : h.size ≤ h6.size := K6.1
  have hne8 : vP'.ownBlock = none ∨ vP'.ownBlock ≠ pblk g := o8.neV hgb (Nat.lt_of_lt_of_le hgl (Nat.le_trans hle6 e7.1))
  have o9 := o8.only k9 hne8
  have o6' := (o6.ext e68).only k9 hne5
  have K9 : Only (pblk g) h h9 := (K6.trans (e68.only _)).trans k9
  refine runJ ?_
  exact fin0 rfl ⟨K9, back, ok, vV', vP', hI, G9, by rw [htm]; exact o6'.base (Nat.le_trans e12.1 (Nat.le_trans e3.1 e4.1)), o9.base (Nat.le_trans hle6 e7.1)⟩

theorem Tryd_ent81 : Ent Tryd.prog 81 := ent_of Tryd.func81 (by kernel_rfl) rfl
theorem centered_spec (g vV vP : Value) (V P : Nat) (h : Hp) (G : Var h g 104 [vV, vP]) (sV : SlF h U vV (dg 18446744073709551616 V)) (sP : SlF h U vP (dg 18446744073709551616 P)) (hle : V ≤ P) (hc : ¬ P - V < V) (lP : (dg 18446744073709551616 P).length < 1000000) (lV : (dg 18446744073709551616 V).length < 1000000) :
    CallsH Tryd.prog 81 [g] h fun v' h' => Ext h h' ∧ v' = .agg #[.bool false, vV] := by
  have b64 : (1 : Nat) < 18446744073709551616 := by decide
  have b640 : (0 : Nat) < 18446744073709551616 := by decide
  (apply enter Tryd.func81 rfl Tryd.ntmps81 rfl)
  refine runJ ?_
  (apply s_alloc; exact rfl; exact rfl; exact rfl)
  intro p h1 x1 e1 b1
  (try dsimp only [Value.cells, List.toList_toArray] at x1)
  refine ⟨(by first | exact trivial | exact Ext.refl _ | assumption | exact Ext.trans (by assumption) (by assumption)), ?_⟩
  have G1 := G.ext e1
  have sV1 := sV.ext e1
  have sP1 := sP.ext e1
  have F := nsub_spec vP vV _ _ h1 sP1 sV1 (al_dg b640 P) (al_dg b640 V) (by omega) (by omega)
  rw [vl_dg b64, vl_dg b64] at F
  refine runJ ?_
  apply (s_call Tryd_ent91 rfl rfl rfl)
  refine (F).mono ?_
  rintro r h2 ⟨e2, -, hr⟩
  refine ⟨(by first | exact trivial | exact e2), ?_⟩
  obtain ⟨d, rfl, od⟩ := hr hle
  have e12 := e1.trans e2
  have G2 := G1.ext e2
  have x2 := x1.ext e2
  have hdl : (dg 18446744073709551616 (P - V)).length < 4611686018427387904 := by
    have := dg_len (b := 18446744073709551616) (n := P - V) (k := (dg 18446744073709551616 P).length) b64 (Nat.lt_of_le_of_lt (Nat.sub_le _ _) (dg_lt b64 P))
    omega
  have C := cmp_spec d vV _ _ h2 od.sl (sV1.ext e2) (al_dg b640 (P - V)) (al_dg b640 V) hdl (by omega)
  rw [vl_dg b64, vl_dg b64] at C
  have hcn : ¬ cmpI (P - V) V < 0 := by unfold cmpI; rw [if_neg hc]; split <;> decide
  refine runJ ?_
  apply (s_call Tryd_ent63 rfl rfl rfl)
  refine (C).mono ?_
  rintro _ _ ⟨rfl, rfl⟩
  refine ⟨(by first | exact trivial | exact trivial), ?_⟩
  refine runJ ?_
  (apply w_condF; exact rfl; exact rfl; exact hcn)
  refine runJ ?_
  have v1 : vV.oneCell' = true := sV.one
  (apply (s_build ([.bool false, vV])); exact rfl; exact rfl; exact rfl; (repeat (first | exact CellsAll.nil | (apply CellsAll.cons; (first | exact oneL (by assumption) | exact oneL (SlF.one (by assumption)) | exact oneL (SlF.one (OwnF.sl (by assumption))) | exact oneL (Var.one (by assumption)) | exact rfl)))); exact rfl; exact rfl)
  refine runJ ?_
  apply s_storeV (us := [.bool false, vV]) rfl rfl rfl (OneAll.cons rfl (OneAll.cons v1 OneAll.nil)) rfl rfl x2 rfl
  intro h3 x3 k3
  refine ⟨trivial, ?_⟩
  have e3 := k3.oldV e12 b1 (Nat.le_refl _)
  refine runJ ?_
  exact finC rfl rfl x3 rfl rfl ⟨e3, rfl⟩

theorem inv15 {back : Nat} {ok : Bool} (h : InvIs (1 % 5) 5 back ok) : back = 1 := by
  cases ok with
  | false => rcases (h.2 rfl).1 with h | h
             · omega
             · exact absurd (by decide) h
  | true => have := (h.1 rfl).2.2; omega
theorem inv57 {back : Nat} {ok : Bool} (h : InvIs (5 % 7) 7 back ok) : back = 3 := by
  cases ok with
  | false => rcases (h.2 rfl).1 with h | h
             · omega
             · exact absurd (by decide) h
  | true => have := (h.1 rfl).2.2; omega

def stV : Nat → Nat
  | 0 => 0
  | 1 => 2
  | _ => 17
def stP : Nat → Nat
  | 0 => 1
  | 1 => 5
  | _ => 35

theorem Tryd_ent64 : Ent Tryd.prog 64 := ent_of Tryd.func64 (by kernel_rfl) rfl
set_option maxHeartbeats 1000000 in
theorem whole57_spec (vr vw : Value) (h : Hp) (sr : SlF h U vr [2, 3]) (sw : SlF h U vw [5, 7]) :
    CallsH Tryd.prog 64 [vr, vw] h fun v' h' => Ext h h' ∧ ∃ a, v' = .agg #[.bool false, a] ∧ SlF h' U a (dg 18446744073709551616 17) ∧ ∀ k, a.ownBlock = some k → h.size ≤ k := by
  (apply enter Tryd.func64 rfl Tryd.ntmps64 rfl)
  refine runJ ?_
  (apply s_alloc; exact rfl; exact rfl; exact rfl)
  intro p h1 x1 e1 b1
  (try dsimp only [Value.cells, List.toList_toArray] at x1)
  refine ⟨(by first | exact trivial | exact Ext.refl _ | assumption | exact Ext.trans (by assumption) (by assumption)), ?_⟩
  refine runJ ?_
  (apply (s_litF (f := U) [1] (fun _ => rfl)); exact rfl; exact rfl; exact rfl; exact rfl; exact rfl; exact rfl; exact rfl; exact rfl; omega)
  intro w h2 o2 e2 b2
  refine ⟨(by first | exact trivial | exact Ext.refl _ | assumption | exact Ext.trans (by assumption) (by assumption)), ?_⟩
  refine runJ ?_
  (apply (s_build ([.slice none 0 0, w])); exact rfl; exact rfl; exact rfl; (repeat (first | exact CellsAll.nil | (apply CellsAll.cons; (first | exact oneL (by assumption) | exact oneL (SlF.one (by assumption)) | exact oneL (SlF.one (OwnF.sl (by assumption))) | exact oneL (Var.one (by assumption)) | exact rfl)))); exact rfl; exact rfl)
  refine runJ ?_
  (apply s_box; exact rfl; exact rfl; exact rfl; exact rfl)
  intro g h3 g3 e3 b3
  (try dsimp only [Value.cells, List.toList_toArray] at g3)
  refine ⟨(by first | exact trivial | exact Ext.refl _ | assumption | exact Ext.trans (by assumption) (by assumption)), ?_⟩
  have e13 := (e1.trans e2).trans e3
  have x3 := (x1.ext e2).ext e3
  refine runJ ?_
  (first | (apply w_seqB; exact rfl; apply w_block; exact rfl) | skip)
  apply (w_loop (σ := Nat × Value × Value) rfl (fun j => [(0, vr), (4, p), (5, g), (6, .func (.func 80) #[] #[]), (12, vw), (13, N 2), (14, N j.1)])
    (fun j h' => j.1 ≤ 2 ∧ Only (pblk g) h3 h' ∧ Var h' g 104 [j.2.1, j.2.2] ∧ SlF h' U j.2.1 (dg 18446744073709551616 (stV j.1)) ∧ SlF h' U j.2.2 (dg 18446744073709551616 (stP j.1)) ∧ (j.2.2.ownBlock = none ∨ j.2.2.ownBlock ≠ pblk g) ∧ (j.2.1.ownBlock = none ∨ j.2.1.ownBlock ≠ pblk p) ∧ ∀ k, j.2.1.ownBlock = some k → h.size ≤ k) (fun j => 2 - j.1) (0, .slice none 0 0, w))
  · exact (Sub.cons rfl (Sub.cons rfl (Sub.cons rfl (Sub.cons rfl (Sub.cons rfl (Sub.cons rfl (Sub.cons rfl (Sub.nil _))))))))
  · refine ⟨Nat.zero_le _, Only.refl _ _, g3, SlF.nil _ _, o2.sl.ext e3, .inr ?_, .inl rfl, fun k hk => by simp [Value.ownBlock] at hk⟩
    rw [b2, b3]
    intro e
    have := Option.some.inj e
    have h1 := o2.blk _ b2
    omega
  rintro ⟨j, vV, vP⟩ h4 ⟨j1, k4, g4, s4, t4, n4, n5, n6⟩
  dsimp only at j1 k4 g4 s4 t4 n4 n5 n6 ⊢
  have e4 : Ext h h4 := k4.oldV e13 b3 (Nat.le_trans e1.1 e2.1)
  have sr4 := sr.ext e4
  have sw4 := sw.ext e4
  have x4 : Var h4 p 25 _ := x3.only k4 (by
    rw [b1, b3]
    intro e
    have h1 := Option.some.inj e
    have h2 := e2.1
    obtain ⟨q, hq, hl⟩ := x1.blk
    rw [b1] at hq
    have h3 := Option.some.inj hq
    omega)
  refine runJ ?_
  (apply w_condD; exact rfl; exact rfl) <;> intro hj
  · have b64 : (1 : Nat) < 18446744073709551616 := by decide
    have b640 : (0 : Nat) < 18446744073709551616 := by decide
    have hpl : h.size < h4.size := by
      obtain ⟨q, hq, hl⟩ := x4.blk
      rw [b1] at hq
      have h3 := Option.some.inj hq
      omega
    rcases (show j = 0 ∨ j = 1 by omega) with rfl | rfl
    · have A := gadd_spec g vV vP _ _ 2 5 h4 g4 s4 t4 (al_dg b640 _) (al_dg b640 _) (by decide) (by decide) n4 (by decide) (by decide) (by decide)
      rw [vl_dg b64, vl_dg b64] at A
      have hr : [2, 3][0]? = some 2 := rfl
      have hq : [5, 7][0]? = some 5 := rfl
      refine runJ ?_
      refine s_callV rfl Tryd_ent80 rfl rfl rfl ?_
      refine (A).mono ?_
      rintro _ h5 ⟨k5, back, ok, vV', vP', hI, g5, o5, p5⟩
      refine ⟨(by first | exact trivial | exact trivial), ?_⟩
      obtain rfl : back = 1 := inv15 hI
      obtain ⟨gb, hgb, hgl⟩ := g4.blk
      refine runJ ?_
      apply again_normal (1, vV', vP')
      · exact (Sub.cons rfl (Sub.cons rfl (Sub.cons rfl (Sub.cons rfl (Sub.cons rfl (Sub.cons rfl (Sub.cons rfl (Sub.nil _))))))))
      · exact ⟨by dsimp only; omega, k4.trans k5, g5, o5.sl, p5.sl, p5.neV hgb hgl, o5.neV b1 hpl, fun k hk => by have := (o5.blk k hk).1; omega⟩
      · dsimp only; omega
    · have A := gadd_spec g vV vP _ _ 3 7 h4 g4 s4 t4 (al_dg b640 _) (al_dg b640 _) (by decide) (by decide) n4 (by decide) (by decide) (by decide)
      rw [vl_dg b64, vl_dg b64] at A
      have hr : [2, 3][1]? = some 3 := rfl
      have hq : [5, 7][1]? = some 7 := rfl
      refine runJ ?_
      refine s_callV rfl Tryd_ent80 rfl rfl rfl ?_
      refine (A).mono ?_
      rintro _ h5 ⟨k5, back, ok, vV', vP', hI, g5, o5, p5⟩
      refine ⟨(by first | exact trivial | exact trivial), ?_⟩
      obtain rfl : back = 3 := inv57 hI
      obtain ⟨gb, hgb, hgl⟩ := g4.blk
      refine runJ ?_
      apply again_normal (2, vV', vP')
      · exact (Sub.cons rfl (Sub.cons rfl (Sub.cons rfl (Sub.cons rfl (Sub.cons rfl (Sub.cons rfl (Sub.cons rfl (Sub.nil _))))))))
      · exact ⟨by dsimp only; omega, k4.trans k5, g5, o5.sl, p5.sl, p5.neV hgb hgl, o5.neV b1 hpl, fun k hk => by have := (o5.blk k hk).1; omega⟩
      · dsimp only; omega
  · have : j = 2 := by omega
    subst this
    refine runJ ?_
    apply (s_call Tryd_ent81 rfl rfl rfl)
    refine (centered_spec g vV vP 17 35 h4 g4 s4 t4 (by decide) (by decide) (by decide) (by decide)).mono ?_
    rintro _ h5 ⟨e5, rfl⟩
    refine ⟨(by first | exact trivial | exact trivial), ?_⟩
    have x5 := x4.ext e5
    have v1 : vV.oneCell' = true := s4.one
    refine runJ ?_
    apply s_storeV (us := [.bool false, vV]) rfl rfl rfl (OneAll.cons rfl (OneAll.cons v1 OneAll.nil)) rfl rfl x5 rfl
    intro h6 x6 k6
    refine ⟨trivial, ?_⟩
    have e6 := k6.oldV (e4.trans e5) b1 (Nat.le_refl _)
    refine runJ ?_
    exact finC rfl rfl x6 rfl rfl ⟨e6, vV, rfl, (s4.ext e5).only k6 n5, n6⟩
end Go.Proofs.YtajgcmgkhmkmbaaDoor

/- Package crt: the fixed calls, and the law of sums and products. Condition: the table of math/bits reads as it is laid. -/
namespace Go.Proofs.YtajgcmgkhmkmbaaDoor
set_option linter.unusedVariables false
set_option maxRecDepth 8000
open Go Go.Den Go.RowKit Go.Dig

theorem right57 : rightP [5, 7] := by decide +kernel

theorem Tryd_ent34 : Ent Tryd.prog 34 := ent_of Tryd.func34 (by kernel_rfl) rfl
set_option maxHeartbeats 1000000 in
theorem wholeW_spec (vr vw : Value) (h : Hp) (T : TB h) (sr : SlF h U vr [2, 3]) (sw : SlF h U vw [5, 7]) :
    CallsH Tryd.prog 34 [vr, vw] h fun v' h' => Ext h h' ∧ ∃ a, v' = .tuple #[.agg #[.bool false, a], N 0] ∧ SlF h' U a (dg 18446744073709551616 17) := by
  (apply enter Tryd.func34 rfl Tryd.ntmps34 rfl)
  refine runJ ?_
  (apply s_alloc; exact rfl; exact rfl; exact rfl)
  intro p h1 x1 e1 b1
  (try dsimp only [Value.cells, List.toList_toArray] at x1)
  refine ⟨(by first | exact trivial | exact Ext.refl _ | assumption | exact Ext.trans (by assumption) (by assumption)), ?_⟩
  refine runJ ?_
  apply (s_call Tryd_ent38 rfl rfl rfl)
  refine (right_spec vw [5, 7] h1 (T.ext e1) (sw.ext e1) (by intro x hx; simp at hx; omega) (by decide)).mono ?_
  rintro _ h2 ⟨rfl, e2⟩
  refine ⟨(by first | exact trivial | exact trivial), ?_⟩
  rw [decide_eq_true right57]
  have e12 := e1.trans e2
  have x2 := x1.ext e2
  have sr2 := sr.ext e12
  have sw2 := sw.ext e12
  refine runJ ?_
  (first | (apply w_seqB; exact rfl; apply w_block; exact rfl) | skip)
  apply (w_loop (σ := Nat) rfl (fun j => [(0, vr), (1, vw), (4, p), (20, vr), (21, N 2), (22, N j)])
    (fun j h' => h2 = h' ∧ j ≤ 2) (fun j => 2 - j) 0)
  · exact (Sub.cons rfl (Sub.cons rfl (Sub.cons rfl (Sub.cons rfl (Sub.cons rfl (Sub.cons rfl (Sub.nil _)))))))
  · exact ⟨rfl, Nat.zero_le _⟩
  rintro j h3 ⟨rfl, j1⟩
  refine runJ ?_
  (apply w_condD; exact rfl; exact rfl) <;> intro hj
  · obtain ⟨r, hr⟩ := get_lt (l := [2, 3]) (j := j) hj
    obtain ⟨q, hq⟩ := get_lt (l := [5, 7]) (j := j) hj
    have hrq : ¬ q ≤ r := by
      rcases (show j = 0 ∨ j = 1 by omega) with rfl | rfl
      · cases hr; cases hq; decide
      · cases hr; cases hq; decide
    refine runJ ?_
    (apply w_condF; exact rfl; exact rfl; exact hrq)
    refine runJ ?_
    apply again_normal (j + 1)
    · exact (Sub.cons rfl (Sub.cons rfl (Sub.cons rfl (Sub.cons rfl (Sub.cons rfl (Sub.cons rfl (Sub.nil _)))))))
    · exact ⟨rfl, hj⟩
    · omega
  · refine runJ ?_
    apply (s_call Tryd_ent64 rfl rfl rfl)
    refine (whole57_spec vr vw h2 sr2 sw2).mono ?_
    rintro _ h3 ⟨e3, a, rfl, sa, na⟩
    refine ⟨(by first | exact trivial | exact trivial), ?_⟩
    have x3 := x2.ext e3
    have a1 : a.oneCell' = true := sa.one
    have hne : a.ownBlock = none ∨ a.ownBlock ≠ pblk p := ne_of_some fun k hk e => by
      have := na k hk
      rw [b1] at e
      have h3 := Option.some.inj e
      obtain ⟨q, hq, hl⟩ := x2.blk
      rw [b1] at hq
      have h4 := Option.some.inj hq
      omega
    refine runJ ?_
    apply s_storeV (us := [.bool false, a]) rfl rfl rfl (OneAll.cons rfl (OneAll.cons a1 OneAll.nil)) rfl rfl x3 rfl
    intro h4 x4 k4
    refine ⟨trivial, ?_⟩
    have e4 := k4.oldV (e12.trans e3) b1 (Nat.le_refl _)
    refine runJ ?_
    exact finCT rfl rfl rfl x4 rfl rfl ⟨e4, a, rfl, sa.only k4 hne⟩

theorem Tryd_ent36 : Ent Tryd.prog 36 := ent_of Tryd.func36 (by kernel_rfl) rfl
theorem sameU_spec (va vb : Value) (xs ys : List Nat) (h : Hp) (ha : SlF h U va xs) (hb : SlF h U vb ys) (hl : xs.length < 4611686018427387904) (hl2 : ys.length < 4611686018427387904) :
    CallsH Tryd.prog 36 [va, vb] h fun v' h' => v' = .bool (decide (xs = ys)) ∧ h = h' := by
  (apply enter Tryd.func36 rfl Tryd.ntmps36 rfl)
  refine runJ ?_
  (apply w_condD; exact rfl; exact rfl) <;> intro hne
  · refine runJ ?_
    exact fin1 rfl rfl ⟨dec_f (fun e => hne (by rw [e])), rfl⟩
  have hle : xs.length = ys.length := by omega
  refine runJ ?_
  (first | (apply w_seqB; exact rfl; apply w_block; exact rfl) | skip)
  apply (w_loop (σ := Nat) rfl (fun j => [(0, va), (1, vb), (12, N xs.length), (13, N j)])
    (fun j h' => h = h' ∧ j ≤ xs.length ∧ ∀ (i : Nat) (x y : Nat), i < j → xs[i]? = some x → ys[i]? = some y → x = y) (fun j => xs.length - j) 0)
  · exact (Sub.cons rfl (Sub.cons rfl (Sub.cons rfl (Sub.cons rfl (Sub.nil _)))))
  · exact ⟨rfl, Nat.zero_le _, fun i x y hi => by omega⟩
  rintro j h' ⟨rfl, j1, j2⟩
  refine runJ ?_
  (apply w_condD; exact rfl; exact rfl) <;> intro hj
  · obtain ⟨x, hx⟩ := get_lt hj
    obtain ⟨y, hy⟩ := get_lt (l := ys) (j := j) (by omega)
    refine runJ ?_
    (apply w_condD; exact rfl; exact rfl) <;> intro hd
    · refine runJ ?_
      exact fin1 rfl rfl ⟨dec_f (list_ne hx hy hd), rfl⟩
    · refine runJ ?_
      apply again_normal (j + 1)
      · exact (Sub.cons rfl (Sub.cons rfl (Sub.cons rfl (Sub.cons rfl (Sub.nil _)))))
      · refine ⟨rfl, hj, fun i x' y' hi hx' hy' => ?_⟩
        rcases Nat.lt_succ_iff_lt_or_eq.1 hi with hi | rfl
        · exact j2 i x' y' hi hx' hy'
        · rw [hx] at hx'; rw [hy] at hy'; cases hx'; cases hy'; exact Decidable.of_not_not hd
      · omega
  · refine runJ ?_
    exact fin1 rfl rfl ⟨dec_t (list_eq hle fun i x y hx hy => j2 i x y (by have := (List.getElem?_eq_some_iff.1 hx).1; omega) hx hy), rfl⟩

theorem Tryd_ent8 : Ent Tryd.prog 8 := ent_of Tryd.func8 (by kernel_rfl) rfl
set_option maxHeartbeats 1000000 in
theorem fixed_spec (h : Hp) (T : TB h) : CallsH Tryd.prog 8 [] h fun v' h' => v' = .bool true ∧ Ext h h' := by
  have al57 : Al 18446744073709551616 [5, 7] := by intro x hx; simp at hx; omega
  (apply enter Tryd.func8 rfl Tryd.ntmps8 rfl)
  refine runJ ?_
  (apply (s_litF (f := U) [2, 3] (fun _ => rfl)); exact rfl; exact rfl; exact rfl; exact rfl; exact rfl; exact rfl; exact rfl; exact rfl; omega)
  intro w1 h1 o1 e1 b1
  refine ⟨(by first | exact trivial | exact Ext.refl _ | assumption | exact Ext.trans (by assumption) (by assumption)), ?_⟩
  refine runJ ?_
  (apply (s_litF (f := U) [5, 7] (fun _ => rfl)); exact rfl; exact rfl; exact rfl; exact rfl; exact rfl; exact rfl; exact rfl; exact rfl; omega)
  intro w2 h2 o2 e2 b2
  refine ⟨(by first | exact trivial | exact Ext.refl _ | assumption | exact Ext.trans (by assumption) (by assumption)), ?_⟩
  have T2 := (T.ext e1).ext e2
  refine runJ ?_
  apply (s_call Tryd_ent34 rfl rfl rfl)
  refine (wholeW_spec w1 w2 h2 T2 (o1.sl.ext e2) o2.sl).mono ?_
  rintro _ h3 ⟨e3, a, rfl, sa⟩
  refine ⟨(by first | exact trivial | exact trivial), ?_⟩
  have a1 : a.oneCell' = true := sa.one
  have E3 := (e1.trans e2).trans e3
  refine runJ ?_
  (apply s_alloc; exact rfl; exact rfl; exact rfl)
  intro p h4 x4 e4 b4
  (try dsimp only [Value.cells, List.toList_toArray] at x4)
  refine ⟨(by first | exact trivial | exact Ext.refl _ | assumption | exact Ext.trans (by assumption) (by assumption)), ?_⟩
  refine runJ ?_
  apply s_storeV (us := [.bool false, a]) rfl rfl rfl (OneAll.cons rfl (OneAll.cons a1 OneAll.nil)) rfl rfl x4 rfl
  intro h5 x5 k5
  refine ⟨trivial, ?_⟩
  have e5 := k5.oldV e4 b4 (Nat.le_refl _)
  have sa5 := sa.ext e5
  have E5 := E3.trans e5
  refine runJ ?_
  (apply (s_litF (f := U) [1] (fun _ => rfl)); exact rfl; exact rfl; exact rfl; exact rfl; exact rfl; exact rfl; exact rfl; exact rfl; omega)
  intro w6 h6 o6 e6 b6
  refine ⟨(by first | exact trivial | exact Ext.refl _ | assumption | exact Ext.trans (by assumption) (by assumption)), ?_⟩
  refine runJ ?_
  (apply (s_build ([.bool true, w6])); exact rfl; exact rfl; exact rfl; (repeat (first | exact CellsAll.nil | (apply CellsAll.cons; (first | exact oneL (by assumption) | exact oneL (SlF.one (by assumption)) | exact oneL (SlF.one (OwnF.sl (by assumption))) | exact oneL (Var.one (by assumption)) | exact rfl)))); exact rfl; exact rfl)
  refine runJ ?_
  (apply (s_litF (f := U) [5, 7] (fun _ => rfl)); exact rfl; exact rfl; exact rfl; exact rfl; exact rfl; exact rfl; exact rfl; exact rfl; omega)
  intro w7 h7 o7 e7 b7
  refine ⟨(by first | exact trivial | exact Ext.refl _ | assumption | exact Ext.trans (by assumption) (by assumption)), ?_⟩
  have E7 := (E5.trans e6).trans e7
  have F := residues_spec true w6 w7 [1] [5, 7] h7 (T.ext E7) (o6.sl.ext e7) (by intro x hx; simp at hx; omega) (by decide) o7.sl al57 (by decide)
  simp only [right57, if_true] at F
  refine runJ ?_
  apply (s_call Tryd_ent9 rfl rfl rfl)
  refine (F).mono ?_
  rintro _ h8 ⟨e8, u, rfl, o8⟩
  refine ⟨(by first | exact trivial | exact trivial), ?_⟩
  have hu : [5, 7].map (liftm (IV true (vl 18446744073709551616 [1]))) = [4, 6] := by decide
  rw [hu] at o8
  have E8 := E7.trans e8
  have x8 := ((x5.ext e6).ext e7).ext e8
  have sa8 := ((sa5.ext e6).ext e7).ext e8
  refine runJ ?_
  (apply (s_litF (f := U) [17] (fun _ => rfl)); exact rfl; exact rfl; exact rfl; exact rfl; exact rfl; exact rfl; exact rfl; exact rfl; omega)
  intro w9 h9 o9 e9 b9
  refine ⟨(by first | exact trivial | exact Ext.refl _ | assumption | exact Ext.trans (by assumption) (by assumption)), ?_⟩
  have d17 : dg 18446744073709551616 17 = [17] := by decide
  have d35 : dg 18446744073709551616 35 = [35] := by decide
  refine runJ ?_
  (apply (s_build ([.bool false, w9])); exact rfl; exact rfl; exact rfl; (repeat (first | exact CellsAll.nil | (apply CellsAll.cons; (first | exact oneL (by assumption) | exact oneL (SlF.one (by assumption)) | exact oneL (SlF.one (OwnF.sl (by assumption))) | exact oneL (Var.one (by assumption)) | exact rfl)))); exact rfl; exact rfl)
  refine runJ ?_
  apply (s_call Tryd_ent35 rfl rfl rfl)
  refine (sameInt_spec _ _ 17 17 h9 ⟨a, rfl, sa8.ext e9⟩ ⟨w9, rfl, by rw [show ((17 : Int).natAbs) = 17 from rfl, d17]; exact o9.sl⟩ (by decide)).mono ?_
  rintro _ h10 ⟨rfl, e10⟩
  refine ⟨(by first | exact trivial | exact trivial), ?_⟩
  have o10 := (o8.sl.ext e9).ext e10
  refine runJ ?_
  (apply (s_litF (f := U) [4, 6] (fun _ => rfl)); exact rfl; exact rfl; exact rfl; exact rfl; exact rfl; exact rfl; exact rfl; exact rfl; omega)
  intro w11 h11 o11 e11 b11
  refine ⟨(by first | exact trivial | exact Ext.refl _ | assumption | exact Ext.trans (by assumption) (by assumption)), ?_⟩
  refine runJ ?_
  apply (s_call Tryd_ent36 rfl rfl rfl)
  refine (sameU_spec u w11 [4, 6] [4, 6] h11 (o10.ext e11) o11.sl (by decide) (by decide)).mono ?_
  rintro _ _ ⟨rfl, rfl⟩
  refine ⟨(by first | exact trivial | exact Ext.refl _ | assumption | exact Ext.trans (by assumption) (by assumption)), ?_⟩
  refine runJ ?_
  (apply (s_litF (f := U) [5, 7] (fun _ => rfl)); exact rfl; exact rfl; exact rfl; exact rfl; exact rfl; exact rfl; exact rfl; exact rfl; omega)
  intro w12 h12 o12 e12 b12
  refine ⟨(by first | exact trivial | exact Ext.refl _ | assumption | exact Ext.trans (by assumption) (by assumption)), ?_⟩
  have hp : (if [5, 7] = [] then [1] else dg 18446744073709551616 (prodL [5, 7])) = [35] := by decide
  have G := product_spec w12 [5, 7] h12 o12.sl al57 (by decide)
  rw [hp] at G
  refine runJ ?_
  apply (s_call Tryd_ent37 rfl rfl rfl)
  refine (G).mono ?_
  rintro w13 h13 ⟨e13, o13⟩
  refine ⟨(by first | exact trivial | exact trivial), ?_⟩
  refine runJ ?_
  (apply (s_litF (f := U) [35] (fun _ => rfl)); exact rfl; exact rfl; exact rfl; exact rfl; exact rfl; exact rfl; exact rfl; exact rfl; omega)
  intro w14 h14 o14 e14 b14
  refine ⟨(by first | exact trivial | exact Ext.refl _ | assumption | exact Ext.trans (by assumption) (by assumption)), ?_⟩
  refine runJ ?_
  apply (s_call Tryd_ent17 rfl rfl rfl)
  refine (same_spec w13 w14 [35] [35] h14 (o13.sl.ext e14) o14.sl (by decide)).mono ?_
  rintro _ _ ⟨rfl, rfl⟩
  refine ⟨(by first | exact trivial | exact Ext.refl _ | assumption | exact Ext.trans (by assumption) (by assumption)), ?_⟩
  have EE := (((((E8.trans e9).trans e10).trans e11).trans e12).trans e13).trans e14
  refine runJ ?_
  exact fin1 rfl rfl ⟨rfl, EE⟩

theorem lift_add (x y : Int) (q : Nat) : liftm (x + y) q = addm (liftm x q) (liftm y q) q := by
  unfold liftm addm
  split
  · rfl
  · rename_i h
    have hx := Int.emod_nonneg x (b := (q : Int)) (by omega)
    have hy := Int.emod_nonneg y (b := (q : Int)) (by omega)
    have e : ((x + y) % (q : Int)) = (((x % (q : Int)).toNat + (y % (q : Int)).toNat) % q : Nat) := by
      rw [Int.natCast_emod, Int.natCast_add, Int.toNat_of_nonneg hx, Int.toNat_of_nonneg hy, ← Int.add_emod]
    rw [e, Int.toNat_natCast]
theorem lift_mul (x y : Int) (q : Nat) : liftm (x * y) q = mulm (liftm x q) (liftm y q) q := by
  unfold liftm mulm
  split
  · rfl
  · rename_i h
    have hx := Int.emod_nonneg x (b := (q : Int)) (by omega)
    have hy := Int.emod_nonneg y (b := (q : Int)) (by omega)
    have e : ((x * y) % (q : Int)) = (((x % (q : Int)).toNat * (y % (q : Int)).toNat) % q : Nat) := by
      rw [Int.natCast_emod, Int.natCast_mul, Int.toNat_of_nonneg hx, Int.toNat_of_nonneg hy, ← Int.mul_emod]
    rw [e, Int.toNat_natCast]
theorem iv_of (z : Int) : IV (decide (z < 0)) z.natAbs = z := by
  unfold IV
  by_cases h : z < 0
  · simp [h]; omega
  · simp [h]; omega
theorem iv_natAbs (n : Bool) (X : Nat) : (IV n X).natAbs = X := (iv_abs n X).1
theorem lift_lt64 {z : Int} {q : Nat} (hq : q < 18446744073709551616) : liftm z q < 18446744073709551616 := by
  unfold liftm
  split
  · omega
  · have := Int.emod_lt_of_pos z (b := (q : Int)) (by omega)
    have := Int.emod_nonneg z (b := (q : Int)) (by omega)
    omega

theorem Tryd_ent3 : Ent Tryd.prog 3 := ent_of Tryd.func3 (by kernel_rfl) rfl
set_option maxHeartbeats 4000000 in
theorem crtGoes_law (n1 n2 : Bool) (va vb vr : Value) (xs ys row : List Nat) (h : Hp) (T : TB h) (sa : SlF h U va xs) (sb : SlF h U vb ys) (sr : SlF h U vr row) (ha : Al 18446744073709551616 xs) (hb : Al 18446744073709551616 ys) (hr : Al 18446744073709551616 row) :
    CallsH Tryd.prog 3 [.agg #[.bool n1, va], .agg #[.bool n2, vb], vr] h fun v' h' => v' = .bool true ∧ Ext h h' := by
  have b64 : (1 : Nat) < 18446744073709551616 := by decide
  have b640 : (0 : Nat) < 18446744073709551616 := by decide
  (apply enter Tryd.func3 rfl Tryd.ntmps3 rfl)
  refine runJ ?_
  (apply s_box; exact rfl; exact rfl; exact rfl; exact rfl)
  intro p1 h1 x1 e1 b1
  (try dsimp only [Value.cells, List.toList_toArray] at x1)
  refine ⟨(by first | exact trivial | exact Ext.refl _ | assumption | exact Ext.trans (by assumption) (by assumption)), ?_⟩
  refine runJ ?_
  (apply s_box; exact rfl; exact rfl; exact rfl; exact rfl)
  intro p2 h2 x2 e2 b2
  (try dsimp only [Value.cells, List.toList_toArray] at x2)
  refine ⟨(by first | exact trivial | exact Ext.refl _ | assumption | exact Ext.trans (by assumption) (by assumption)), ?_⟩
  have E2 := e1.trans e2
  have x12 := x1.ext e2
  refine runJ ?_
  apply (s_call Tryd_ent8 rfl rfl rfl)
  refine (fixed_spec h2 (T.ext E2)).mono ?_
  rintro _ h3 ⟨rfl, e3⟩
  refine ⟨(by first | exact trivial | exact trivial), ?_⟩
  have E3 := E2.trans e3
  have y1 := x12.ext e3
  have y2 := x2.ext e3
  have sa3 := sa.ext E3
  have sb3 := sb.ext E3
  have sr3 := sr.ext E3
  refine runJ ?_
  (apply s_splitG; exact rfl; exact rfl; exact rfl; exact rfl) <;> intro g1
  · refine runJ ?_
    exact fin1 rfl rfl ⟨rfl, E3⟩
  refine runJ ?_
  (apply s_splitG; exact rfl; exact rfl; exact rfl; exact rfl) <;> intro g2
  · refine runJ ?_
    exact fin1 rfl rfl ⟨rfl, E3⟩
  refine runJ ?_
  (apply w_condD; exact rfl; exact rfl) <;> intro g3
  · refine runJ ?_
    exact fin1 rfl rfl ⟨rfl, E3⟩
  generalize hX : vl 18446744073709551616 xs = X at *
  generalize hY : vl 18446744073709551616 ys = Y at *
  have hXl := vl_lt ha
  have hYl := vl_lt hb
  rw [hX] at hXl
  rw [hY] at hYl
  have F1 := residues_spec n1 va vr xs row h3 (T.ext E3) sa3 ha (by omega) sr3 hr (by omega)
  rw [hX] at F1
  refine runJ ?_
  apply (s_call Tryd_ent9 rfl rfl rfl)
  refine (F1).mono ?_
  rintro _ h4 ⟨e4, u1, rfl, o4⟩
  refine ⟨(by first | exact trivial | exact trivial), ?_⟩
  have E4 := E3.trans e4
  have y14 := y1.ext e4
  have y24 := y2.ext e4
  have F2 := residues_spec n2 vb vr ys row h4 (T.ext E4) (sb.ext E4) hb (by omega) (sr.ext E4) hr (by omega)
  rw [hY] at F2
  refine runJ ?_
  apply (s_call Tryd_ent9 rfl rfl rfl)
  refine (F2).mono ?_
  rintro _ h5 ⟨e5, u2, rfl, o5⟩
  refine ⟨(by first | exact trivial | exact trivial), ?_⟩
  have E5 := E4.trans e5
  have y15 := y14.ext e5
  have y25 := y24.ext e5
  have S5 := rsum_spec n1 n2 va vb xs ys h5 (sa.ext E5) (sb.ext E5) ha hb (by omega) (by omega)
  rw [hX, hY] at S5
  refine runJ ?_
  apply (s_call Tryd_ent10 rfl rfl rfl)
  refine (S5).mono ?_
  rintro _ h6 ⟨e6, a6, rfl, o6⟩
  refine ⟨(by first | exact trivial | exact trivial), ?_⟩
  have E6 := E5.trans e6
  have hpow : 18446744073709551616 ^ xs.length ≤ 18446744073709551616 ^ 20 := Nat.pow_le_pow_right (by decide) (by omega)
  have hpow2 : 18446744073709551616 ^ ys.length ≤ 18446744073709551616 ^ 20 := Nat.pow_le_pow_right (by decide) (by omega)
  have hz1 : (IV n1 X + IV n2 Y).natAbs ≤ X + Y := by
    have := Int.natAbs_add_le (IV n1 X) (IV n2 Y)
    rwa [iv_natAbs, iv_natAbs] at this
  have hz2 : (IV n1 X * IV n2 Y).natAbs = X * Y := by rw [Int.natAbs_mul, iv_natAbs, iv_natAbs]
  have hl1 : (dg 18446744073709551616 (IV n1 X + IV n2 Y).natAbs).length ≤ 21 := dg_len b64 (by
    rw [Nat.pow_succ]
    generalize 18446744073709551616 ^ 20 = W at *
    generalize 18446744073709551616 ^ xs.length = W1 at *
    generalize 18446744073709551616 ^ ys.length = W2 at *
    omega)
  have hl2 : (dg 18446744073709551616 (IV n1 X * IV n2 Y).natAbs).length ≤ 40 := dg_len b64 (by
    rw [hz2, show (40 : Nat) = 20 + 20 from rfl, Nat.pow_add]
    exact Nat.mul_lt_mul_of_lt_of_lt (Nat.lt_of_lt_of_le hXl hpow) (Nat.lt_of_lt_of_le hYl hpow2))
  have F3 := residues_spec (decide (IV n1 X + IV n2 Y < 0)) a6 vr _ row h6 (T.ext E6) o6.sl (al_dg b640 _) (by omega) (sr.ext E6) hr (by omega)
  rw [vl_dg b64, iv_of] at F3
  refine runJ ?_
  apply (s_call Tryd_ent9 rfl rfl rfl)
  refine (F3).mono ?_
  rintro _ h7 ⟨e7, u3, rfl, o7⟩
  refine ⟨(by first | exact trivial | exact trivial), ?_⟩
  have E7 := E6.trans e7
  have y17 := (y15.ext e6).ext e7
  have y27 := (y25.ext e6).ext e7
  have S7 := rtimes_spec n1 n2 va vb xs ys h7 (sa.ext E7) (sb.ext E7) ha hb (by omega) (by omega)
  rw [hX, hY] at S7
  refine runJ ?_
  apply (s_call Tryd_ent11 rfl rfl rfl)
  refine (S7).mono ?_
  rintro _ h8 ⟨e8, a8, rfl, o8⟩
  refine ⟨(by first | exact trivial | exact trivial), ?_⟩
  have E8 := E7.trans e8
  have F4 := residues_spec (decide (IV n1 X * IV n2 Y < 0)) a8 vr _ row h8 (T.ext E8) o8.sl (al_dg b640 _) (by omega) (sr.ext E8) hr (by omega)
  rw [vl_dg b64, iv_of] at F4
  refine runJ ?_
  apply (s_call Tryd_ent9 rfl rfl rfl)
  refine (F4).mono ?_
  rintro _ h9 ⟨e9, u4, rfl, o9⟩
  refine ⟨(by first | exact trivial | exact trivial), ?_⟩
  have E9 := E8.trans e9
  have q1 := ((((o4.sl.ext e5).ext e6).ext e7).ext e8).ext e9
  have q2 := (((o5.sl.ext e6).ext e7).ext e8).ext e9
  have q3 := (o7.sl.ext e8).ext e9
  have q4 := o9.sl
  have sr9 := sr.ext E9
  by_cases hR : rightP row
  · simp only [hR, if_true] at q1 q2 q3 q4 ⊢
    refine runJ ?_
    (apply s_splitG; exact rfl; exact rfl; exact rfl; exact rfl)
    · intro hn; exact absurd (by simp) hn
    intro _
    refine runJ ?_
    (apply s_splitG; exact rfl; exact rfl; exact rfl; exact rfl)
    · intro hn; exact absurd (by simp) hn
    intro _
    refine runJ ?_
    (apply s_splitG; exact rfl; exact rfl; exact rfl; exact rfl)
    · intro hn; exact absurd (by simp) hn
    intro _
    refine runJ ?_
    (apply w_condF; exact rfl; exact rfl; exact (by simp))
    refine runJ ?_
    (first | (apply w_seqB; exact rfl; apply w_block; exact rfl) | skip)
    apply (w_loop (σ := Nat) rfl (fun j => [(2, vr), (7, u1), (9, u2), (11, u3), (13, u4), (115, vr), (116, N row.length), (117, N j)])
      (fun j h' => h9 = h' ∧ j ≤ row.length) (fun j => row.length - j) 0)
    · exact (Sub.cons rfl (Sub.cons rfl (Sub.cons rfl (Sub.cons rfl (Sub.cons rfl (Sub.cons rfl (Sub.cons rfl (Sub.cons rfl (Sub.nil _)))))))))
    · exact ⟨rfl, Nat.zero_le _⟩
    rintro j h' ⟨rfl, j1⟩
    refine runJ ?_
    (apply w_condD; exact rfl; exact rfl) <;> intro hj
    · obtain ⟨q, hq⟩ := get_lt hj
      have hq64 := hr q (List.mem_of_getElem? hq)
      have i1 : (row.map (liftm (IV n1 X)))[j]? = some (liftm (IV n1 X) q) := by rw [List.getElem?_map, hq]; rfl
      have i2 : (row.map (liftm (IV n2 Y)))[j]? = some (liftm (IV n2 Y) q) := by rw [List.getElem?_map, hq]; rfl
      have i3 : (row.map (liftm (IV n1 X + IV n2 Y)))[j]? = some (liftm (IV n1 X + IV n2 Y) q) := by rw [List.getElem?_map, hq]; rfl
      have i4 : (row.map (liftm (IV n1 X * IV n2 Y)))[j]? = some (liftm (IV n1 X * IV n2 Y) q) := by rw [List.getElem?_map, hq]; rfl
      refine runJ ?_
      apply (s_call Tryd_ent12 rfl rfl rfl)
      refine (refAdd_spec (liftm (IV n1 X) q) (liftm (IV n2 Y) q) q h9 (lift_lt64 hq64) (lift_lt64 hq64) hq64).mono ?_
      rintro _ _ ⟨rfl, rfl⟩
      refine ⟨(by first | exact trivial | exact Ext.refl _), ?_⟩
      refine runJ ?_
      (apply s_splitG; exact rfl; exact rfl; exact rfl; exact rfl)
      · intro hn; exact absurd (lift_add _ _ _) hn
      intro _
      refine runJ ?_
      apply (s_call Tryd_ent13 rfl rfl rfl)
      refine (refMul_spec (liftm (IV n1 X) q) (liftm (IV n2 Y) q) q h9 (lift_lt64 hq64) (lift_lt64 hq64) hq64).mono ?_
      rintro _ _ ⟨rfl, rfl⟩
      refine ⟨(by first | exact trivial | exact Ext.refl _), ?_⟩
      refine runJ ?_
      (apply w_condF; exact rfl; exact rfl; exact (fun hn => hn (lift_mul _ _ _)))
      refine runJ ?_
      apply again_normal (j + 1)
      · exact (Sub.cons rfl (Sub.cons rfl (Sub.cons rfl (Sub.cons rfl (Sub.cons rfl (Sub.cons rfl (Sub.cons rfl (Sub.cons rfl (Sub.nil _)))))))))
      · exact ⟨rfl, hj⟩
      · omega
    · refine runJ ?_
      exact fin1 rfl rfl ⟨rfl, E9⟩
  · simp only [hR, if_false] at q1 q2 q3 q4 ⊢
    refine runJ ?_
    exact fin1 rfl rfl ⟨rfl, E9⟩
end Go.Proofs.YtajgcmgkhmkmbaaDoor

/- Own calculus, part M: arrays of ints, built and compared. No condition. -/
namespace Go.Den
set_option linter.unusedVariables false
set_option maxRecDepth 8000
open Go Go.RowKit

theorem run_part {P : Program} {e : TypeId} {cs : List Value} {off : Nat} {u : Value} {w : World} (ht : plainTy P e = true) (hj : cs[off]? = some u) : (part e cs.toArray off).run P w = .ok u w := by
  simp [part, run_isAgg_plain ht, hj]
theorem eqItems_ints {P : Program} {w : World} {e : TypeId} {xs ys : List Int} (d : Nat) (he : P.underlying e = some (.int .i64)) (hp : plainTy P e = true) (hl : xs.length = ys.length) : ∀ (k j : Nat), j + k = xs.length →
    (Op.eqItems (d + 1) e 1 (xs.map I).toArray (ys.map I).toArray (List.range' j k)).run P w = .ok (decide (xs.drop j = ys.drop j)) w
  | 0, j, h => by
    rw [List.drop_of_length_le (by omega), List.drop_of_length_le (by omega)]
    simp [Op.eqItems]
  | k + 1, j, h => by
    have hx : xs[j]? = some xs[j] := List.getElem?_eq_getElem (by omega)
    have hy : ys[j]? = some ys[j] := List.getElem?_eq_getElem (by omega)
    have p1 := run_part (P := P) (w := w) hp (show (xs.map I)[j]? = some (I xs[j]) by rw [List.getElem?_map, hx]; rfl)
    have p2 := run_part (P := P) (w := w) hp (show (ys.map I)[j]? = some (I ys[j]) by rw [List.getElem?_map, hy]; rfl)
    have p3 := run_equalIn_int (P := P) w d e .i64 .i64 xs[j] ys[j] he
    have ih := eqItems_ints (w := w) d he hp hl k (j + 1) (by omega)
    rw [List.range'_succ]
    simp only [Op.eqItems, Sem.run_bind, Nat.mul_one, p1, p2, p3, Result.andThen_ok]
    rw [show xs.drop j = xs[j] :: xs.drop (j + 1) from List.drop_eq_getElem_cons (by omega), show ys.drop j = ys[j] :: ys.drop (j + 1) from List.drop_eq_getElem_cons (by omega)]
    by_cases hq : xs[j] = ys[j]
    · rw [hq]
      simp only [beq_self_eq_true, Bool.not_true, Bool.false_eq_true, if_false, ih]
      simp [-List.getElem_cons_drop]
    · have : (xs[j] == ys[j]) = false := by simpa using hq
      have hne : ¬ (xs[j] :: xs.drop (j + 1) = ys[j] :: ys.drop (j + 1)) := fun e => hq (List.cons.inj e).1
      rw [this, decide_eq_false hne]
      simp

section rules
variable {P : Program} {n : Nat} {Q : Post} {l : Fr} {h : Hp} {ops : List Oper} {Ch : Hp → Prop} {E : Nat → Bool} {i : Nat}
variable {d : Nat} {t : TypeId} {x y z : Operand}
/-- Two arrays of ints. -/
theorem s_eqArr {yt e : TypeId} {m : Nat} (xs ys : List Int) (hx : ev l x = some (.agg (xs.map I).toArray)) (hy : ev l y = some (.agg (ys.map I).toArray)) (ht : P.underlying t = some (.array m e)) (he : P.underlying e = some (.int .i64)) (hs : (P.info? e).map (·.size) = some 1) (hp : plainTy P e = true) (hm : P.eqGuardType P.depth t = false) (hlx : xs.length = m) (hly : ys.length = m) (hb : Nat.blt d n = true)
    (k : S P n ops Ch E Q (i + 1) ((d, .bool (decide (xs = ys))) :: l) h) : O P n ops Ch E Q i d (.binOp .eql t x y yt) l h :=
  s_bin hx hy hb (fun w' => by
    cases hi : P.info? e with
    | none => rw [hi] at hs; cases hs
    | some inf =>
      rw [hi] at hs
      simp only [Option.map_some, Option.some.injEq] at hs
      have hc : P.cellsOf e = 1 := by unfold Program.cellsOf; rw [hi]; exact hs
      have h1 := eqItems_ints (P := P) (w := w') 9998 he hp (by rw [hlx, hly]) m 0 (by omega) (xs := xs) (ys := ys)
      rw [Sem.run_bind, run_eqGuard_agg (P := P) w' .eql t x y _ _ hm, Result.andThen_ok, run_eql_struct (P := P) w' t, run_equalIn_array (P := P) w' 9999 _ _ ht hi, hc, List.range_eq_range', h1]
      simp) k
theorem s_buildArr {m s : Nat} {e : TypeId} {parts : Array (Nat × Operand)} {vs : List Value} {css : List (List Value)} (cs : List Value) (he : evs l (parts.toList.map (·.2)) = some vs) (ht : P.underlying t = some (.array m e)) (hs : (P.info? e).map (·.size) = some s) {zs : List Value} (hi : (P.info? t).bind (fun i => i.zero.map fun z => z.cells.toList) = some zs)
    (hc : CellsAll vs css) (hcs : fillP (fun i => some (i * s, s)) zs ((parts.toList.map (·.1)).zip css) = some cs) (hb : Nat.blt d n = true)
    (k : S P n ops Ch E Q (i + 1) ((d, .agg cs.toArray) :: l) h) : O P n ops Ch E Q i d (.build t parts) l h :=
  s_pure hb (fun a w' hf => by
    cases hq : P.info? t with
    | none => rw [hq] at hi; cases hi
    | some inf =>
      rw [hq] at hi
      simp only [Option.bind_some] at hi
      cases hz : inf.zero with
      | none => rw [hz] at hi; cases hi
      | some z =>
        rw [hz] at hi
        simp only [Option.map_some, Option.some.injEq] at hi
        cases hq2 : P.info? e with
        | none => rw [hq2] at hs; cases hs
        | some inf2 =>
          rw [hq2] at hs
          simp only [Option.map_some, Option.some.injEq] at hs
          have hpa : (parts.map fun (i, x) => (i, a.eval x)) = ((parts.toList.map (·.1)).zip vs).toArray := by
            apply Array.ext'
            rw [← hf.evs he, Array.toList_map, List.map_map, List.zip_map']; rfl
          have hzip : ((parts.toList.map (·.1)).zip vs).map (fun x => (x.1, x.2.cells.toList)) = (parts.toList.map (·.1)).zip css := by
            rw [← hc.eq, List.zip_map_right]
            first | done | rfl
          have hfl := fill_fillP (place := fun i => some (i * s, s)) ((parts.toList.map (·.1)).zip vs) zs cs (hzip ▸ hcs)
          have e1 : z.cells = zs.toArray := by rw [← hi]
          have hr : (Instr.build t ((parts.toList.map (·.1)).zip vs).toArray).run P w' = .ok (.agg cs.toArray) w' := by
            simp [Instr.build, zeroValue, typeInfo, hq, hz, run_underlying ht, sizeOf, hq2, hs, e1, hfl]
          simp only [execOp, hpa, Sem.run_bind, hr]; rfl) k
end rules
end Go.Den
