/- Package crt: a number out of two residues (what the fixed call asks). Condition of what tests primes: the table of math/bits reads as it is laid. -/
import Derived.Test.YtajgcmgkhmkmbaaDoorCrtA
import Derived.Test.YtajgcmgkhmkmbaaDoorTail
namespace Go.Proofs.YtajgcmgkhmkmbaaDoor
set_option linter.unusedVariables false
set_option maxRecDepth 8000
open Go Go.Den Go.RowKit Go.Dig

theorem fin0 {P : Program} {n : Nat} {fn : Func} {R : Value → Hp → Prop} {l : Fr} {h : Hp} (hr : fn.results = #[]) (k : R (.tuple #[]) h) : At (Den.Fin P n fn R) .normal l h :=
  ⟨⟨.tuple #[], fun a w hf _ => by simp [results, hr], k⟩⟩

def timesN (V P r q back : Nat) : Nat := mulm (subm r (V % q) q) back q

theorem Tryd_ent80 : Ent Tryd.prog 80 := ent_of Tryd.func80 (by kernel_rfl) rfl
set_option maxHeartbeats 1000000 in
theorem gadd_spec (g vV vP : Value) (xsV xsP : List Nat) (r q : Nat) (h : Hp) (G : Var h g 104 [vV, vP]) (sV : SlF h U vV xsV) (sP : SlF h U vP xsP) (aV : Al 18446744073709551616 xsV) (aP : Al 18446744073709551616 xsP) (lV : xsV.length < 1000000) (lP : xsP.length < 1000000)
    (hPg : vP.ownBlock = none ∨ vP.ownBlock ≠ pblk g) (hr : r < 18446744073709551616) (hq0 : 0 < q) (hq : q < 18446744073709551616) :
    CallsH Tryd.prog 80 [g, U r, U q] h fun v' h' => Only (pblk g) h h' ∧ ∃ back ok vV' vP', InvIs (vl 18446744073709551616 xsP % q) q back ok ∧ Var h' g 104 [vV', vP'] ∧
      OwnF h' h.size 31 U vV' (dg 18446744073709551616 (vl 18446744073709551616 xsV + vl 18446744073709551616 xsP * timesN (vl 18446744073709551616 xsV) (vl 18446744073709551616 xsP) r q back)) ∧ OwnF h' h.size 31 U vP' (dg 18446744073709551616 (vl 18446744073709551616 xsP * q)) := by
  have hqn : ¬ q = 0 := by omega
  obtain ⟨gb, hgb, hgl⟩ := G.blk
  (apply enter Tryd.func80 rfl Tryd.ntmps80 rfl)
  refine runJ ?_
  apply (s_call Tryd_ent44 rfl rfl rfl)
  refine (mod_spec vV xsV q h sV aV (by omega) hq).mono ?_
  rintro _ h1 ⟨rfl, e1⟩
  refine ⟨(by first | exact trivial | exact trivial), ?_⟩
  have G1 := G.ext e1
  refine runJ ?_
  apply (s_call Tryd_ent44 rfl rfl rfl)
  refine (mod_spec vP xsP q h1 (sP.ext e1) aP (by omega) hq).mono ?_
  rintro _ h2 ⟨rfl, e2⟩
  refine ⟨(by first | exact trivial | exact trivial), ?_⟩
  simp only [hqn, if_false]
  have G2 := G1.ext e2
  have e12 := e1.trans e2
  generalize hV : vl 18446744073709551616 xsV = V at *
  generalize hP : vl 18446744073709551616 xsP = P at *
  have hVq : V % q < q := Nat.mod_lt _ hq0
  have hPq : P % q < q := Nat.mod_lt _ hq0
  refine runJ ?_
  apply (s_call Tryd_ent89 rfl rfl rfl)
  refine (inv_spec _ q h2 (by omega) hq).mono ?_
  rintro _ _ ⟨⟨back, ok, rfl, hI⟩, rfl⟩
  refine ⟨(by first | exact trivial | exact trivial), ?_⟩
  have hb : back < 18446744073709551616 := by
    cases ok with
    | true => have := (hI.1 rfl).2.2.1; omega
    | false => have := (hI.2 rfl).2; omega
  have hs1 : subm r (V % q) q < q := subm_lt hq0
  have ht1 : timesN V P r q back < q := mulm_lt hq0
  have htd : timesN V P r q back = mulm (subm r (V % q) q) back q := rfl
  refine runJ ?_
  apply (s_call Tryd_ent68 rfl rfl rfl)
  refine (sub_spec r _ q h2 hr (by omega) hq).mono ?_
  rintro _ _ ⟨rfl, rfl⟩
  refine ⟨(by first | exact trivial | exact Ext.refl _ | assumption | exact Ext.trans (by assumption) (by assumption)), ?_⟩
  refine runJ ?_
  apply (s_call Tryd_ent90 rfl rfl rfl)
  refine (mul_spec _ back q h2 (by omega) hb hq).mono ?_
  rintro _ _ ⟨rfl, rfl⟩
  refine ⟨(by first | exact trivial | exact Ext.refl _ | assumption | exact Ext.trans (by assumption) (by assumption)), ?_⟩
  rw [← htd]
  generalize htm : timesN V P r q back = times at *
  have hdl : (dg 18446744073709551616 times).length ≤ 1 := dg_len (by decide) (by omega)
  have hdl2 : (dg 18446744073709551616 q).length ≤ 1 := dg_len (by decide) (by omega)
  have b64 : (1 : Nat) < 18446744073709551616 := by decide
  have b640 : (0 : Nat) < 18446744073709551616 := by decide
  have sV2 := sV.ext e12
  have sP2 := sP.ext e12
  refine runJN ?_
  (apply (r_drawnT 15 (Ext h2)); exact rfl; exact mixed; kernel_rfl; exact rfl; first | exact Ext.refl _ | exact Only.refl _ _)
  refine runJ ?_
  apply (s_call Tryd_ent43 rfl rfl rfl)
  refine (of_spec times h2 (by omega)).mono ?_
  rintro w1 h3 ⟨e3, o3⟩
  refine ⟨(by first | exact trivial | exact e3), ?_⟩
  refine runJ ?_
  apply (s_call Tryd_ent65 rfl rfl rfl)
  refine (nmul_spec vP w1 xsP _ h3 (sP2.ext e3) o3.sl aP (al_dg b640 _) (by omega) (by omega)).mono ?_
  rintro w2 h4 ⟨e4, o4⟩
  refine ⟨(by first | exact trivial | exact (e3.trans e4)), ?_⟩
  rw [vl_dg b64, hP] at o4
  have e34 := e3.trans e4
  have hlw : (dg 18446744073709551616 (P * times)).length < 1099511627776 := by
    have h1 := dg_len (b := 18446744073709551616) (n := P * times) (k := xsP.length + 1) (by decide) (by
      rw [Nat.pow_succ]
      have h2 := vl_lt aP
      rw [hP] at h2
      exact Nat.mul_lt_mul_of_lt_of_lt h2 (by omega))
    omega
  refine runJ ?_
  apply (s_call Tryd_ent58 rfl rfl rfl)
  refine (nadd_spec vV w2 xsV _ h4 (sV2.ext e34) o4.sl aV (al_dg b640 _) (by omega) hlw).mono ?_
  rintro vV' h5 ⟨e5, o5⟩
  refine ⟨(by first | exact trivial | exact (e34.trans e5)), ?_⟩
  rw [vl_dg b64, hV] at o5
  have e25 := e34.trans e5
  have G5 := G2.ext e25
  refine runJ ?_
  apply tail_end
  refine runJ ?_
  (apply s_storeC; exact rfl; exact rfl; (first | exact rfl | exact SlF.one (by assumption) | exact SlF.one (OwnF.sl (by assumption)) | exact Var.one (by assumption)); exact rfl; exact rfl; exact G5; exact rfl)
  intro h6 G6 k6
  refine ⟨(by first | exact trivial | exact Ext.refl _ | assumption | exact Ext.only (by assumption) _ | exact Only.trans (Ext.only (by assumption) _) (by assumption)), ?_⟩
  have G6 : Var h6 g 104 [vV', vP] := G6
  have hne5 : vV'.ownBlock = none ∨ vV'.ownBlock ≠ pblk g := o5.neV hgb (Nat.lt_of_lt_of_le hgl (Nat.le_trans (Nat.le_trans e12.1 e3.1) e4.1))
  have o6 := o5.only k6 hne5
  have K6 : Only (pblk g) h h6 := ((e12.trans e25).only _).trans k6
  have sP5 := sP2.ext e25
  have hsp : vP.ownBlock = none ∨ vP.ownBlock ≠ pblk g := hPg
  have sP6 := sP5.only k6 hsp
  refine runJN ?_
  (apply (r_drawnT 10 (Ext h6)); exact rfl; exact mixed; kernel_rfl; exact rfl; first | exact Ext.refl _ | exact Only.refl _ _)
  refine runJ ?_
  apply (s_call Tryd_ent43 rfl rfl rfl)
  refine (of_spec q h6 hq).mono ?_
  rintro w3 h7 ⟨e7, o7⟩
  refine ⟨(by first | exact trivial | exact e7), ?_⟩
  refine runJ ?_
  apply (s_call Tryd_ent65 rfl rfl rfl)
  refine (nmul_spec vP w3 xsP _ h7 (sP6.ext e7) o7.sl aP (al_dg b640 _) (by omega) (by omega)).mono ?_
  rintro vP' h8 ⟨e8, o8⟩
  refine ⟨(by first | exact trivial | exact (e7.trans e8)), ?_⟩
  rw [vl_dg b64, hP] at o8
  have e68 := e7.trans e8
  have G8 := G6.ext e68
  refine runJ ?_
  apply tail_end
  refine runJ ?_
  (apply s_storeC; exact rfl; exact rfl; (first | exact rfl | exact SlF.one (by assumption) | exact SlF.one (OwnF.sl (by assumption)) | exact Var.one (by assumption)); exact rfl; exact rfl; exact G8; exact rfl)
  intro h9 G9 k9
  refine ⟨(by first | exact trivial | exact Ext.refl _ | assumption | exact Ext.only (by assumption) _ | exact Only.trans (Ext.only (by assumption) _) (by assumption)), ?_⟩
  have G9 : Var h9 g 104 [vV', vP'] := G9
  have hle6 : h.size ≤ h6.size := K6.1
  have hne8 : vP'.ownBlock = none ∨ vP'.ownBlock ≠ pblk g := o8.neV hgb (Nat.lt_of_lt_of_le hgl (Nat.le_trans hle6 e7.1))
  have o9 := o8.only k9 hne8
  have o6' := (o6.ext e68).only k9 hne5
  have K9 : Only (pblk g) h h9 := (K6.trans (e68.only _)).trans k9
  refine runJ ?_
  exact fin0 rfl ⟨K9, back, ok, vV', vP', hI, G9, by rw [htm]; exact o6'.base (Nat.le_trans e12.1 (Nat.le_trans e3.1 e4.1)), o9.base (Nat.le_trans hle6 e7.1)⟩

theorem Tryd_ent81 : Ent Tryd.prog 81 := ent_of Tryd.func81 (by kernel_rfl) rfl
theorem centered_spec (g vV vP : Value) (V P : Nat) (h : Hp) (G : Var h g 104 [vV, vP]) (sV : SlF h U vV (dg 18446744073709551616 V)) (sP : SlF h U vP (dg 18446744073709551616 P)) (hle : V ≤ P) (hc : ¬ P - V < V) (lP : (dg 18446744073709551616 P).length < 1000000) (lV : (dg 18446744073709551616 V).length < 1000000) :
    CallsH Tryd.prog 81 [g] h fun v' h' => Ext h h' ∧ v' = .agg #[.bool false, vV] := by
  have b64 : (1 : Nat) < 18446744073709551616 := by decide
  have b640 : (0 : Nat) < 18446744073709551616 := by decide
  (apply enter Tryd.func81 rfl Tryd.ntmps81 rfl)
  refine runJ ?_
  (apply s_alloc; exact rfl; exact rfl; exact rfl)
  intro p h1 x1 e1 b1
  (try dsimp only [Value.cells, List.toList_toArray] at x1)
  refine ⟨(by first | exact trivial | exact Ext.refl _ | assumption | exact Ext.trans (by assumption) (by assumption)), ?_⟩
  have G1 := G.ext e1
  have sV1 := sV.ext e1
  have sP1 := sP.ext e1
  have F := nsub_spec vP vV _ _ h1 sP1 sV1 (al_dg b640 P) (al_dg b640 V) (by omega) (by omega)
  rw [vl_dg b64, vl_dg b64] at F
  refine runJ ?_
  apply (s_call Tryd_ent91 rfl rfl rfl)
  refine (F).mono ?_
  rintro r h2 ⟨e2, -, hr⟩
  refine ⟨(by first | exact trivial | exact e2), ?_⟩
  obtain ⟨d, rfl, od⟩ := hr hle
  have e12 := e1.trans e2
  have G2 := G1.ext e2
  have x2 := x1.ext e2
  have hdl : (dg 18446744073709551616 (P - V)).length < 4611686018427387904 := by
    have := dg_len (b := 18446744073709551616) (n := P - V) (k := (dg 18446744073709551616 P).length) b64 (Nat.lt_of_le_of_lt (Nat.sub_le _ _) (dg_lt b64 P))
    omega
  have C := cmp_spec d vV _ _ h2 od.sl (sV1.ext e2) (al_dg b640 (P - V)) (al_dg b640 V) hdl (by omega)
  rw [vl_dg b64, vl_dg b64] at C
  have hcn : ¬ cmpI (P - V) V < 0 := by unfold cmpI; rw [if_neg hc]; split <;> decide
  refine runJ ?_
  apply (s_call Tryd_ent63 rfl rfl rfl)
  refine (C).mono ?_
  rintro _ _ ⟨rfl, rfl⟩
  refine ⟨(by first | exact trivial | exact trivial), ?_⟩
  refine runJ ?_
  (apply w_condF; exact rfl; exact rfl; exact hcn)
  refine runJ ?_
  have v1 : vV.oneCell' = true := sV.one
  (apply (s_build ([.bool false, vV])); exact rfl; exact rfl; exact rfl; (repeat (first | exact CellsAll.nil | (apply CellsAll.cons; (first | exact oneL (by assumption) | exact oneL (SlF.one (by assumption)) | exact oneL (SlF.one (OwnF.sl (by assumption))) | exact oneL (Var.one (by assumption)) | exact rfl)))); exact rfl; exact rfl)
  refine runJ ?_
  apply s_storeV (us := [.bool false, vV]) rfl rfl rfl (OneAll.cons rfl (OneAll.cons v1 OneAll.nil)) rfl rfl x2 rfl
  intro h3 x3 k3
  refine ⟨trivial, ?_⟩
  have e3 := k3.oldV e12 b1 (Nat.le_refl _)
  refine runJ ?_
  exact finC rfl rfl x3 rfl rfl ⟨e3, rfl⟩

theorem inv15 {back : Nat} {ok : Bool} (h : InvIs (1 % 5) 5 back ok) : back = 1 := by
  cases ok with
  | false => rcases (h.2 rfl).1 with h | h
             · omega
             · exact absurd (by decide) h
  | true => have := (h.1 rfl).2.2; omega
theorem inv57 {back : Nat} {ok : Bool} (h : InvIs (5 % 7) 7 back ok) : back = 3 := by
  cases ok with
  | false => rcases (h.2 rfl).1 with h | h
             · omega
             · exact absurd (by decide) h
  | true => have := (h.1 rfl).2.2; omega

def stV : Nat → Nat
  | 0 => 0
  | 1 => 2
  | _ => 17
def stP : Nat → Nat
  | 0 => 1
  | 1 => 5
  | _ => 35

theorem Tryd_ent64 : Ent Tryd.prog 64 := ent_of Tryd.func64 (by kernel_rfl) rfl
set_option maxHeartbeats 1000000 in
theorem whole57_spec (vr vw : Value) (h : Hp) (sr : SlF h U vr [2, 3]) (sw : SlF h U vw [5, 7]) :
    CallsH Tryd.prog 64 [vr, vw] h fun v' h' => Ext h h' ∧ ∃ a, v' = .agg #[.bool false, a] ∧ SlF h' U a (dg 18446744073709551616 17) ∧ ∀ k, a.ownBlock = some k → h.size ≤ k := by
  (apply enter Tryd.func64 rfl Tryd.ntmps64 rfl)
  refine runJ ?_
  (apply s_alloc; exact rfl; exact rfl; exact rfl)
  intro p h1 x1 e1 b1
  (try dsimp only [Value.cells, List.toList_toArray] at x1)
  refine ⟨(by first | exact trivial | exact Ext.refl _ | assumption | exact Ext.trans (by assumption) (by assumption)), ?_⟩
  refine runJ ?_
  (apply (s_litF (f := U) [1] (fun _ => rfl)); exact rfl; exact rfl; exact rfl; exact rfl; exact rfl; exact rfl; exact rfl; exact rfl; omega)
  intro w h2 o2 e2 b2
  refine ⟨(by first | exact trivial | exact Ext.refl _ | assumption | exact Ext.trans (by assumption) (by assumption)), ?_⟩
  refine runJ ?_
  (apply (s_build ([.slice none 0 0, w])); exact rfl; exact rfl; exact rfl; (repeat (first | exact CellsAll.nil | (apply CellsAll.cons; (first | exact oneL (by assumption) | exact oneL (SlF.one (by assumption)) | exact oneL (SlF.one (OwnF.sl (by assumption))) | exact oneL (Var.one (by assumption)) | exact rfl)))); exact rfl; exact rfl)
  refine runJ ?_
  (apply s_box; exact rfl; exact rfl; exact rfl; exact rfl)
  intro g h3 g3 e3 b3
  (try dsimp only [Value.cells, List.toList_toArray] at g3)
  refine ⟨(by first | exact trivial | exact Ext.refl _ | assumption | exact Ext.trans (by assumption) (by assumption)), ?_⟩
  have e13 := (e1.trans e2).trans e3
  have x3 := (x1.ext e2).ext e3
  refine runJ ?_
  (first | (apply w_seqB; exact rfl; apply w_block; exact rfl) | skip)
  apply (w_loop (σ := Nat × Value × Value) rfl (fun j => [(0, vr), (4, p), (5, g), (6, .func (.func 80) #[] #[]), (12, vw), (13, N 2), (14, N j.1)])
    (fun j h' => j.1 ≤ 2 ∧ Only (pblk g) h3 h' ∧ Var h' g 104 [j.2.1, j.2.2] ∧ SlF h' U j.2.1 (dg 18446744073709551616 (stV j.1)) ∧ SlF h' U j.2.2 (dg 18446744073709551616 (stP j.1)) ∧ (j.2.2.ownBlock = none ∨ j.2.2.ownBlock ≠ pblk g) ∧ (j.2.1.ownBlock = none ∨ j.2.1.ownBlock ≠ pblk p) ∧ ∀ k, j.2.1.ownBlock = some k → h.size ≤ k) (fun j => 2 - j.1) (0, .slice none 0 0, w))
  · exact (Sub.cons rfl (Sub.cons rfl (Sub.cons rfl (Sub.cons rfl (Sub.cons rfl (Sub.cons rfl (Sub.cons rfl (Sub.nil _))))))))
  · refine ⟨Nat.zero_le _, Only.refl _ _, g3, SlF.nil _ _, o2.sl.ext e3, .inr ?_, .inl rfl, fun k hk => by simp [Value.ownBlock] at hk⟩
    rw [b2, b3]
    intro e
    have := Option.some.inj e
    have h1 := o2.blk _ b2
    omega
  rintro ⟨j, vV, vP⟩ h4 ⟨j1, k4, g4, s4, t4, n4, n5, n6⟩
  dsimp only at j1 k4 g4 s4 t4 n4 n5 n6 ⊢
  have e4 : Ext h h4 := k4.oldV e13 b3 (Nat.le_trans e1.1 e2.1)
  have sr4 := sr.ext e4
  have sw4 := sw.ext e4
  have x4 : Var h4 p 25 _ := x3.only k4 (by
    rw [b1, b3]
    intro e
    have h1 := Option.some.inj e
    have h2 := e2.1
    obtain ⟨q, hq, hl⟩ := x1.blk
    rw [b1] at hq
    have h3 := Option.some.inj hq
    omega)
  refine runJ ?_
  (apply w_condD; exact rfl; exact rfl) <;> intro hj
  · have b64 : (1 : Nat) < 18446744073709551616 := by decide
    have b640 : (0 : Nat) < 18446744073709551616 := by decide
    have hpl : h.size < h4.size := by
      obtain ⟨q, hq, hl⟩ := x4.blk
      rw [b1] at hq
      have h3 := Option.some.inj hq
      omega
    rcases (show j = 0 ∨ j = 1 by omega) with rfl | rfl
    · have A := gadd_spec g vV vP _ _ 2 5 h4 g4 s4 t4 (al_dg b640 _) (al_dg b640 _) (by decide) (by decide) n4 (by decide) (by decide) (by decide)
      rw [vl_dg b64, vl_dg b64] at A
      have hr : [2, 3][0]? = some 2 := rfl
      have hq : [5, 7][0]? = some 5 := rfl
      refine runJ ?_
      refine s_callV rfl Tryd_ent80 rfl rfl rfl ?_
      refine (A).mono ?_
      rintro _ h5 ⟨k5, back, ok, vV', vP', hI, g5, o5, p5⟩
      refine ⟨(by first | exact trivial | exact trivial), ?_⟩
      obtain rfl : back = 1 := inv15 hI
      obtain ⟨gb, hgb, hgl⟩ := g4.blk
      refine runJ ?_
      apply again_normal (1, vV', vP')
      · exact (Sub.cons rfl (Sub.cons rfl (Sub.cons rfl (Sub.cons rfl (Sub.cons rfl (Sub.cons rfl (Sub.cons rfl (Sub.nil _))))))))
      · exact ⟨by dsimp only; omega, k4.trans k5, g5, o5.sl, p5.sl, p5.neV hgb hgl, o5.neV b1 hpl, fun k hk => by have := (o5.blk k hk).1; omega⟩
      · dsimp only; omega
    · have A := gadd_spec g vV vP _ _ 3 7 h4 g4 s4 t4 (al_dg b640 _) (al_dg b640 _) (by decide) (by decide) n4 (by decide) (by decide) (by decide)
      rw [vl_dg b64, vl_dg b64] at A
      have hr : [2, 3][1]? = some 3 := rfl
      have hq : [5, 7][1]? = some 7 := rfl
      refine runJ ?_
      refine s_callV rfl Tryd_ent80 rfl rfl rfl ?_
      refine (A).mono ?_
      rintro _ h5 ⟨k5, back, ok, vV', vP', hI, g5, o5, p5⟩
      refine ⟨(by first | exact trivial | exact trivial), ?_⟩
      obtain rfl : back = 3 := inv57 hI
      obtain ⟨gb, hgb, hgl⟩ := g4.blk
      refine runJ ?_
      apply again_normal (2, vV', vP')
      · exact (Sub.cons rfl (Sub.cons rfl (Sub.cons rfl (Sub.cons rfl (Sub.cons rfl (Sub.cons rfl (Sub.cons rfl (Sub.nil _))))))))
      · exact ⟨by dsimp only; omega, k4.trans k5, g5, o5.sl, p5.sl, p5.neV hgb hgl, o5.neV b1 hpl, fun k hk => by have := (o5.blk k hk).1; omega⟩
      · dsimp only; omega
  · have : j = 2 := by omega
    subst this
    refine runJ ?_
    apply (s_call Tryd_ent81 rfl rfl rfl)
    refine (centered_spec g vV vP 17 35 h4 g4 s4 t4 (by decide) (by decide) (by decide) (by decide)).mono ?_
    rintro _ h5 ⟨e5, rfl⟩
    refine ⟨(by first | exact trivial | exact trivial), ?_⟩
    have x5 := x4.ext e5
    have v1 : vV.oneCell' = true := s4.one
    refine runJ ?_
    apply s_storeV (us := [.bool false, vV]) rfl rfl rfl (OneAll.cons rfl (OneAll.cons v1 OneAll.nil)) rfl rfl x5 rfl
    intro h6 x6 k6
    refine ⟨trivial, ?_⟩
    have e6 := k6.oldV (e4.trans e5) b1 (Nat.le_refl _)
    refine runJ ?_
    exact finC rfl rfl x6 rfl rfl ⟨e6, vV, rfl, (s4.ext e5).only k6 n5, n6⟩
end Go.Proofs.YtajgcmgkhmkmbaaDoor
