/- Texts CrtB to NttF of this work, joined, without what the law does not lean on. -/
import Derived.Test.YtfcmdefigldpnaaGreatDoorMCb15
namespace Go.Proofs.YtfcmdefigldpnaaGreatDoor
set_option linter.unusedVariables false
set_option maxRecDepth 8000
open Go Go.Den Go.RowKit Go.Dig

theorem fin0 {P : Program} {n : Nat} {fn : Func} {R : Value → Hp → Prop} {l : Fr} {h : Hp} (hr : fn.results = #[]) (k : R (.tuple #[]) h) : At (Den.Fin P n fn R) .normal l h :=
  ⟨⟨.tuple #[], fun a w hf _ => by simp [results, hr], k⟩⟩

def timesN (V P r q back : Nat) : Nat := mulm (subm r (V % q) q) back q

theorem Tryz_ent162 : Ent Tryz.prog 162 := ent_of Tryz.func162 (by kernel_rfl) rfl
set_option maxHeartbeats 1000000 in
theorem gadd_spec (g vV vP : Value) (xsV xsP : List Nat) (r q : Nat) (h : Hp) (G : Var h g 216 [vV, vP]) (sV : SlF h U vV xsV) (sP : SlF h U vP xsP) (aV : Al 18446744073709551616 xsV) (aP : Al 18446744073709551616 xsP) (lV : xsV.length < 1000000) (lP : xsP.length < 1000000)
    (hPg : vP.ownBlock = none ∨ vP.ownBlock ≠ pblk g) (hr : r < 18446744073709551616) (hq0 : 0 < q) (hq : q < 18446744073709551616) :
    CallsH Tryz.prog 162 [g, U r, U q] h fun v' h' => Only (pblk g) h h' ∧ ∃ back ok vV' vP', InvIs (vl 18446744073709551616 xsP % q) q back ok ∧ Var h' g 216 [vV', vP'] ∧
      OwnF h' h.size 26 U vV' (dg 18446744073709551616 (vl 18446744073709551616 xsV + vl 18446744073709551616 xsP * timesN (vl 18446744073709551616 xsV) (vl 18446744073709551616 xsP) r q back)) ∧ OwnF h' h.size 26 U vP' (dg 18446744073709551616 (vl 18446744073709551616 xsP * q)) := by
  have hqn : ¬ q = 0 := by omega
  obtain ⟨gb, hgb, hgl⟩ := G.blk
  (apply enter Tryz.func162 rfl Tryz.ntmps162 rfl)
  refine runJ ?_
  apply (s_call Tryz_ent65 rfl rfl rfl)
  refine (mod_spec vV xsV q h sV aV (by omega) hq).mono ?_
  rintro _ h1 ⟨rfl, e1⟩
  refine ⟨trivial, ?_⟩
  have G1 := G.ext e1
  refine runJ ?_
  apply (s_call Tryz_ent65 rfl rfl rfl)
  refine (mod_spec vP xsP q h1 (sP.ext e1) aP (by omega) hq).mono ?_
  rintro _ h2 ⟨rfl, e2⟩
  refine ⟨trivial, ?_⟩
  simp only [hqn, if_false]
  have G2 := G1.ext e2
  have e12 := e1.trans e2
  generalize hV : vl 18446744073709551616 xsV = V at *
  generalize hP : vl 18446744073709551616 xsP = P at *
  have hVq : V % q < q := Nat.mod_lt _ hq0
  have hPq : P % q < q := Nat.mod_lt _ hq0
  refine runJ ?_
  apply (s_call Tryz_ent171 rfl rfl rfl)
  refine (inv_spec _ q h2 (by omega) hq).mono ?_
  rintro _ _ ⟨⟨back, ok, rfl, hI⟩, rfl⟩
  refine ⟨trivial, ?_⟩
  have hb : back < 18446744073709551616 := by
    cases ok with
    | true => have := (hI.1 rfl).2.2.1; omega
    | false => have := (hI.2 rfl).2; omega
  have hs1 : subm r (V % q) q < q := subm_lt hq0
  have ht1 : timesN V P r q back < q := mulm_lt hq0
  have htd : timesN V P r q back = mulm (subm r (V % q) q) back q := rfl
  refine runJ ?_
  apply (s_call Tryz_ent66 rfl rfl rfl)
  refine (sub_spec r _ q h2 hr (by omega) hq).mono ?_
  rintro _ _ ⟨rfl, rfl⟩
  refine clsI ?_
  refine runJ ?_
  apply (s_call Tryz_ent155 rfl rfl rfl)
  refine (mul_spec _ back q h2 (by omega) hb hq).mono ?_
  rintro _ _ ⟨rfl, rfl⟩
  refine clsI ?_
  rw [← htd]
  generalize htm : timesN V P r q back = times at *
  have hdl : (dg 18446744073709551616 times).length ≤ 1 := dg_len (by decide) (by omega)
  have hdl2 : (dg 18446744073709551616 q).length ≤ 1 := dg_len (by decide) (by omega)
  have b64 : (1 : Nat) < 18446744073709551616 := by decide
  have b640 : (0 : Nat) < 18446744073709551616 := by decide
  have sV2 := sV.ext e12
  have sP2 := sP.ext e12
  refine runJN ?_
  (apply (r_drawnT 15 (Ext h2)); exact rfl; exact mixed; kernel_rfl; exact rfl; first | exact Ext.refl _ | exact Only.refl _ _)
  refine runJ ?_
  apply (s_call Tryz_ent64 rfl rfl rfl)
  refine (of_spec times h2 (by omega)).mono ?_
  rintro w1 h3 ⟨e3, o3⟩
  refine ⟨(by first | exact trivial | exact e3), ?_⟩
  refine runJ ?_
  apply (s_call Tryz_ent122 rfl rfl rfl)
  refine (nmul_spec vP w1 xsP _ h3 (sP2.ext e3) o3.sl aP (al_dg b640 _) (by omega) (by omega)).mono ?_
  rintro w2 h4 ⟨e4, o4⟩
  refine ⟨(by first | exact trivial | exact (e3.trans e4)), ?_⟩
  rw [vl_dg b64, hP] at o4
  have e34 := e3.trans e4
  have hlw : (dg 18446744073709551616 (P * times)).length < 1099511627776 := by
    have h1 := dg_len (b := 18446744073709551616) (n := P * times) (k := xsP.length + 1) (by decide) (by
      rw [Nat.pow_succ]
      have h2 := vl_lt aP
      rw [hP] at h2
      exact Nat.mul_lt_mul_of_lt_of_lt h2 (by omega))
    omega
  refine runJ ?_
  apply (s_call Tryz_ent124 rfl rfl rfl)
  refine (nadd_spec vV w2 xsV _ h4 (sV2.ext e34) o4.sl aV (al_dg b640 _) (by omega) hlw).mono ?_
  rintro vV' h5 ⟨e5, o5⟩
  refine ⟨(by first | exact trivial | exact (e34.trans e5)), ?_⟩
  rw [vl_dg b64, hV] at o5
  have e25 := e34.trans e5
  have G5 := G2.ext e25
  refine runJ ?_
  apply tail_end
  refine runJ ?_
  (apply s_storeC; exact rfl; exact rfl; (first | exact rfl | exact SlF.one (by assumption) | exact SlF.one (OwnF.sl (by assumption)) | exact Var.one (by assumption)); exact rfl; exact rfl; exact G5; exact rfl)
  intro h6 G6 k6
  refine ⟨(by first | exact trivial | exact Ext.refl _ | assumption | exact Ext.only (by assumption) _ | exact Only.trans (Ext.only (by assumption) _) (by assumption)), ?_⟩
  have G6 : Var h6 g 216 [vV', vP] := G6
  have hne5 : vV'.ownBlock = none ∨ vV'.ownBlock ≠ pblk g := o5.neV hgb (Nat.lt_of_lt_of_le hgl (Nat.le_trans (Nat.le_trans e12.1 e3.1) e4.1))
  have o6 := o5.only k6 hne5
  have K6 : Only (pblk g) h h6 := ((e12.trans e25).only _).trans k6
  have sP5 := sP2.ext e25
  have hsp : vP.ownBlock = none ∨ vP.ownBlock ≠ pblk g := hPg
  have sP6 := sP5.only k6 hsp
  refine runJN ?_
  (apply (r_drawnT 10 (Ext h6)); exact rfl; exact mixed; kernel_rfl; exact rfl; first | exact Ext.refl _ | exact Only.refl _ _)
  refine runJ ?_
  apply (s_call Tryz_ent64 rfl rfl rfl)
  refine (of_spec q h6 hq).mono ?_
  rintro w3 h7 ⟨e7, o7⟩
  refine ⟨(by first | exact trivial | exact e7), ?_⟩
  refine runJ ?_
  apply (s_call Tryz_ent122 rfl rfl rfl)
  refine (nmul_spec vP w3 xsP _ h7 (sP6.ext e7) o7.sl aP (al_dg b640 _) (by omega) (by omega)).mono ?_
  rintro vP' h8 ⟨e8, o8⟩
  refine ⟨(by first | exact trivial | exact (e7.trans e8)), ?_⟩
  rw [vl_dg b64, hP] at o8
  have e68 := e7.trans e8
  have G8 := G6.ext e68
  refine runJ ?_
  apply tail_end
  refine runJ ?_
  (apply s_storeC; exact rfl; exact rfl; (first | exact rfl | exact SlF.one (by assumption) | exact SlF.one (OwnF.sl (by assumption)) | exact Var.one (by assumption)); exact rfl; exact rfl; exact G8; exact rfl)
  intro h9 G9 k9
  refine ⟨(by first | exact trivial | exact Ext.refl _ | assumption | exact Ext.only (by assumption) _ | exact Only.trans (Ext.only (by assumption) _) (by assumption)), ?_⟩
  have G9 : Var h9 g 216 [vV', vP'] := G9
  have hle6 : h.size ≤ h6.size := K6.1
  have hne8 : vP'.ownBlock = none ∨ vP'.ownBlock ≠ pblk g := o8.neV hgb (Nat.lt_of_lt_of_le hgl (Nat.le_trans hle6 e7.1))
  have o9 := o8.only k9 hne8
  have o6' := (o6.ext e68).only k9 hne5
  have K9 : Only (pblk g) h h9 := (K6.trans (e68.only _)).trans k9
  refine runJ ?_
  exact fin0 rfl ⟨K9, back, ok, vV', vP', hI, G9, by rw [htm]; exact o6'.base (Nat.le_trans e12.1 (Nat.le_trans e3.1 e4.1)), o9.base (Nat.le_trans hle6 e7.1)⟩

theorem Tryz_ent163 : Ent Tryz.prog 163 := ent_of Tryz.func163 (by kernel_rfl) rfl
theorem Tryz_ent121 : Ent Tryz.prog 121 := ent_of Tryz.func121 (by kernel_rfl) rfl

theorem Tryz_ent23 : Ent Tryz.prog 23 := ent_of Tryz.func23 (by kernel_rfl) rfl
theorem sameU_spec (va vb : Value) (xs ys : List Nat) (h : Hp) (ha : SlF h U va xs) (hb : SlF h U vb ys) (hl : xs.length < 4611686018427387904) (hl2 : ys.length < 4611686018427387904) :
    CallsH Tryz.prog 23 [va, vb] h fun v' h' => v' = .bool (decide (xs = ys)) ∧ h = h' := by
  (apply enter Tryz.func23 rfl Tryz.ntmps23 rfl)
  refine runJ ?_
  (apply w_condD; exact rfl; exact rfl) <;> intro hne
  · refine runJ ?_
    exact fin1 rfl rfl ⟨dec_f (fun e => hne (by rw [e])), rfl⟩
  have hle : xs.length = ys.length := by omega
  refine runJ ?_
  (first | (apply w_seqB; exact rfl; apply w_block; exact rfl) | skip)
  apply (w_loop (σ := Nat) rfl (fun j => [(0, va), (1, vb), (12, N xs.length), (13, N j)])
    (fun j h' => h = h' ∧ j ≤ xs.length ∧ ∀ (i : Nat) (x y : Nat), i < j → xs[i]? = some x → ys[i]? = some y → x = y) (fun j => xs.length - j) 0)
  · exact subs
  · exact ⟨rfl, Nat.zero_le _, fun i x y hi => by omega⟩
  rintro j h' ⟨rfl, j1, j2⟩
  refine runJ ?_
  (apply w_condD; exact rfl; exact rfl) <;> intro hj
  · obtain ⟨x, hx⟩ := get_lt hj
    obtain ⟨y, hy⟩ := get_lt (l := ys) (j := j) (by omega)
    refine runJ ?_
    (apply w_condD; exact rfl; exact rfl) <;> intro hd
    · refine runJ ?_
      exact fin1 rfl rfl ⟨dec_f (list_ne hx hy hd), rfl⟩
    · refine runJ ?_
      apply again_normal (j + 1)
      · exact subs
      · refine ⟨rfl, hj, fun i x' y' hi hx' hy' => ?_⟩
        rcases Nat.lt_succ_iff_lt_or_eq.1 hi with hi | rfl
        · exact j2 i x' y' hi hx' hy'
        · rw [hx] at hx'; rw [hy] at hy'; cases hx'; cases hy'; exact Decidable.of_not_not hd
      · omega
  · refine runJ ?_
    exact fin1 rfl rfl ⟨dec_t (list_eq hle fun i x y hx hy => j2 i x y (by have := (List.getElem?_eq_some_iff.1 hx).1; omega) hx hy), rfl⟩


structure ParD where mk ::
  n : Int
  t : Nat
  vq : Value
  q : List Nat
  w : Int
abbrev ParD.cells (p : ParD) : List Value := [I p.n, U p.t, p.vq, I p.w]
structure ParAt (h : Hp) (p : ParD) : Prop where mk ::
  row : SlF h U p.vq p.q
  al : Al 18446744073709551616 p.q
  t64 : p.t < 18446744073709551616
  ln : p.q.length ≤ 4611686018427387904
theorem ParAt.ext {h h' : Hp} {p : ParD} (s : ParAt h p) (e : Ext h h') : ParAt h' p := ⟨s.row.ext e, s.al, s.t64, s.ln⟩

def rowP (n : Int) : Prop := n = 8 ∨ n = 16 ∨ n = 32 ∨ n = 64 ∨ n = 128 ∨ n = 256
instance (n : Int) : Decidable (rowP n) := by unfold rowP; exact inferInstance
def rowF (n : Int) : Nat := if rowP n then 420 else if n = 1024 then 27 else if n = 2048 then 54 else if n = 4096 then 109 else 0
theorem and_pow : ∀ n : Nat, n < 257 → 8 ≤ n → (n &&& (n - 1) = 0 ↔ (n = 8 ∨ n = 16 ∨ n = 32 ∨ n = 64 ∨ n = 128 ∨ n = 256)) := by decide +kernel
theorem rowF_pos {n : Int} (h : 0 < rowF n) : 8 ≤ n ∧ n ≤ 4096 := by
  unfold rowF at h
  by_cases h1 : rowP n
  · unfold rowP at h1; omega
  rw [if_neg h1] at h
  by_cases h2 : n = 1024
  · omega
  rw [if_neg h2] at h
  by_cases h3 : n = 2048
  · omega
  rw [if_neg h3] at h
  by_cases h4 : n = 4096
  · omega
  rw [if_neg h4] at h
  omega

theorem Tryz_ent147 : Ent Tryz.prog 147 := ent_of Tryz.func147 (by kernel_rfl) rfl
theorem row_spec (n : Int) (h : Hp) : CallsH Tryz.prog 147 [I n] h fun v' h' => v' = N (rowF n) ∧ h = h' := by
  (apply enter Tryz.func147 rfl Tryz.ntmps147 rfl)
  refine runJ ?_
  refine s_tcut (σ := Unit) (fun _ => [(0, I n), (3, .bool (decide (rowP n)))]) (fun _ h' => h = h') ?_ ?_
  · (apply s_splitG; exact rfl; exact rfl; exact rfl; exact rfl) <;> intro g1
    · refine runJ ?_
      (apply s_splitG; exact rfl; exact rfl; exact rfl; exact rfl) <;> intro g2
      · obtain ⟨m, rfl⟩ : ∃ m : Nat, n = (m : Int) := ⟨n.toNat, by omega⟩
        have hk := and_pow m (by omega) (by omega)
        refine runJ ?_
        apply cut_normal ()
        · exact Sub.cons rfl (Sub.consE rfl (dec_i (by unfold rowP; omega)) (Sub.nil _))
        · exact rfl
      · refine runJ ?_
        apply cut_normal ()
        · exact Sub.cons rfl (Sub.consE rfl (dec_f (by unfold rowP; omega)) (Sub.nil _))
        · exact rfl
    · refine runJ ?_
      apply cut_normal ()
      · exact Sub.cons rfl (Sub.consE rfl (dec_f (by unfold rowP; omega)) (Sub.nil _))
      · exact rfl
  rintro _ _ rfl
  (apply w_condD; exact rfl; exact rfl) <;> intro h0
  · refine runJ ?_
    exact fin1 rfl rfl ⟨by unfold rowF; rw [if_pos h0], rfl⟩
  refine runJ ?_
  (apply w_condD; exact rfl; exact rfl) <;> intro h1
  · refine runJ ?_
    exact fin1 rfl rfl ⟨by unfold rowF; rw [if_neg h0, if_pos h1], rfl⟩
  refine runJ ?_
  (apply w_condD; exact rfl; exact rfl) <;> intro h2
  · refine runJ ?_
    exact fin1 rfl rfl ⟨by unfold rowF; rw [if_neg h0, if_neg h1, if_pos h2], rfl⟩
  refine runJ ?_
  (apply w_condD; exact rfl; exact rfl) <;> intro h3
  · refine runJ ?_
    exact fin1 rfl rfl ⟨by unfold rowF; rw [if_neg h0, if_neg h1, if_neg h2, if_pos h3], rfl⟩
  refine runJ ?_
  exact fin1 rfl rfl ⟨by unfold rowF; rw [if_neg h0, if_neg h1, if_neg h2, if_neg h3], rfl⟩

theorem Tryz_ent52 : Ent Tryz.prog 52 := ent_of Tryz.func52 (by kernel_rfl) rfl
theorem top_spec (p : ParD) (h : Hp) (A : ParAt h p) : CallsH Tryz.prog 52 [.agg p.cells.toArray] h fun v' h' => v' = I ((p.q.length : Int) - 1) ∧ Ext h h' := by
  have hl := A.ln
  unfold ParD.cells
  (apply enter Tryz.func52 rfl Tryz.ntmps52 rfl)
  refine runJ ?_
  (apply s_box; exact rfl; exact rfl; exact rfl; exact rfl)
  intro p1 h1 x1 e1 b1
  (try dsimp only [Value.cells, List.toList_toArray] at x1)
  refine clsI ?_
  have s1 := A.row.ext e1
  refine runJ ?_
  exact fin1 rfl rfl ⟨rfl, e1⟩

def sizedP (p : ParD) : Prop := 0 < rowF p.n ∧ 1 ≤ p.w ∧ p.w ≤ 16
instance (p : ParD) : Decidable (sizedP p) := by unfold sizedP; exact inferInstance
def frP (n : Int) (q : Nat) : Prop := q % (2 * n.toNat) = 1 ∧ isB q = true
instance (n : Int) (q : Nat) : Decidable (frP n q) := by unfold frP; exact inferInstance
def plainP (p : ParD) : Prop := p.t < 1073741824 ∧ frP p.n p.t
instance (p : ParD) : Decidable (plainP p) := by unfold plainP; exact inferInstance
def primesP (p : ParD) : Prop := (∀ q ∈ p.q, q < 1125899906842624 ∧ q ≠ p.t ∧ frP p.n q) ∧ p.q.Nodup ∧ 0 < p.q.length ∧ p.q.length ≤ 8
instance (p : ParD) : Decidable (primesP p) := by unfold primesP; exact inferInstance
def shortP (p : ParD) : Prop := nb (prodL p.q) ≤ rowF p.n
instance (p : ParD) : Decidable (shortP p) := by unfold shortP; exact inferInstance
def parP (p : ParD) : Prop := sizedP p ∧ plainP p ∧ primesP p ∧ shortP p
instance (p : ParD) : Decidable (parP p) := by unfold parP; exact inferInstance

theorem Tryz_ent97 : Ent Tryz.prog 97 := ent_of Tryz.func97 (by kernel_rfl) rfl
theorem sized_spec (p : ParD) (h : Hp) : CallsH Tryz.prog 97 [.agg p.cells.toArray] h fun v' h' => v' = .bool (decide (sizedP p)) ∧ Ext h h' := by
  unfold ParD.cells
  (apply enter Tryz.func97 rfl Tryz.ntmps97 rfl)
  refine runJ ?_
  (apply s_box; exact rfl; exact rfl; exact rfl; exact rfl)
  intro p1 h1 x1 e1 b1
  (try dsimp only [Value.cells, List.toList_toArray] at x1)
  refine clsI ?_
  refine runJ ?_
  apply (s_call Tryz_ent147 rfl rfl rfl)
  refine (row_spec p.n h1).mono ?_
  rintro _ _ ⟨rfl, rfl⟩
  refine ⟨trivial, ?_⟩
  refine runJ ?_
  (apply s_splitG; exact rfl; exact rfl; exact rfl; exact rfl) <;> intro g1
  · refine runJ ?_
    (apply s_splitG; exact rfl; exact rfl; exact rfl; exact rfl) <;> intro g2
    · refine runJ ?_
      exact fin1 rfl rfl ⟨dec_i (by unfold sizedP; omega), e1⟩
    · refine runJ ?_
      exact fin1 rfl rfl ⟨dec_f (by unfold sizedP; omega), e1⟩
  · refine runJ ?_
    exact fin1 rfl rfl ⟨dec_f (by unfold sizedP; omega), e1⟩

theorem Tryz_ent148 : Ent Tryz.prog 148 := ent_of Tryz.func148 (by kernel_rfl) rfl
theorem friendly_spec (p : ParD) (q : Nat) (h : Hp) (T : TB h) (hn : 8 ≤ p.n ∧ p.n ≤ 4096) (hq : q < 18446744073709551616) :
    CallsH Tryz.prog 148 [.agg p.cells.toArray, U q] h fun v' h' => v' = .bool (decide (frP p.n q)) ∧ Ext h h' := by
  obtain ⟨n, t, vq, row, w⟩ := p
  obtain ⟨m, rfl⟩ : ∃ m : Nat, n = (m : Int) := ⟨n.toNat, by dsimp only at hn; omega⟩
  dsimp only at hn
  have hm : ¬ 2 * m = 0 := by omega
  unfold ParD.cells
  (apply enter Tryz.func148 rfl Tryz.ntmps148 rfl)
  refine runJ ?_
  (apply s_box; exact rfl; exact rfl; exact rfl; exact rfl)
  intro p1 h1 x1 e1 b1
  (try dsimp only [Value.cells, List.toList_toArray] at x1)
  refine clsI ?_
  refine runJ ?_
  (apply s_splitG; exact rfl; exact rfl; exact rfl; exact rfl) <;> intro g1
  · refine runJ ?_
    apply (s_call Tryz_ent161 rfl rfl rfl)
    refine (is_spec q h1 (T.ext e1) hq).mono ?_
    rintro _ h2 ⟨rfl, e2⟩
    refine ⟨trivial, ?_⟩
    refine runJ ?_
    exact fin1 rfl rfl ⟨by congr 1; unfold frP; simp [g1], e1.trans e2⟩
  · refine runJ ?_
    exact fin1 rfl rfl ⟨dec_f fun k => g1 k.1, e1⟩

theorem Tryz_ent98 : Ent Tryz.prog 98 := ent_of Tryz.func98 (by kernel_rfl) rfl
theorem plain_spec (p : ParD) (h : Hp) (T : TB h) (hn : 8 ≤ p.n ∧ p.n ≤ 4096) (ht : p.t < 18446744073709551616) :
    CallsH Tryz.prog 98 [.agg p.cells.toArray] h fun v' h' => v' = .bool (decide (plainP p)) ∧ Ext h h' := by
  have F := fun h T => friendly_spec p p.t h T hn ht
  unfold ParD.cells at F ⊢
  (apply enter Tryz.func98 rfl Tryz.ntmps98 rfl)
  refine runJ ?_
  (apply s_box; exact rfl; exact rfl; exact rfl; exact rfl)
  intro p1 h1 x1 e1 b1
  (try dsimp only [Value.cells, List.toList_toArray] at x1)
  refine clsI ?_
  refine runJ ?_
  (apply s_splitG; exact rfl; exact rfl; exact rfl; exact rfl) <;> intro g1
  · refine runJ ?_
    apply (s_call Tryz_ent148 rfl rfl rfl)
    refine (F h1 (T.ext e1)).mono ?_
    rintro _ h2 ⟨rfl, e2⟩
    refine ⟨trivial, ?_⟩
    refine runJ ?_
    exact fin1 rfl rfl ⟨dec_i (by unfold plainP; exact ⟨fun k => ⟨g1, k⟩, fun k => k.2⟩), e1.trans e2⟩
  · refine runJ ?_
    exact fin1 rfl rfl ⟨dec_f fun k => g1 k.1, e1⟩

theorem Tryz_ent99 : Ent Tryz.prog 99 := ent_of Tryz.func99 (by kernel_rfl) rfl
set_option maxHeartbeats 1000000 in
theorem primes_spec (p : ParD) (h : Hp) (T : TB h) (A : ParAt h p) (hn : 8 ≤ p.n ∧ p.n ≤ 4096) :
    CallsH Tryz.prog 99 [.agg p.cells.toArray] h fun v' h' => v' = .bool (decide (primesP p)) ∧ Ext h h' := by
  have F := fun q hq h T => friendly_spec p q h T hn hq
  have hl := A.ln
  have ht := A.t64
  unfold ParD.cells at F ⊢
  (apply enter Tryz.func99 rfl Tryz.ntmps99 rfl)
  refine runJ ?_
  (apply s_box; exact rfl; exact rfl; exact rfl; exact rfl)
  intro p1 h1 x1 e1 b1
  (try dsimp only [Value.cells, List.toList_toArray] at x1)
  refine clsI ?_
  have s1 := A.row.ext e1
  refine runJ ?_
  (first | (apply w_seqB; exact rfl; apply w_block; exact rfl) | skip)
  apply (w_loop (σ := Nat) rfl (fun j => [(1, p1), (7, p.vq), (8, N p.q.length), (9, N j)])
    (fun j h' => Ext h1 h' ∧ j ≤ p.q.length ∧ (∀ q ∈ p.q.take j, q < 1125899906842624 ∧ q ≠ p.t ∧ frP p.n q) ∧ (p.q.take j).Nodup) (fun j => p.q.length - j) 0)
  · exact subs
  · exact ⟨Ext.refl _, Nat.zero_le _, by simp, by simp⟩
  rintro j h2 ⟨e2, j1, j2, j3⟩
  have s2 := s1.ext e2
  have x2 := x1.ext e2
  refine runJ ?_
  (apply w_condD; exact rfl; exact rfl) <;> intro hj
  · obtain ⟨q, hq⟩ := get_lt hj
    have hqm := List.mem_of_getElem? hq
    have hq64 := A.al q hqm
    have c1 := s2.cut (lo := 0) (hi := j) (Nat.zero_le _) j1
    rw [List.drop_zero, Nat.sub_zero] at c1
    have hll : (p.q.take j).length < 4611686018427387904 := by rw [List.length_take]; omega
    refine runJ ?_
    (apply s_splitG; exact rfl; exact rfl; exact rfl; exact rfl) <;> intro g1
    · refine runJ ?_
      exact fin1 rfl rfl ⟨dec_f fun k => by have := (k.1 q hqm).1; omega, e1.trans e2⟩
    refine runJ ?_
    (apply s_splitG; exact rfl; exact rfl; exact rfl; exact rfl) <;> intro g2
    · refine runJ ?_
      exact fin1 rfl rfl ⟨dec_f fun k => (k.1 q hqm).2.1 g2, e1.trans e2⟩
    refine runJ ?_
    apply (s_call Tryz_ent129 rfl rfl rfl)
    refine (contains_spec _ (p.q.take j) q h2 c1 hll).mono ?_
    rintro _ _ ⟨rfl, rfl⟩
    refine ⟨trivial, ?_⟩
    refine runJ ?_
    (apply s_splitG; exact rfl; exact rfl; exact rfl; exact rfl) <;> intro g3
    · refine runJ ?_
      exact fin1 rfl rfl ⟨dec_f fun k => not_nodup_at hq g3 k.2.1, e1.trans e2⟩
    refine runJ ?_
    apply (s_call Tryz_ent148 rfl rfl rfl)
    refine (F q hq64 h2 (T.ext (e1.trans e2))).mono ?_
    rintro _ h3 ⟨rfl, e3⟩
    refine ⟨trivial, ?_⟩
    refine runJ ?_
    (apply w_cond; exact rfl; exact rfl) <;> intro g4
    · have g4 : ¬ frP p.n q := by simpa using g4
      refine runJ ?_
      exact fin1 rfl rfl ⟨dec_f fun k => g4 (k.1 q hqm).2.2, (e1.trans e2).trans e3⟩
    · have g4 : frP p.n q := by simpa using g4
      refine runJ ?_
      apply again_normal (j + 1)
      · exact subs
      · refine ⟨e2.trans e3, hj, ?_, ?_⟩
        · rw [take_snoc hq]
          intro y hy
          rcases List.mem_append.1 hy with hy | hy
          · exact j2 y hy
          · simp only [List.mem_singleton] at hy; subst hy; exact ⟨by omega, g2, g4⟩
        · rw [take_snoc hq]; exact nodup_snoc j3 g3
      · omega
  · rw [List.take_of_length_le (by omega)] at j2 j3
    refine runJ ?_
    (apply s_splitG; exact rfl; exact rfl; exact rfl; exact rfl) <;> intro g1
    · refine runJ ?_
      exact fin1 rfl rfl ⟨dec_i ⟨fun k => ⟨j2, j3, by omega, by omega⟩, fun k => by have := k.2.2; omega⟩, e1.trans e2⟩
    · refine runJ ?_
      exact fin1 rfl rfl ⟨dec_f fun k => by have := k.2.2; omega, e1.trans e2⟩

theorem Tryz_ent100 : Ent Tryz.prog 100 := ent_of Tryz.func100 (by kernel_rfl) rfl
theorem short_spec (p : ParD) (h : Hp) (A : ParAt h p) (h0 : 0 < p.q.length) (h8 : p.q.length ≤ 8) :
    CallsH Tryz.prog 100 [.agg p.cells.toArray] h fun v' h' => v' = .bool (decide (shortP p)) ∧ Ext h h' := by
  have hne : p.q ≠ [] := by intro e; rw [e] at h0; simp at h0
  have F := fun h s => product_spec p.vq p.q h s A.al (by omega)
  simp only [hne, if_false] at F
  have hdl : (dg 18446744073709551616 (prodL p.q)).length < 1099511627776 := by
    have := dg_len (b := 18446744073709551616) (n := prodL p.q) (k := p.q.length + 1) (by decide) (prodL_lt A.al)
    omega
  unfold ParD.cells
  (apply enter Tryz.func100 rfl Tryz.ntmps100 rfl)
  refine runJ ?_
  (apply s_box; exact rfl; exact rfl; exact rfl; exact rfl)
  intro p1 h1 x1 e1 b1
  (try dsimp only [Value.cells, List.toList_toArray] at x1)
  refine clsI ?_
  have s1 := A.row.ext e1
  refine runJ ?_
  apply (s_call Tryz_ent61 rfl rfl rfl)
  refine (F h1 s1).mono ?_
  rintro w1 h2 ⟨e2, o2⟩
  refine ⟨(by first | exact trivial | exact e2), ?_⟩
  have B := bits_spec w1 _ h2 o2.sl (al_dg (by decide) _) hdl
  rw [vl_dg (by decide)] at B
  have x2 := x1.ext e2
  refine runJ ?_
  apply (s_call Tryz_ent149 rfl rfl rfl)
  refine (B).mono ?_
  rintro _ _ ⟨rfl, rfl⟩
  refine ⟨(by first | exact trivial | exact e2), ?_⟩
  refine runJ ?_
  apply (s_call Tryz_ent147 rfl rfl rfl)
  refine (row_spec p.n h2).mono ?_
  rintro _ _ ⟨rfl, rfl⟩
  refine ⟨(by first | exact trivial | exact e2), ?_⟩
  refine runJ ?_
  exact fin1 rfl rfl ⟨rfl, e1.trans e2⟩

def askF : Nat → FuncId
  | 0 => 97
  | 1 => 98
  | 2 => 99
  | _ => 100
abbrev askV (cs : List Value) (j : Nat) : Value := .func (.func (askF j)) #[.agg cs.toArray] #[]
def askP (p : ParD) : Nat → Prop
  | 0 => sizedP p
  | 1 => plainP p
  | 2 => primesP p
  | _ => shortP p
theorem parP_of {p : ParD} (h : ∀ j, j < 4 → askP p j) : parP p := ⟨h 0 (by decide), h 1 (by decide), h 2 (by decide), h 3 (by decide)⟩

theorem Tryz_ent45 : Ent Tryz.prog 45 := ent_of Tryz.func45 (by kernel_rfl) rfl
set_option maxHeartbeats 1000000 in
theorem check_spec (p : ParD) (h : Hp) (T : TB h) (A : ParAt h p) :
    CallsH Tryz.prog 45 [.agg p.cells.toArray] h fun v' h' => v' = N (if parP p then 0 else 8) ∧ Ext h h' := by
  have F0 := fun h => sized_spec p h
  have F1 := fun h T hn => plain_spec p h T hn A.t64
  have F2 := fun h T A hn => primes_spec p h T A hn
  have F3 := fun h A h0 h8 => short_spec p h A h0 h8
  unfold ParD.cells at F0 F1 F2 F3 ⊢
  (apply enter Tryz.func45 rfl Tryz.ntmps45 rfl)
  refine runJ ?_
  (apply s_box; exact rfl; exact rfl; exact rfl; exact rfl)
  intro p1 h1 x1 e1 b1
  (try dsimp only [Value.cells, List.toList_toArray] at x1)
  refine clsI ?_
  refine runJ ?_
  (apply (s_build ([I p.n, U p.t, p.vq, I p.w])); exact rfl; exact rfl; exact rfl; (repeat (first | exact CellsAll.nil | (apply CellsAll.cons; (first | exact oneL (by assumption) | exact oneL (SlF.one (by assumption)) | exact oneL (SlF.one (OwnF.sl (by assumption))) | exact oneL (Var.one (by assumption)) | exact rfl)))); exact rfl; exact rfl)
  refine runJ ?_
  (apply s_alloc; exact rfl; exact rfl; exact rfl)
  intro p2 h2 x2 e2 b2
  (try dsimp only [Value.cells, List.toList_toArray] at x2)
  refine clsI ?_
  refine runJ ?_
  have s0 := A.row
  (apply s_storeV; exact rfl; exact rfl; exact rfl; (repeat (first | exact OneAll.nil | (apply OneAll.cons; (first | exact rfl | exact SlF.one (by assumption) | exact SlF.one (OwnF.sl (by assumption)) | exact Var.one (by assumption))))); exact rfl; exact rfl; exact x2; exact rfl)
  intro h3 x3 k3
  (try dsimp only [Value.cells, List.toList_toArray] at x3)
  refine ⟨(by first | exact trivial | exact Ext.refl _ | assumption | exact Ext.only (by assumption) _ | exact Only.trans (Ext.only (by assumption) _) (by assumption)), ?_⟩
  have e3 : Ext h h3 := k3.oldV (e1.trans e2) b2 e1.1
  refine runJ ?_
  (apply (s_litF (f := askV [I p.n, U p.t, p.vq, I p.w]) [0, 1, 2, 3] (fun _ => rfl)); exact rfl; exact rfl; exact rfl; exact rfl; exact rfl; exact rfl; exact rfl; exact rfl; omega)
  intro v4 h4 o4 e4 b4
  refine clsI ?_
  have e34 := e3.trans e4
  have s4 := o4.sl
  refine runJ ?_
  (first | (apply w_seqB; exact rfl; apply w_block; exact rfl) | skip)
  apply (w_loop (σ := Nat) rfl (fun j => [(16, v4), (17, N 4), (18, N j)])
    (fun j h' => Ext h4 h' ∧ j ≤ 4 ∧ ∀ i, i < j → askP p i) (fun j => 4 - j) 0)
  · exact subs
  · exact ⟨Ext.refl _, Nat.zero_le _, fun i hi => absurd hi (Nat.not_lt_zero _)⟩
  rintro j h5 ⟨e5, j1, j2⟩
  have e45 := e34.trans e5
  have s5 := s4.ext e5
  have A5 := A.ext e45
  have T5 := T.ext e45
  refine runJ ?_
  (apply w_condD; exact rfl; exact rfl) <;> intro hj
  · rcases (show j = 0 ∨ j = 1 ∨ j = 2 ∨ j = 3 by omega) with rfl | rfl | rfl | rfl
    · have hr : [0, 1, 2, 3][0]? = some 0 := rfl
      refine runJ ?_
      refine s_callV rfl Tryz_ent97 rfl rfl rfl ?_
      refine (F0 h5).mono ?_
      rintro _ h6 ⟨rfl, e6⟩
      refine ⟨trivial, ?_⟩
      refine runJ ?_
      (apply w_cond; exact rfl; exact rfl) <;> intro g
      · have g : ¬ sizedP p := by simpa using g
        refine runJ ?_
        exact fin1 rfl rfl ⟨by rw [if_neg fun k => g k.1], e45.trans e6⟩
      · have g : sizedP p := by simpa using g
        refine runJ ?_
        apply again_normal 1
        · exact subs
        · exact ⟨e5.trans e6, by decide, fun i hi => by obtain rfl : i = 0 := by omega
                                                        exact g⟩
        · decide
    · have hn := rowF_pos (j2 0 (by decide)).1
      have hr : [0, 1, 2, 3][1]? = some 1 := rfl
      refine runJ ?_
      refine s_callV rfl Tryz_ent98 rfl rfl rfl ?_
      refine (F1 h5 T5 hn).mono ?_
      rintro _ h6 ⟨rfl, e6⟩
      refine ⟨trivial, ?_⟩
      refine runJ ?_
      (apply w_cond; exact rfl; exact rfl) <;> intro g
      · have g : ¬ plainP p := by simpa using g
        refine runJ ?_
        exact fin1 rfl rfl ⟨by rw [if_neg fun k => g k.2.1], e45.trans e6⟩
      · have g : plainP p := by simpa using g
        refine runJ ?_
        apply again_normal 2
        · exact subs
        · exact ⟨e5.trans e6, by decide, fun i hi => by
            rcases (show i < 1 ∨ i = 1 by omega) with hi | rfl
            · exact j2 i hi
            · exact g⟩
        · decide
    · have hn := rowF_pos (j2 0 (by decide)).1
      have hr : [0, 1, 2, 3][2]? = some 2 := rfl
      refine runJ ?_
      refine s_callV rfl Tryz_ent99 rfl rfl rfl ?_
      refine (F2 h5 T5 A5 hn).mono ?_
      rintro _ h6 ⟨rfl, e6⟩
      refine ⟨trivial, ?_⟩
      refine runJ ?_
      (apply w_cond; exact rfl; exact rfl) <;> intro g
      · have g : ¬ primesP p := by simpa using g
        refine runJ ?_
        exact fin1 rfl rfl ⟨by rw [if_neg fun k => g k.2.2.1], e45.trans e6⟩
      · have g : primesP p := by simpa using g
        refine runJ ?_
        apply again_normal 3
        · exact subs
        · exact ⟨e5.trans e6, by decide, fun i hi => by
            rcases (show i < 2 ∨ i = 2 by omega) with hi | rfl
            · exact j2 i hi
            · exact g⟩
        · decide
    · have hp : primesP p := j2 2 (by decide)
      have hr : [0, 1, 2, 3][3]? = some 3 := rfl
      refine runJ ?_
      refine s_callV rfl Tryz_ent100 rfl rfl rfl ?_
      refine (F3 h5 A5 hp.2.2.1 hp.2.2.2).mono ?_
      rintro _ h6 ⟨rfl, e6⟩
      refine ⟨trivial, ?_⟩
      refine runJ ?_
      (apply w_cond; exact rfl; exact rfl) <;> intro g
      · have g : ¬ shortP p := by simpa using g
        refine runJ ?_
        exact fin1 rfl rfl ⟨by rw [if_neg fun k => g k.2.2.2], e45.trans e6⟩
      · have g : shortP p := by simpa using g
        refine runJ ?_
        apply again_normal 4
        · exact subs
        · exact ⟨e5.trans e6, by decide, fun i hi => by
            rcases (show i < 3 ∨ i = 3 by omega) with hi | rfl
            · exact j2 i hi
            · exact g⟩
        · decide
  · obtain rfl : j = 4 := by omega
    refine runJ ?_
    exact fin1 rfl rfl ⟨by rw [if_pos (parP_of j2)], e45⟩

def levE (p : ParD) (l : Int) : Nat := if parP p then (if l < 0 ∨ (p.q.length : Int) ≤ l then 10 else 0) else 8
def levM (p : ParD) (l : Int) : Nat := prodL (p.q.take (l.toNat + 1))
theorem al_take {b : Nat} {xs : List Nat} (h : Al b xs) (n : Nat) : Al b (xs.take n) := fun x hx => h x (List.mem_of_mem_take hx)

theorem Tryz_ent158 : Ent Tryz.prog 158 := ent_of Tryz.func158 (by kernel_rfl) rfl
set_option maxHeartbeats 1000000 in
theorem modulus_spec (p : ParD) (l : Int) (h : Hp) (T : TB h) (A : ParAt h p) (hlo : -9223372036854775808 ≤ l) (hhi : l < 9223372036854775808) :
    CallsH Tryz.prog 158 [.agg p.cells.toArray, I l] h fun v' h' => Ext h h' ∧ ∃ q, v' = .tuple #[q, N (levE p l)] ∧ OwnF h' h.size 26 U q (if levE p l = 0 then dg 18446744073709551616 (levM p l) else []) := by
  have F := fun h T A => check_spec p h T A
  have hln := A.ln
  unfold ParD.cells at F ⊢
  (apply enter Tryz.func158 rfl Tryz.ntmps158 rfl)
  refine runJ ?_
  (apply s_box; exact rfl; exact rfl; exact rfl; exact rfl)
  intro p1 h1 x1 e1 b1
  (try dsimp only [Value.cells, List.toList_toArray] at x1)
  refine clsI ?_
  refine runJ ?_
  apply (s_call Tryz_ent45 rfl rfl rfl)
  refine (F h1 (T.ext e1) (A.ext e1)).mono ?_
  rintro _ h2 ⟨rfl, e2⟩
  refine ⟨trivial, ?_⟩
  have e12 := e1.trans e2
  have x2 := x1.ext e2
  have s2 := A.row.ext e12
  by_cases hp : parP p
  · rw [if_pos hp]
    refine runJ ?_
    refine s_tcut (σ := Unit) (fun _ => [(1, I l), (2, p1), (10, .bool (decide (l < 0 ∨ (p.q.length : Int) ≤ l)))]) (fun _ h' => h2 = h') ?_ ?_
    · (apply s_splitG; exact rfl; exact rfl; exact rfl; exact rfl) <;> intro g
      · refine runJ ?_
        apply cut_normal ()
        · exact Sub.cons rfl (Sub.cons rfl (Sub.consE rfl (dec_t (by omega)) (Sub.nil _)))
        · exact rfl
      · refine runJ ?_
        apply cut_normal ()
        · exact Sub.cons rfl (Sub.cons rfl (Sub.consE rfl (dec_i (by omega)) (Sub.nil _)))
        · exact rfl
    rintro _ _ rfl
    (apply w_condD; exact rfl; exact rfl) <;> intro h0
    · have hE : levE p l = 10 := by unfold levE; rw [if_pos hp, if_pos h0]
      rw [hE]
      refine runJ ?_
      exact fin2 rfl rfl rfl ⟨e12, _, rfl, by rw [if_neg (by decide)]; exact OwnF.nil _ _ _ _⟩
    · have hE : levE p l = 0 := by unfold levE; rw [if_pos hp, if_neg h0]
      rw [hE]
      obtain ⟨m, rfl⟩ : ∃ m : Nat, l = (m : Int) := ⟨l.toNat, by omega⟩
      have c2 := s2.cut (lo := 0) (hi := m + 1) (Nat.zero_le _) (by omega)
      rw [List.drop_zero, Nat.sub_zero] at c2
      have hne : p.q.take (m + 1) ≠ [] := by
        intro e
        have hpos : 0 < (p.q.take (m + 1)).length := by rw [List.length_take]; omega
        rw [e] at hpos
        exact absurd hpos (Nat.lt_irrefl 0)
      have G := product_spec _ (p.q.take (m + 1)) h2 c2 (al_take A.al _) (by have := hp.2.2.1.2.2.2; rw [List.length_take]; omega)
      simp only [hne, if_false] at G
      refine runJ ?_
      apply (s_call Tryz_ent61 rfl rfl rfl)
      refine (G).mono ?_
      rintro w1 h3 ⟨e3, o3⟩
      refine ⟨trivial, ?_⟩
      refine runJ ?_
      exact fin2 rfl rfl rfl ⟨e12.trans e3, _, rfl, by rw [if_pos rfl]; exact o3.base e12.1⟩
  · have hE : levE p l = 8 := by unfold levE; rw [if_neg hp]
    rw [if_neg hp, hE]
    refine runJ ?_
    exact fin2 rfl rfl rfl ⟨e12, _, rfl, by rw [if_neg (by decide)]; exact OwnF.nil _ _ _ _⟩

theorem Tryz_ent115 : Ent Tryz.prog 115 := ent_of Tryz.func115 (by kernel_rfl) rfl
set_option maxHeartbeats 1000000 in
theorem step_spec (p : ParD) (l : Int) (h : Hp) (T : TB h) (A : ParAt h p) (hlo : -9223372036854775808 ≤ l) (hhi : l < 9223372036854775808) :
    CallsH Tryz.prog 115 [.agg p.cells.toArray, I l] h fun v' h' => Ext h h' ∧ ∃ s, v' = .tuple #[s, U (if levE p l = 0 then levM p l % p.t else 0), N (levE p l)] ∧ OwnF h' h.size 26 U s (if levE p l = 0 then dg 18446744073709551616 (levM p l / p.t) else []) := by
  have F := fun h T A => modulus_spec p l h T A hlo hhi
  have hln := A.ln
  have ht := A.t64
  have b64 : (1 : Nat) < 18446744073709551616 := by decide
  have b640 : (0 : Nat) < 18446744073709551616 := by decide
  unfold ParD.cells at F ⊢
  (apply enter Tryz.func115 rfl Tryz.ntmps115 rfl)
  refine runJ ?_
  (apply s_box; exact rfl; exact rfl; exact rfl; exact rfl)
  intro p1 h1 x1 e1 b1
  (try dsimp only [Value.cells, List.toList_toArray] at x1)
  refine clsI ?_
  refine runJ ?_
  apply (s_call Tryz_ent158 rfl rfl rfl)
  refine (F h1 (T.ext e1) (A.ext e1)).mono ?_
  rintro _ h2 ⟨e2, q, rfl, oq⟩
  refine ⟨trivial, ?_⟩
  have e12 := e1.trans e2
  have x2 := x1.ext e2
  by_cases hE : levE p l = 0
  · rw [hE] at oq ⊢
    rw [if_pos rfl] at oq
    have hp : parP p := by
      unfold levE at hE
      by_cases hp : parP p
      · exact hp
      · rw [if_neg hp] at hE; omega
    have ht0 : ¬ p.t = 0 := by
      intro e
      have := hp.2.1.2.1
      rw [e, Nat.zero_mod] at this
      omega
    have hML : (dg 18446744073709551616 (levM p l)).length < 1099511627776 := by
      have h1 := dg_len (b := 18446744073709551616) (n := levM p l) (k := (p.q.take (l.toNat + 1)).length + 1) (by decide) (prodL_lt (al_take A.al _))
      have h2 := hp.2.2.1.2.2.2
      rw [List.length_take] at h1
      omega
    refine runJ ?_
    apply (s_call Tryz_ent64 rfl rfl rfl)
    refine (of_spec p.t h2 ht).mono ?_
    rintro w1 h3 ⟨e3, o3⟩
    refine ⟨trivial, ?_⟩
    have hdl : (dg 18446744073709551616 p.t).length ≤ 1 := dg_len (by decide) (by omega)
    have x3 := x2.ext e3
    have D := ndiv_spec q w1 _ _ h3 (oq.sl.ext e3) o3.sl (al_dg b640 _) (al_dg b640 _) hML (by omega)
    rw [vl_dg b64, vl_dg b64] at D
    refine runJ ?_
    apply (s_call Tryz_ent123 rfl rfl rfl)
    refine (D).mono ?_
    rintro _ h4 ⟨s, r, rfl, e4, os, or⟩
    refine ⟨trivial, ?_⟩
    have x4 := x3.ext e4
    have e14 := (e12.trans e3).trans e4
    simp only [ht0, if_false] at or ⊢
    have hRL : (dg 18446744073709551616 (levM p l % p.t)).length < 1099511627776 := by
      have := dg_len (b := 18446744073709551616) (n := levM p l % p.t) (k := 1) (by decide) (by have := Nat.mod_lt (levM p l) (Nat.pos_of_ne_zero ht0); omega)
      omega
    have M := mod_spec r _ p.t h4 or.sl (al_dg b640 _) hRL ht
    rw [vl_dg b64] at M
    simp only [ht0, if_false, Nat.mod_mod] at M
    refine runJ ?_
    apply (s_call Tryz_ent65 rfl rfl rfl)
    refine (M).mono ?_
    rintro _ h5 ⟨rfl, e5⟩
    refine ⟨trivial, ?_⟩
    refine runJ ?_
    exact fin3 rfl rfl rfl rfl ⟨e14.trans e5, _, rfl, (os.ext e5).base (Nat.le_trans e12.1 e3.1)⟩
  · refine runJ ?_
    (apply w_condT; exact rfl; exact rfl; exact hE)
    refine runJ ?_
    exact fin3 rfl rfl rfl rfl ⟨e12, _, by rw [if_neg hE], by rw [if_neg hE]; exact OwnF.nil _ _ _ _⟩

structure ParA0 (h : Hp) (p : ParD) : Prop where mk ::
  row : SlF h U p.vq p.q
  al : Al 18446744073709551616 p.q
  t64 : p.t < 18446744073709551616
  ln : p.q.length < 9223372036854775808

theorem par0 (w : Value) : ¬ parP ⟨0, 0, w, [], 0⟩ := (by decide +kernel : ¬ parP ⟨0, 0, .bool false, [], 0⟩)

def sameP (a b : ParD) : Prop := a.n = b.n ∧ a.t = b.t ∧ a.w = b.w ∧ a.q = b.q
instance (a b : ParD) : Decidable (sameP a b) := by unfold sameP; exact inferInstance
theorem ParA0.ext {h h' : Hp} {p : ParD} (s : ParA0 h p) (e : Ext h h') : ParA0 h' p := ⟨s.row.ext e, s.al, s.t64, s.ln⟩

end Go.Proofs.YtfcmdefigldpnaaGreatDoor


namespace Go.Proofs.YtfcmdefigldpnaaGreatDoor
set_option linter.unusedVariables false
set_option maxRecDepth 8000
open Go Go.Den Go.RowKit Go.Mth

theorem dft_inj {t : Tbl} (K : TblOk t) {xs ys : List Nat} (hx : Fit (2 ^ t.L) t.q xs) (hy : Fit (2 ^ t.L) t.q ys) (h : ∀ k, k < 2 ^ t.L → Cg t.q (dft (2 ^ t.L) t.w (gt xs) k) (dft (2 ^ t.L) t.w (gt ys) k)) : xs = ys :=
  lists_cg (by rw [hx.1, hy.1]) hx.2 hy.2 fun p hp => by
    have hp' : p < 2 ^ t.L := by rw [← hx.1]; exact hp
    have h1 := idft_dft K.cw K.cuw K.cp (gt xs) hp'
    have h2 := idft_dft K.cw K.cuw K.cp (gt ys) hp'
    exact h1.symm.trans ((idft_cg (fun j hj => h j hj) p).trans h2)
theorem prd_eq {t : Tbl} (K : TblOk t) {xs ys rs zs : List Nat} (h : Prd t xs ys rs) (hz : Fit (2 ^ t.L) t.q zs) (e : ∀ k, k < 2 ^ t.L → Cg t.q (dft (2 ^ t.L) t.w (gt zs) k) (dft (2 ^ t.L) t.w (gt xs) k * dft (2 ^ t.L) t.w (gt ys) k)) : rs = zs :=
  dft_inj K h.1 hz fun k hk => (h.2 k hk).trans (e k hk).symm

end Go.Proofs.YtfcmdefigldpnaaGreatDoor

