/- Vector programs: the reference's number in one slot. No condition. -/
import Derived.Test.YthgpgccmhohfbaaVecN
namespace Go.Proofs.Ythgpgccmhohfbaa
set_option linter.unusedVariables false
open Go Go.Den Go.RowKit

theorem kn_at {kn : List (Value × List Nat)} {a : Nat} {r : Value × List Nat} {q : List Nat} (h : kn[a]? = some r) (h2 : (kn.map (·.2))[a]? = some q) : q = r.2 := by
  rw [List.getElem?_map, h] at h2
  cases h2; rfl

theorem Try_ent19 : Ent Try.prog 19 := ent_of Try.func19 (by kernel_rfl) rfl
set_option maxHeartbeats 4000000 in
theorem at_spec (op to a b k i0 : Nat) (row : List Nat) (D : MachD) (vO : Value) (out : List (Value × List Int)) (h : Hp) (s : VecAt h D.V) (hs : D.V.slots = D.s) (hs64 : D.s ≤ 64) (so : SlF h Prod.fst vO out) (sor : ∀ x ∈ out, SlF h I x.1 x.2)
    (sn : SlF h Prod.fst D.vN D.ir) (snr : ∀ x ∈ D.ir, SlF h I x.1 x.2) (K : KnT D.s D.t (D.kn.map (·.2)) out) (ht : 2 ≤ D.t) (ht2 : D.t ≤ 1073741824) (hirb : ∀ x ∈ D.ir, ∀ z ∈ x.2, ib z) (hplb : ∀ x ∈ D.V.pls, ∀ z ∈ x.2, ib z) (hinl : ∀ x ∈ D.V.ins, x.sl.length ≤ 100)
    (hpl : ∀ x ∈ D.V.ins, placesP x.sl D.s) (hi : i0 < D.s) (hab : op ≠ 1 → op ≠ 2 → a < D.kn.length ∧ b < D.kn.length) (hk8 : op = 8 → k < D.s) (S : StepR D op a b k row) :
    CallsH Try.prog 19 [.agg D.V.cells.toArray, .agg #[N op, N to, N a, N b, N k], N i0, vO, D.vN, U D.t] h fun v' h' => Ext h h' ∧ ∃ y, v' = U y ∧ row[i0]? = some y ∧ y < 18446744073709551616 := by
  have htt : D.t < 18446744073709551616 := by omega
  have hknl : (D.kn.map (·.2)).length = D.kn.length := by simp
  unfold VecD.cells
  rw [hs]
  rcases S with ⟨x0, r, rfl, hin, hr, hl, hp⟩ | ⟨pl, rfl, hk, hl⟩ | ⟨r, rfl, hk, hkk⟩ | ⟨ra, rb, rfl, ha, hb⟩ | ⟨ra, rb, rfl, ha, hb⟩ | ⟨ra, pl, rfl, ha, hk, hl⟩ | ⟨ra, pl, rfl, ha, hk, hl⟩
  · (apply enter Try.func19 rfl Try.ntmps19 rfl)
    refine runJ ?_
    (apply s_box; exact rfl; exact rfl; exact rfl; exact rfl)
    intro p6 h1 x1 e1 b1
    (try dsimp only [Value.cells, List.toList_toArray] at x1)
    refine ⟨(by first | exact trivial | exact Ext.refl _ | assumption | exact Ext.trans (by assumption) (by assumption)), ?_⟩
    refine runJ ?_
    (apply s_box; exact rfl; exact rfl; exact rfl; exact rfl)
    intro p7 h2 x2 e2 b2
    (try dsimp only [Value.cells, List.toList_toArray] at x2)
    refine ⟨(by first | exact trivial | exact Ext.refl _ | assumption | exact Ext.trans (by assumption) (by assumption)), ?_⟩
    have x12 := x1.ext e2
    have e12 := e1.trans e2
    have s2 := s.ext e12
    have so2 := so.ext e12
    have sn2 := sn.ext e12
    have hm := List.mem_of_getElem? hin
    have l1 := s2.ins
    have l2 := s2.inr x0 hm
    have l4 := (snr r (List.mem_of_getElem? hr)).ext e12
    have hxl := hinl x0 hm
    have hpp := hpl x0 hm
    unfold InD.cells at l1
    refine runJ ?_
    (first | (apply w_seqB; exact rfl; apply w_block; exact rfl) | skip)
    apply (w_loop (σ := Nat) rfl (fun j => [(2, N i0), (4, D.vN), (5, U D.t), (7, p7), (61, x0.v), (62, N x0.sl.length), (63, N j)])
      (fun j h' => h2 = h' ∧ j ≤ x0.sl.length ∧ (i0 : Int) ∉ x0.sl.take j) (fun j => x0.sl.length - j) 0)
    · exact (Sub.cons rfl (Sub.cons rfl (Sub.cons rfl (Sub.cons rfl (Sub.cons rfl (Sub.cons rfl (Sub.cons rfl (Sub.nil _))))))))
    · exact ⟨rfl, Nat.zero_le _, by simp⟩
    rintro j h' ⟨rfl, j1, j2⟩
    refine runJ ?_
    (apply w_condD; exact rfl; exact rfl) <;> intro hj
    · obtain ⟨z, hz⟩ := get_lt hj
      obtain ⟨y, hy⟩ := get_lt (l := r.2) (j := j) (by omega)
      have hyb := hirb r (List.mem_of_getElem? hr) y (List.mem_of_getElem? hy)
      refine runJ ?_
      (apply w_condD; exact rfl; exact rfl) <;> intro hzi
      · subst hzi
        refine runJ ?_
        apply (s_call Try_ent13 rfl rfl rfl)
        refine (refLift_spec y D.t h2 hyb htt).mono ?_
        rintro _ _ ⟨rfl, rfl⟩
        refine ⟨(by first | exact trivial | exact Ext.refl _ | assumption | exact Ext.trans (by assumption) (by assumption)), ?_⟩
        refine runJ ?_
        exact fin1 rfl rfl ⟨e12, _, rfl, inputN_hit hpp hl hz hy, liftm_lt' htt⟩
      · refine runJ ?_
        apply again_normal (j + 1)
        · exact (Sub.cons rfl (Sub.cons rfl (Sub.cons rfl (Sub.cons rfl (Sub.cons rfl (Sub.cons rfl (Sub.cons rfl (Sub.nil _))))))))
        · refine ⟨rfl, hj, ?_⟩
          rw [take_snoc hz]
          intro hm
          rcases List.mem_append.1 hm with hm | hm
          · exact j2 hm
          · simp only [List.mem_singleton] at hm; exact hzi hm.symm
        · omega
    · rw [List.take_of_length_le (by omega)] at j2
      refine runJ ?_
      exact fin1 rfl rfl ⟨e12, 0, rfl, inputN_miss hpp hi j2, by omega⟩
  · (apply enter Try.func19 rfl Try.ntmps19 rfl)
    refine runJ ?_
    (apply s_box; exact rfl; exact rfl; exact rfl; exact rfl)
    intro p6 h1 x1 e1 b1
    (try dsimp only [Value.cells, List.toList_toArray] at x1)
    refine ⟨(by first | exact trivial | exact Ext.refl _ | assumption | exact Ext.trans (by assumption) (by assumption)), ?_⟩
    refine runJ ?_
    (apply s_box; exact rfl; exact rfl; exact rfl; exact rfl)
    intro p7 h2 x2 e2 b2
    (try dsimp only [Value.cells, List.toList_toArray] at x2)
    refine ⟨(by first | exact trivial | exact Ext.refl _ | assumption | exact Ext.trans (by assumption) (by assumption)), ?_⟩
    have x12 := x1.ext e2
    have e12 := e1.trans e2
    have s2 := s.ext e12
    have so2 := so.ext e12
    have sn2 := sn.ext e12
    have l1 := s2.pls
    have hm := List.mem_of_getElem? hk
    have l2 := s2.plr pl hm
    refine runJ ?_
    (apply w_condD; exact rfl; exact rfl) <;> intro hlen
    · obtain ⟨y, hy⟩ := get_lt hlen
      have hyb := hplb pl hm y (List.mem_of_getElem? hy)
      refine runJ ?_
      apply (s_call Try_ent13 rfl rfl rfl)
      refine (refLift_spec y D.t h2 hyb htt).mono ?_
      rintro _ _ ⟨rfl, rfl⟩
      refine ⟨(by first | exact trivial | exact Ext.refl _ | assumption | exact Ext.trans (by assumption) (by assumption)), ?_⟩
      refine runJ ?_
      exact fin1 rfl rfl ⟨e12, _, rfl, rowN_at hy, liftm_lt' htt⟩
    · refine runJ ?_
      exact fin1 rfl rfl ⟨e12, 0, rfl, rowN_out hi hlen, by omega⟩
  · (apply enter Try.func19 rfl Try.ntmps19 rfl)
    refine runJ ?_
    (apply s_box; exact rfl; exact rfl; exact rfl; exact rfl)
    intro p6 h1 x1 e1 b1
    (try dsimp only [Value.cells, List.toList_toArray] at x1)
    refine ⟨(by first | exact trivial | exact Ext.refl _ | assumption | exact Ext.trans (by assumption) (by assumption)), ?_⟩
    refine runJ ?_
    (apply s_box; exact rfl; exact rfl; exact rfl; exact rfl)
    intro p7 h2 x2 e2 b2
    (try dsimp only [Value.cells, List.toList_toArray] at x2)
    refine ⟨(by first | exact trivial | exact Ext.refl _ | assumption | exact Ext.trans (by assumption) (by assumption)), ?_⟩
    have x12 := x1.ext e2
    have e12 := e1.trans e2
    have s2 := s.ext e12
    have so2 := so.ext e12
    have sn2 := sn.ext e12
    obtain ⟨h1a, h1b⟩ := hab (by decide) (by decide)
    obtain ⟨xa, qa, ya, oa, ka, qya, xya, yat, lya, xal, qal⟩ := K.at ht ht2 (a := a) (i := i0) (by omega) hi
    obtain ⟨xb, qb, yb, ob, kb, qyb, xyb, ybt, lyb, xbl, qbl⟩ := K.at ht ht2 (a := b) (i := i0) (by omega) hi
    have sa := (sor xa (List.mem_of_getElem? oa)).ext e12
    have sb := (sor xb (List.mem_of_getElem? ob)).ext e12
    have La := refLift_spec (centerm ya D.t) D.t h2 (centerm_bd _ _ (by omega)) htt
    have Lb := refLift_spec (centerm yb D.t) D.t h2 (centerm_bd _ _ (by omega)) htt
    rw [lya] at La
    rw [lyb] at Lb
    have hmod : (i0 + k) % D.s < D.s := Nat.mod_lt _ (by omega)
    obtain ⟨xc, qc, yc, oc, kc, qyc, xyc, yct, lyc, xcl, qcl⟩ := K.at ht ht2 (a := a) (i := (i0 + k) % D.s) (by omega) hmod
    have e : xc = xa := by rw [oa] at oc; cases oc; rfl
    subst e
    have Lc := refLift_spec (centerm yc D.t) D.t h2 (centerm_bd _ _ (by omega)) htt
    rw [lyc] at Lc
    refine runJ ?_
    apply (s_call Try_ent13 rfl rfl rfl)
    refine (La).mono ?_
    rintro _ _ ⟨rfl, rfl⟩
    refine ⟨(by first | exact trivial | exact Ext.refl _), ?_⟩
    refine runJ ?_
    apply (s_call Try_ent13 rfl rfl rfl)
    refine (Lb).mono ?_
    rintro _ _ ⟨rfl, rfl⟩
    refine ⟨(by first | exact trivial | exact Ext.refl _), ?_⟩
    refine runJ ?_
    apply (s_call Try_ent13 rfl rfl rfl)
    refine (Lc).mono ?_
    rintro _ _ ⟨rfl, rfl⟩
    refine ⟨(by first | exact trivial | exact Ext.refl _), ?_⟩
    refine runJ ?_
    obtain rfl := kn_at hk kc
    exact fin1 rfl rfl ⟨e12, yc, rfl, by rw [turn_at qcl hkk hi]; exact qyc, by omega⟩
  · (apply enter Try.func19 rfl Try.ntmps19 rfl)
    refine runJ ?_
    (apply s_box; exact rfl; exact rfl; exact rfl; exact rfl)
    intro p6 h1 x1 e1 b1
    (try dsimp only [Value.cells, List.toList_toArray] at x1)
    refine ⟨(by first | exact trivial | exact Ext.refl _ | assumption | exact Ext.trans (by assumption) (by assumption)), ?_⟩
    refine runJ ?_
    (apply s_box; exact rfl; exact rfl; exact rfl; exact rfl)
    intro p7 h2 x2 e2 b2
    (try dsimp only [Value.cells, List.toList_toArray] at x2)
    refine ⟨(by first | exact trivial | exact Ext.refl _ | assumption | exact Ext.trans (by assumption) (by assumption)), ?_⟩
    have x12 := x1.ext e2
    have e12 := e1.trans e2
    have s2 := s.ext e12
    have so2 := so.ext e12
    have sn2 := sn.ext e12
    obtain ⟨h1a, h1b⟩ := hab (by decide) (by decide)
    obtain ⟨xa, qa, ya, oa, ka, qya, xya, yat, lya, xal, qal⟩ := K.at ht ht2 (a := a) (i := i0) (by omega) hi
    obtain ⟨xb, qb, yb, ob, kb, qyb, xyb, ybt, lyb, xbl, qbl⟩ := K.at ht ht2 (a := b) (i := i0) (by omega) hi
    have sa := (sor xa (List.mem_of_getElem? oa)).ext e12
    have sb := (sor xb (List.mem_of_getElem? ob)).ext e12
    have La := refLift_spec (centerm ya D.t) D.t h2 (centerm_bd _ _ (by omega)) htt
    have Lb := refLift_spec (centerm yb D.t) D.t h2 (centerm_bd _ _ (by omega)) htt
    rw [lya] at La
    rw [lyb] at Lb
    refine runJ ?_
    apply (s_call Try_ent13 rfl rfl rfl)
    refine (La).mono ?_
    rintro _ _ ⟨rfl, rfl⟩
    refine ⟨(by first | exact trivial | exact Ext.refl _), ?_⟩
    refine runJ ?_
    apply (s_call Try_ent13 rfl rfl rfl)
    refine (Lb).mono ?_
    rintro _ _ ⟨rfl, rfl⟩
    refine ⟨(by first | exact trivial | exact Ext.refl _), ?_⟩
    refine runJ ?_
    apply (s_call Try_ent32 rfl rfl rfl)
    refine (refAdd_spec ya yb D.t h2 (by omega) (by omega) htt).mono ?_
    rintro _ _ ⟨rfl, rfl⟩
    refine ⟨(by first | exact trivial | exact Ext.refl _ | assumption | exact Ext.trans (by assumption) (by assumption)), ?_⟩
    refine runJ ?_
    obtain rfl := kn_at ha ka
    obtain rfl := kn_at hb kb
    exact fin1 rfl rfl ⟨e12, _, rfl, zip_at qya qyb, by have := addm_lt (a := ya) (b := yb) (m := D.t) (by omega); omega⟩
  · (apply enter Try.func19 rfl Try.ntmps19 rfl)
    refine runJ ?_
    (apply s_box; exact rfl; exact rfl; exact rfl; exact rfl)
    intro p6 h1 x1 e1 b1
    (try dsimp only [Value.cells, List.toList_toArray] at x1)
    refine ⟨(by first | exact trivial | exact Ext.refl _ | assumption | exact Ext.trans (by assumption) (by assumption)), ?_⟩
    refine runJ ?_
    (apply s_box; exact rfl; exact rfl; exact rfl; exact rfl)
    intro p7 h2 x2 e2 b2
    (try dsimp only [Value.cells, List.toList_toArray] at x2)
    refine ⟨(by first | exact trivial | exact Ext.refl _ | assumption | exact Ext.trans (by assumption) (by assumption)), ?_⟩
    have x12 := x1.ext e2
    have e12 := e1.trans e2
    have s2 := s.ext e12
    have so2 := so.ext e12
    have sn2 := sn.ext e12
    obtain ⟨h1a, h1b⟩ := hab (by decide) (by decide)
    obtain ⟨xa, qa, ya, oa, ka, qya, xya, yat, lya, xal, qal⟩ := K.at ht ht2 (a := a) (i := i0) (by omega) hi
    obtain ⟨xb, qb, yb, ob, kb, qyb, xyb, ybt, lyb, xbl, qbl⟩ := K.at ht ht2 (a := b) (i := i0) (by omega) hi
    have sa := (sor xa (List.mem_of_getElem? oa)).ext e12
    have sb := (sor xb (List.mem_of_getElem? ob)).ext e12
    have La := refLift_spec (centerm ya D.t) D.t h2 (centerm_bd _ _ (by omega)) htt
    have Lb := refLift_spec (centerm yb D.t) D.t h2 (centerm_bd _ _ (by omega)) htt
    rw [lya] at La
    rw [lyb] at Lb
    refine runJ ?_
    apply (s_call Try_ent13 rfl rfl rfl)
    refine (La).mono ?_
    rintro _ _ ⟨rfl, rfl⟩
    refine ⟨(by first | exact trivial | exact Ext.refl _), ?_⟩
    refine runJ ?_
    apply (s_call Try_ent13 rfl rfl rfl)
    refine (Lb).mono ?_
    rintro _ _ ⟨rfl, rfl⟩
    refine ⟨(by first | exact trivial | exact Ext.refl _), ?_⟩
    refine runJ ?_
    apply (s_call Try_ent33 rfl rfl rfl)
    refine (refMul_spec ya yb D.t h2 (by omega) (by omega) htt).mono ?_
    rintro _ _ ⟨rfl, rfl⟩
    refine ⟨(by first | exact trivial | exact Ext.refl _ | assumption | exact Ext.trans (by assumption) (by assumption)), ?_⟩
    refine runJ ?_
    obtain rfl := kn_at ha ka
    obtain rfl := kn_at hb kb
    exact fin1 rfl rfl ⟨e12, _, rfl, zip_at qya qyb, by have := mulm_lt (a := ya) (b := yb) (m := D.t) (by omega); omega⟩
  · (apply enter Try.func19 rfl Try.ntmps19 rfl)
    refine runJ ?_
    (apply s_box; exact rfl; exact rfl; exact rfl; exact rfl)
    intro p6 h1 x1 e1 b1
    (try dsimp only [Value.cells, List.toList_toArray] at x1)
    refine ⟨(by first | exact trivial | exact Ext.refl _ | assumption | exact Ext.trans (by assumption) (by assumption)), ?_⟩
    refine runJ ?_
    (apply s_box; exact rfl; exact rfl; exact rfl; exact rfl)
    intro p7 h2 x2 e2 b2
    (try dsimp only [Value.cells, List.toList_toArray] at x2)
    refine ⟨(by first | exact trivial | exact Ext.refl _ | assumption | exact Ext.trans (by assumption) (by assumption)), ?_⟩
    have x12 := x1.ext e2
    have e12 := e1.trans e2
    have s2 := s.ext e12
    have so2 := so.ext e12
    have sn2 := sn.ext e12
    obtain ⟨h1a, h1b⟩ := hab (by decide) (by decide)
    obtain ⟨xa, qa, ya, oa, ka, qya, xya, yat, lya, xal, qal⟩ := K.at ht ht2 (a := a) (i := i0) (by omega) hi
    obtain ⟨xb, qb, yb, ob, kb, qyb, xyb, ybt, lyb, xbl, qbl⟩ := K.at ht ht2 (a := b) (i := i0) (by omega) hi
    have sa := (sor xa (List.mem_of_getElem? oa)).ext e12
    have sb := (sor xb (List.mem_of_getElem? ob)).ext e12
    have La := refLift_spec (centerm ya D.t) D.t h2 (centerm_bd _ _ (by omega)) htt
    have Lb := refLift_spec (centerm yb D.t) D.t h2 (centerm_bd _ _ (by omega)) htt
    rw [lya] at La
    rw [lyb] at Lb
    have l1 := s2.pls
    have hm := List.mem_of_getElem? hk
    have l2 := s2.plr pl hm
    refine runJ ?_
    (apply w_condD; exact rfl; exact rfl) <;> intro hlen
    · obtain ⟨y, hy⟩ := get_lt hlen
      have hyb := hplb pl hm y (List.mem_of_getElem? hy)
      refine runJ ?_
      apply (s_call Try_ent13 rfl rfl rfl)
      refine (refLift_spec y D.t h2 hyb htt).mono ?_
      rintro _ _ ⟨rfl, rfl⟩
      refine ⟨(by first | exact trivial | exact Ext.refl _ | assumption | exact Ext.trans (by assumption) (by assumption)), ?_⟩
      refine runJ ?_
      apply (s_call Try_ent13 rfl rfl rfl)
      refine (La).mono ?_
      rintro _ _ ⟨rfl, rfl⟩
      refine ⟨(by first | exact trivial | exact Ext.refl _), ?_⟩
      refine runJ ?_
      apply (s_call Try_ent13 rfl rfl rfl)
      refine (Lb).mono ?_
      rintro _ _ ⟨rfl, rfl⟩
      refine ⟨(by first | exact trivial | exact Ext.refl _), ?_⟩
      refine runJ ?_
      apply (s_call Try_ent32 rfl rfl rfl)
      refine (refAdd_spec ya (liftm y D.t) D.t h2 (by omega) (liftm_lt' htt) htt).mono ?_
      rintro _ _ ⟨rfl, rfl⟩
      refine ⟨(by first | exact trivial | exact Ext.refl _ | assumption | exact Ext.trans (by assumption) (by assumption)), ?_⟩
      refine runJ ?_
      obtain rfl := kn_at ha ka
      exact fin1 rfl rfl ⟨e12, _, rfl, zip_at qya (rowN_at hy), by have := addm_lt (a := ya) (b := liftm y D.t) (m := D.t) (by omega); omega⟩
    · refine runJ ?_
      apply (s_call Try_ent13 rfl rfl rfl)
      refine (La).mono ?_
      rintro _ _ ⟨rfl, rfl⟩
      refine ⟨(by first | exact trivial | exact Ext.refl _), ?_⟩
      refine runJ ?_
      apply (s_call Try_ent13 rfl rfl rfl)
      refine (Lb).mono ?_
      rintro _ _ ⟨rfl, rfl⟩
      refine ⟨(by first | exact trivial | exact Ext.refl _), ?_⟩
      refine runJ ?_
      apply (s_call Try_ent32 rfl rfl rfl)
      refine (refAdd_spec ya 0 D.t h2 (by omega) (by omega) htt).mono ?_
      rintro _ _ ⟨rfl, rfl⟩
      refine ⟨(by first | exact trivial | exact Ext.refl _ | assumption | exact Ext.trans (by assumption) (by assumption)), ?_⟩
      refine runJ ?_
      obtain rfl := kn_at ha ka
      exact fin1 rfl rfl ⟨e12, _, rfl, zip_at qya (rowN_out hi hlen), by have := addm_lt (a := ya) (b := 0) (m := D.t) (by omega); omega⟩
  · (apply enter Try.func19 rfl Try.ntmps19 rfl)
    refine runJ ?_
    (apply s_box; exact rfl; exact rfl; exact rfl; exact rfl)
    intro p6 h1 x1 e1 b1
    (try dsimp only [Value.cells, List.toList_toArray] at x1)
    refine ⟨(by first | exact trivial | exact Ext.refl _ | assumption | exact Ext.trans (by assumption) (by assumption)), ?_⟩
    refine runJ ?_
    (apply s_box; exact rfl; exact rfl; exact rfl; exact rfl)
    intro p7 h2 x2 e2 b2
    (try dsimp only [Value.cells, List.toList_toArray] at x2)
    refine ⟨(by first | exact trivial | exact Ext.refl _ | assumption | exact Ext.trans (by assumption) (by assumption)), ?_⟩
    have x12 := x1.ext e2
    have e12 := e1.trans e2
    have s2 := s.ext e12
    have so2 := so.ext e12
    have sn2 := sn.ext e12
    obtain ⟨h1a, h1b⟩ := hab (by decide) (by decide)
    obtain ⟨xa, qa, ya, oa, ka, qya, xya, yat, lya, xal, qal⟩ := K.at ht ht2 (a := a) (i := i0) (by omega) hi
    obtain ⟨xb, qb, yb, ob, kb, qyb, xyb, ybt, lyb, xbl, qbl⟩ := K.at ht ht2 (a := b) (i := i0) (by omega) hi
    have sa := (sor xa (List.mem_of_getElem? oa)).ext e12
    have sb := (sor xb (List.mem_of_getElem? ob)).ext e12
    have La := refLift_spec (centerm ya D.t) D.t h2 (centerm_bd _ _ (by omega)) htt
    have Lb := refLift_spec (centerm yb D.t) D.t h2 (centerm_bd _ _ (by omega)) htt
    rw [lya] at La
    rw [lyb] at Lb
    have l1 := s2.pls
    have hm := List.mem_of_getElem? hk
    have l2 := s2.plr pl hm
    refine runJ ?_
    (apply w_condD; exact rfl; exact rfl) <;> intro hlen
    · obtain ⟨y, hy⟩ := get_lt hlen
      have hyb := hplb pl hm y (List.mem_of_getElem? hy)
      refine runJ ?_
      apply (s_call Try_ent13 rfl rfl rfl)
      refine (refLift_spec y D.t h2 hyb htt).mono ?_
      rintro _ _ ⟨rfl, rfl⟩
      refine ⟨(by first | exact trivial | exact Ext.refl _ | assumption | exact Ext.trans (by assumption) (by assumption)), ?_⟩
      refine runJ ?_
      apply (s_call Try_ent13 rfl rfl rfl)
      refine (La).mono ?_
      rintro _ _ ⟨rfl, rfl⟩
      refine ⟨(by first | exact trivial | exact Ext.refl _), ?_⟩
      refine runJ ?_
      apply (s_call Try_ent13 rfl rfl rfl)
      refine (Lb).mono ?_
      rintro _ _ ⟨rfl, rfl⟩
      refine ⟨(by first | exact trivial | exact Ext.refl _), ?_⟩
      refine runJ ?_
      apply (s_call Try_ent33 rfl rfl rfl)
      refine (refMul_spec ya (liftm y D.t) D.t h2 (by omega) (liftm_lt' htt) htt).mono ?_
      rintro _ _ ⟨rfl, rfl⟩
      refine ⟨(by first | exact trivial | exact Ext.refl _ | assumption | exact Ext.trans (by assumption) (by assumption)), ?_⟩
      refine runJ ?_
      obtain rfl := kn_at ha ka
      exact fin1 rfl rfl ⟨e12, _, rfl, zip_at qya (rowN_at hy), by have := mulm_lt (a := ya) (b := liftm y D.t) (m := D.t) (by omega); omega⟩
    · refine runJ ?_
      apply (s_call Try_ent13 rfl rfl rfl)
      refine (La).mono ?_
      rintro _ _ ⟨rfl, rfl⟩
      refine ⟨(by first | exact trivial | exact Ext.refl _), ?_⟩
      refine runJ ?_
      apply (s_call Try_ent13 rfl rfl rfl)
      refine (Lb).mono ?_
      rintro _ _ ⟨rfl, rfl⟩
      refine ⟨(by first | exact trivial | exact Ext.refl _), ?_⟩
      refine runJ ?_
      apply (s_call Try_ent33 rfl rfl rfl)
      refine (refMul_spec ya 0 D.t h2 (by omega) (by omega) htt).mono ?_
      rintro _ _ ⟨rfl, rfl⟩
      refine ⟨(by first | exact trivial | exact Ext.refl _ | assumption | exact Ext.trans (by assumption) (by assumption)), ?_⟩
      refine runJ ?_
      obtain rfl := kn_at ha ka
      exact fin1 rfl rfl ⟨e12, _, rfl, zip_at qya (rowN_out hi hlen), by have := mulm_lt (a := ya) (b := 0) (m := D.t) (by omega); omega⟩
end Go.Proofs.Ythgpgccmhohfbaa
