/- Texts ParA to ParB of this work, joined: each says in its own head what it proves, and of which condition. -/
import Derived.Test.YtajgcmgkhmkmbaaDoorMBou19
/- Package param: rows, sizes, and which parameters may be. Condition of what tests primes: the table of math/bits reads as it is laid. -/
namespace Go.Proofs.YtajgcmgkhmkmbaaDoor
set_option linter.unusedVariables false
set_option maxRecDepth 8000
open Go Go.Den Go.RowKit Go.Dig

/-- Parameters as they lie. -/
structure ParD where mk ::
  n : Int
  t : Nat
  vq : Value
  q : List Nat
  w : Int
abbrev ParD.cells (p : ParD) : List Value := [I p.n, U p.t, p.vq, I p.w]
structure ParAt (h : Hp) (p : ParD) : Prop where mk ::
  row : SlF h U p.vq p.q
  al : Al 18446744073709551616 p.q
  t64 : p.t < 18446744073709551616
  ln : p.q.length ≤ 4611686018427387904
theorem ParAt.ext {h h' : Hp} {p : ParD} (s : ParAt h p) (e : Ext h h') : ParAt h' p := ⟨s.row.ext e, s.al, s.t64, s.ln⟩

def rowP (n : Int) : Prop := n = 8 ∨ n = 16 ∨ n = 32 ∨ n = 64 ∨ n = 128 ∨ n = 256
instance (n : Int) : Decidable (rowP n) := by unfold rowP; exact inferInstance
def rowF (n : Int) : Nat := if rowP n then 420 else if n = 1024 then 27 else if n = 2048 then 54 else if n = 4096 then 109 else 0
theorem and_pow : ∀ n : Nat, n < 257 → 8 ≤ n → (n &&& (n - 1) = 0 ↔ (n = 8 ∨ n = 16 ∨ n = 32 ∨ n = 64 ∨ n = 128 ∨ n = 256)) := by decide +kernel
theorem rowF_pos {n : Int} (h : 0 < rowF n) : 8 ≤ n ∧ n ≤ 4096 := by
  unfold rowF at h
  by_cases h1 : rowP n
  · unfold rowP at h1; omega
  rw [if_neg h1] at h
  by_cases h2 : n = 1024
  · omega
  rw [if_neg h2] at h
  by_cases h3 : n = 2048
  · omega
  rw [if_neg h3] at h
  by_cases h4 : n = 4096
  · omega
  rw [if_neg h4] at h
  omega

theorem Tryd_ent24 : Ent Tryd.prog 24 := ent_of Tryd.func24 (by kernel_rfl) rfl
theorem row_spec (n : Int) (h : Hp) : CallsH Tryd.prog 24 [I n] h fun v' h' => v' = N (rowF n) ∧ h = h' := by
  (apply enter Tryd.func24 rfl Tryd.ntmps24 rfl)
  refine runJ ?_
  refine s_tcut (σ := Unit) (fun _ => [(0, I n), (3, .bool (decide (rowP n)))]) (fun _ h' => h = h') ?_ ?_
  · (apply s_splitG; exact rfl; exact rfl; exact rfl; exact rfl) <;> intro g1
    · refine runJ ?_
      (apply s_splitG; exact rfl; exact rfl; exact rfl; exact rfl) <;> intro g2
      · obtain ⟨m, rfl⟩ : ∃ m : Nat, n = (m : Int) := ⟨n.toNat, by omega⟩
        have hk := and_pow m (by omega) (by omega)
        refine runJ ?_
        apply cut_normal ()
        · exact Sub.cons rfl (Sub.consE rfl (dec_i (by unfold rowP; omega)) (Sub.nil _))
        · exact rfl
      · refine runJ ?_
        apply cut_normal ()
        · exact Sub.cons rfl (Sub.consE rfl (dec_f (by unfold rowP; omega)) (Sub.nil _))
        · exact rfl
    · refine runJ ?_
      apply cut_normal ()
      · exact Sub.cons rfl (Sub.consE rfl (dec_f (by unfold rowP; omega)) (Sub.nil _))
      · exact rfl
  rintro _ _ rfl
  (apply w_condD; exact rfl; exact rfl) <;> intro h0
  · refine runJ ?_
    exact fin1 rfl rfl ⟨by unfold rowF; rw [if_pos h0], rfl⟩
  refine runJ ?_
  (apply w_condD; exact rfl; exact rfl) <;> intro h1
  · refine runJ ?_
    exact fin1 rfl rfl ⟨by unfold rowF; rw [if_neg h0, if_pos h1], rfl⟩
  refine runJ ?_
  (apply w_condD; exact rfl; exact rfl) <;> intro h2
  · refine runJ ?_
    exact fin1 rfl rfl ⟨by unfold rowF; rw [if_neg h0, if_neg h1, if_pos h2], rfl⟩
  refine runJ ?_
  (apply w_condD; exact rfl; exact rfl) <;> intro h3
  · refine runJ ?_
    exact fin1 rfl rfl ⟨by unfold rowF; rw [if_neg h0, if_neg h1, if_neg h2, if_pos h3], rfl⟩
  refine runJ ?_
  exact fin1 rfl rfl ⟨by unfold rowF; rw [if_neg h0, if_neg h1, if_neg h2, if_neg h3], rfl⟩

theorem Tryd_ent22 : Ent Tryd.prog 22 := ent_of Tryd.func22 (by kernel_rfl) rfl
theorem top_spec (p : ParD) (h : Hp) (A : ParAt h p) : CallsH Tryd.prog 22 [.agg p.cells.toArray] h fun v' h' => v' = I ((p.q.length : Int) - 1) ∧ Ext h h' := by
  have hl := A.ln
  unfold ParD.cells
  (apply enter Tryd.func22 rfl Tryd.ntmps22 rfl)
  refine runJ ?_
  (apply s_box; exact rfl; exact rfl; exact rfl; exact rfl)
  intro p1 h1 x1 e1 b1
  (try dsimp only [Value.cells, List.toList_toArray] at x1)
  refine ⟨(by first | exact trivial | exact Ext.refl _ | assumption | exact Ext.trans (by assumption) (by assumption)), ?_⟩
  have s1 := A.row.ext e1
  refine runJ ?_
  exact fin1 rfl rfl ⟨rfl, e1⟩

def sizedP (p : ParD) : Prop := 0 < rowF p.n ∧ 1 ≤ p.w ∧ p.w ≤ 16
instance (p : ParD) : Decidable (sizedP p) := by unfold sizedP; exact inferInstance
def frP (n : Int) (q : Nat) : Prop := q % (2 * n.toNat) = 1 ∧ isB q = true
instance (n : Int) (q : Nat) : Decidable (frP n q) := by unfold frP; exact inferInstance
def plainP (p : ParD) : Prop := p.t < 1073741824 ∧ frP p.n p.t
instance (p : ParD) : Decidable (plainP p) := by unfold plainP; exact inferInstance
def primesP (p : ParD) : Prop := (∀ q ∈ p.q, q < 1125899906842624 ∧ q ≠ p.t ∧ frP p.n q) ∧ p.q.Nodup ∧ 0 < p.q.length ∧ p.q.length ≤ 8
instance (p : ParD) : Decidable (primesP p) := by unfold primesP; exact inferInstance
def shortP (p : ParD) : Prop := nb (prodL p.q) ≤ rowF p.n
instance (p : ParD) : Decidable (shortP p) := by unfold shortP; exact inferInstance
def parP (p : ParD) : Prop := sizedP p ∧ plainP p ∧ primesP p ∧ shortP p
instance (p : ParD) : Decidable (parP p) := by unfold parP; exact inferInstance

theorem Tryd_ent49 : Ent Tryd.prog 49 := ent_of Tryd.func49 (by kernel_rfl) rfl
theorem sized_spec (p : ParD) (h : Hp) : CallsH Tryd.prog 49 [.agg p.cells.toArray] h fun v' h' => v' = .bool (decide (sizedP p)) ∧ Ext h h' := by
  unfold ParD.cells
  (apply enter Tryd.func49 rfl Tryd.ntmps49 rfl)
  refine runJ ?_
  (apply s_box; exact rfl; exact rfl; exact rfl; exact rfl)
  intro p1 h1 x1 e1 b1
  (try dsimp only [Value.cells, List.toList_toArray] at x1)
  refine ⟨(by first | exact trivial | exact Ext.refl _ | assumption | exact Ext.trans (by assumption) (by assumption)), ?_⟩
  refine runJ ?_
  apply (s_call Tryd_ent24 rfl rfl rfl)
  refine (row_spec p.n h1).mono ?_
  rintro _ _ ⟨rfl, rfl⟩
  refine ⟨(by first | exact trivial | exact trivial), ?_⟩
  refine runJ ?_
  (apply s_splitG; exact rfl; exact rfl; exact rfl; exact rfl) <;> intro g1
  · refine runJ ?_
    (apply s_splitG; exact rfl; exact rfl; exact rfl; exact rfl) <;> intro g2
    · refine runJ ?_
      exact fin1 rfl rfl ⟨dec_i (by unfold sizedP; omega), e1⟩
    · refine runJ ?_
      exact fin1 rfl rfl ⟨dec_f (by unfold sizedP; omega), e1⟩
  · refine runJ ?_
    exact fin1 rfl rfl ⟨dec_f (by unfold sizedP; omega), e1⟩

theorem Tryd_ent77 : Ent Tryd.prog 77 := ent_of Tryd.func77 (by kernel_rfl) rfl
theorem friendly_spec (p : ParD) (q : Nat) (h : Hp) (T : TB h) (hn : 8 ≤ p.n ∧ p.n ≤ 4096) (hq : q < 18446744073709551616) :
    CallsH Tryd.prog 77 [.agg p.cells.toArray, U q] h fun v' h' => v' = .bool (decide (frP p.n q)) ∧ Ext h h' := by
  obtain ⟨n, t, vq, row, w⟩ := p
  obtain ⟨m, rfl⟩ : ∃ m : Nat, n = (m : Int) := ⟨n.toNat, by dsimp only at hn; omega⟩
  dsimp only at hn
  have hm : ¬ 2 * m = 0 := by omega
  unfold ParD.cells
  (apply enter Tryd.func77 rfl Tryd.ntmps77 rfl)
  refine runJ ?_
  (apply s_box; exact rfl; exact rfl; exact rfl; exact rfl)
  intro p1 h1 x1 e1 b1
  (try dsimp only [Value.cells, List.toList_toArray] at x1)
  refine ⟨(by first | exact trivial | exact Ext.refl _ | assumption | exact Ext.trans (by assumption) (by assumption)), ?_⟩
  refine runJ ?_
  (apply s_splitG; exact rfl; exact rfl; exact rfl; exact rfl) <;> intro g1
  · refine runJ ?_
    apply (s_call Tryd_ent66 rfl rfl rfl)
    refine (is_spec q h1 (T.ext e1) hq).mono ?_
    rintro _ h2 ⟨rfl, e2⟩
    refine ⟨(by first | exact trivial | exact trivial), ?_⟩
    refine runJ ?_
    exact fin1 rfl rfl ⟨by congr 1; unfold frP; simp [g1], e1.trans e2⟩
  · refine runJ ?_
    exact fin1 rfl rfl ⟨dec_f fun k => g1 k.1, e1⟩

theorem Tryd_ent50 : Ent Tryd.prog 50 := ent_of Tryd.func50 (by kernel_rfl) rfl
theorem plain_spec (p : ParD) (h : Hp) (T : TB h) (hn : 8 ≤ p.n ∧ p.n ≤ 4096) (ht : p.t < 18446744073709551616) :
    CallsH Tryd.prog 50 [.agg p.cells.toArray] h fun v' h' => v' = .bool (decide (plainP p)) ∧ Ext h h' := by
  have F := fun h T => friendly_spec p p.t h T hn ht
  unfold ParD.cells at F ⊢
  (apply enter Tryd.func50 rfl Tryd.ntmps50 rfl)
  refine runJ ?_
  (apply s_box; exact rfl; exact rfl; exact rfl; exact rfl)
  intro p1 h1 x1 e1 b1
  (try dsimp only [Value.cells, List.toList_toArray] at x1)
  refine ⟨(by first | exact trivial | exact Ext.refl _ | assumption | exact Ext.trans (by assumption) (by assumption)), ?_⟩
  refine runJ ?_
  (apply s_splitG; exact rfl; exact rfl; exact rfl; exact rfl) <;> intro g1
  · refine runJ ?_
    apply (s_call Tryd_ent77 rfl rfl rfl)
    refine (F h1 (T.ext e1)).mono ?_
    rintro _ h2 ⟨rfl, e2⟩
    refine ⟨(by first | exact trivial | exact trivial), ?_⟩
    refine runJ ?_
    exact fin1 rfl rfl ⟨dec_i (by unfold plainP; exact ⟨fun k => ⟨g1, k⟩, fun k => k.2⟩), e1.trans e2⟩
  · refine runJ ?_
    exact fin1 rfl rfl ⟨dec_f fun k => g1 k.1, e1⟩

theorem Tryd_ent51 : Ent Tryd.prog 51 := ent_of Tryd.func51 (by kernel_rfl) rfl
set_option maxHeartbeats 1000000 in
theorem primes_spec (p : ParD) (h : Hp) (T : TB h) (A : ParAt h p) (hn : 8 ≤ p.n ∧ p.n ≤ 4096) :
    CallsH Tryd.prog 51 [.agg p.cells.toArray] h fun v' h' => v' = .bool (decide (primesP p)) ∧ Ext h h' := by
  have F := fun q hq h T => friendly_spec p q h T hn hq
  have hl := A.ln
  have ht := A.t64
  unfold ParD.cells at F ⊢
  (apply enter Tryd.func51 rfl Tryd.ntmps51 rfl)
  refine runJ ?_
  (apply s_box; exact rfl; exact rfl; exact rfl; exact rfl)
  intro p1 h1 x1 e1 b1
  (try dsimp only [Value.cells, List.toList_toArray] at x1)
  refine ⟨(by first | exact trivial | exact Ext.refl _ | assumption | exact Ext.trans (by assumption) (by assumption)), ?_⟩
  have s1 := A.row.ext e1
  refine runJ ?_
  (first | (apply w_seqB; exact rfl; apply w_block; exact rfl) | skip)
  apply (w_loop (σ := Nat) rfl (fun j => [(1, p1), (7, p.vq), (8, N p.q.length), (9, N j)])
    (fun j h' => Ext h1 h' ∧ j ≤ p.q.length ∧ (∀ q ∈ p.q.take j, q < 1125899906842624 ∧ q ≠ p.t ∧ frP p.n q) ∧ (p.q.take j).Nodup) (fun j => p.q.length - j) 0)
  · exact (Sub.cons rfl (Sub.cons rfl (Sub.cons rfl (Sub.cons rfl (Sub.nil _)))))
  · exact ⟨Ext.refl _, Nat.zero_le _, by simp, by simp⟩
  rintro j h2 ⟨e2, j1, j2, j3⟩
  have s2 := s1.ext e2
  have x2 := x1.ext e2
  refine runJ ?_
  (apply w_condD; exact rfl; exact rfl) <;> intro hj
  · obtain ⟨q, hq⟩ := get_lt hj
    have hqm := List.mem_of_getElem? hq
    have hq64 := A.al q hqm
    have c1 := s2.cut (lo := 0) (hi := j) (Nat.zero_le _) j1
    rw [List.drop_zero, Nat.sub_zero] at c1
    have hll : (p.q.take j).length < 4611686018427387904 := by rw [List.length_take]; omega
    refine runJ ?_
    (apply s_splitG; exact rfl; exact rfl; exact rfl; exact rfl) <;> intro g1
    · refine runJ ?_
      exact fin1 rfl rfl ⟨dec_f fun k => by have := (k.1 q hqm).1; omega, e1.trans e2⟩
    refine runJ ?_
    (apply s_splitG; exact rfl; exact rfl; exact rfl; exact rfl) <;> intro g2
    · refine runJ ?_
      exact fin1 rfl rfl ⟨dec_f fun k => (k.1 q hqm).2.1 g2, e1.trans e2⟩
    refine runJ ?_
    apply (s_call Tryd_ent67 rfl rfl rfl)
    refine (contains_spec _ (p.q.take j) q h2 c1 hll).mono ?_
    rintro _ _ ⟨rfl, rfl⟩
    refine ⟨(by first | exact trivial | exact trivial), ?_⟩
    refine runJ ?_
    (apply s_splitG; exact rfl; exact rfl; exact rfl; exact rfl) <;> intro g3
    · refine runJ ?_
      exact fin1 rfl rfl ⟨dec_f fun k => not_nodup_at hq g3 k.2.1, e1.trans e2⟩
    refine runJ ?_
    apply (s_call Tryd_ent77 rfl rfl rfl)
    refine (F q hq64 h2 (T.ext (e1.trans e2))).mono ?_
    rintro _ h3 ⟨rfl, e3⟩
    refine ⟨(by first | exact trivial | exact trivial), ?_⟩
    refine runJ ?_
    (apply w_cond; exact rfl; exact rfl) <;> intro g4
    · have g4 : ¬ frP p.n q := by simpa using g4
      refine runJ ?_
      exact fin1 rfl rfl ⟨dec_f fun k => g4 (k.1 q hqm).2.2, (e1.trans e2).trans e3⟩
    · have g4 : frP p.n q := by simpa using g4
      refine runJ ?_
      apply again_normal (j + 1)
      · exact (Sub.cons rfl (Sub.cons rfl (Sub.cons rfl (Sub.cons rfl (Sub.nil _)))))
      · refine ⟨e2.trans e3, hj, ?_, ?_⟩
        · rw [take_snoc hq]
          intro y hy
          rcases List.mem_append.1 hy with hy | hy
          · exact j2 y hy
          · simp only [List.mem_singleton] at hy; subst hy; exact ⟨by omega, g2, g4⟩
        · rw [take_snoc hq]; exact nodup_snoc j3 g3
      · omega
  · rw [List.take_of_length_le (by omega)] at j2 j3
    refine runJ ?_
    (apply s_splitG; exact rfl; exact rfl; exact rfl; exact rfl) <;> intro g1
    · refine runJ ?_
      exact fin1 rfl rfl ⟨dec_i ⟨fun k => ⟨j2, j3, by omega, by omega⟩, fun k => by have := k.2.2; omega⟩, e1.trans e2⟩
    · refine runJ ?_
      exact fin1 rfl rfl ⟨dec_f fun k => by have := k.2.2; omega, e1.trans e2⟩

theorem Tryd_ent52 : Ent Tryd.prog 52 := ent_of Tryd.func52 (by kernel_rfl) rfl
theorem short_spec (p : ParD) (h : Hp) (A : ParAt h p) (h0 : 0 < p.q.length) (h8 : p.q.length ≤ 8) :
    CallsH Tryd.prog 52 [.agg p.cells.toArray] h fun v' h' => v' = .bool (decide (shortP p)) ∧ Ext h h' := by
  have hne : p.q ≠ [] := by intro e; rw [e] at h0; simp at h0
  have F := fun h s => product_spec p.vq p.q h s A.al (by omega)
  simp only [hne, if_false] at F
  have hdl : (dg 18446744073709551616 (prodL p.q)).length < 1099511627776 := by
    have := dg_len (b := 18446744073709551616) (n := prodL p.q) (k := p.q.length + 1) (by decide) (prodL_lt A.al)
    omega
  unfold ParD.cells
  (apply enter Tryd.func52 rfl Tryd.ntmps52 rfl)
  refine runJ ?_
  (apply s_box; exact rfl; exact rfl; exact rfl; exact rfl)
  intro p1 h1 x1 e1 b1
  (try dsimp only [Value.cells, List.toList_toArray] at x1)
  refine ⟨(by first | exact trivial | exact Ext.refl _ | assumption | exact Ext.trans (by assumption) (by assumption)), ?_⟩
  have s1 := A.row.ext e1
  refine runJ ?_
  apply (s_call Tryd_ent37 rfl rfl rfl)
  refine (F h1 s1).mono ?_
  rintro w1 h2 ⟨e2, o2⟩
  refine ⟨(by first | exact trivial | exact e2), ?_⟩
  have B := bits_spec w1 _ h2 o2.sl (al_dg (by decide) _) hdl
  rw [vl_dg (by decide)] at B
  have x2 := x1.ext e2
  refine runJ ?_
  apply (s_call Tryd_ent78 rfl rfl rfl)
  refine (B).mono ?_
  rintro _ _ ⟨rfl, rfl⟩
  refine ⟨(by first | exact trivial | exact e2), ?_⟩
  refine runJ ?_
  apply (s_call Tryd_ent24 rfl rfl rfl)
  refine (row_spec p.n h2).mono ?_
  rintro _ _ ⟨rfl, rfl⟩
  refine ⟨(by first | exact trivial | exact e2), ?_⟩
  refine runJ ?_
  exact fin1 rfl rfl ⟨rfl, e1.trans e2⟩
end Go.Proofs.YtajgcmgkhmkmbaaDoor

/- Package param: the check, levels and steps. Condition of what tests primes: the table of math/bits reads as it is laid. -/
namespace Go.Proofs.YtajgcmgkhmkmbaaDoor
set_option linter.unusedVariables false
set_option maxRecDepth 8000
open Go Go.Den Go.RowKit Go.Dig

def askF : Nat → FuncId
  | 0 => 49
  | 1 => 50
  | 2 => 51
  | _ => 52
abbrev askV (cs : List Value) (j : Nat) : Value := .func (.func (askF j)) #[.agg cs.toArray] #[]
def askP (p : ParD) : Nat → Prop
  | 0 => sizedP p
  | 1 => plainP p
  | 2 => primesP p
  | _ => shortP p
theorem parP_of {p : ParD} (h : ∀ j, j < 4 → askP p j) : parP p := ⟨h 0 (by decide), h 1 (by decide), h 2 (by decide), h 3 (by decide)⟩

theorem Tryd_ent21 : Ent Tryd.prog 21 := ent_of Tryd.func21 (by kernel_rfl) rfl
set_option maxHeartbeats 1000000 in
theorem check_spec (p : ParD) (h : Hp) (T : TB h) (A : ParAt h p) :
    CallsH Tryd.prog 21 [.agg p.cells.toArray] h fun v' h' => v' = N (if parP p then 0 else 8) ∧ Ext h h' := by
  have F0 := fun h => sized_spec p h
  have F1 := fun h T hn => plain_spec p h T hn A.t64
  have F2 := fun h T A hn => primes_spec p h T A hn
  have F3 := fun h A h0 h8 => short_spec p h A h0 h8
  unfold ParD.cells at F0 F1 F2 F3 ⊢
  (apply enter Tryd.func21 rfl Tryd.ntmps21 rfl)
  refine runJ ?_
  (apply s_box; exact rfl; exact rfl; exact rfl; exact rfl)
  intro p1 h1 x1 e1 b1
  (try dsimp only [Value.cells, List.toList_toArray] at x1)
  refine ⟨(by first | exact trivial | exact Ext.refl _ | assumption | exact Ext.trans (by assumption) (by assumption)), ?_⟩
  refine runJ ?_
  (apply (s_build ([I p.n, U p.t, p.vq, I p.w])); exact rfl; exact rfl; exact rfl; (repeat (first | exact CellsAll.nil | (apply CellsAll.cons; (first | exact oneL (by assumption) | exact oneL (SlF.one (by assumption)) | exact oneL (SlF.one (OwnF.sl (by assumption))) | exact oneL (Var.one (by assumption)) | exact rfl)))); exact rfl; exact rfl)
  refine runJ ?_
  (apply s_alloc; exact rfl; exact rfl; exact rfl)
  intro p2 h2 x2 e2 b2
  (try dsimp only [Value.cells, List.toList_toArray] at x2)
  refine ⟨(by first | exact trivial | exact Ext.refl _ | assumption | exact Ext.trans (by assumption) (by assumption)), ?_⟩
  refine runJ ?_
  have s0 := A.row
  (apply s_storeV; exact rfl; exact rfl; exact rfl; (repeat (first | exact OneAll.nil | (apply OneAll.cons; (first | exact rfl | exact SlF.one (by assumption) | exact SlF.one (OwnF.sl (by assumption)) | exact Var.one (by assumption))))); exact rfl; exact rfl; exact x2; exact rfl)
  intro h3 x3 k3
  (try dsimp only [Value.cells, List.toList_toArray] at x3)
  refine ⟨(by first | exact trivial | exact Ext.refl _ | assumption | exact Ext.only (by assumption) _ | exact Only.trans (Ext.only (by assumption) _) (by assumption)), ?_⟩
  have e3 : Ext h h3 := k3.oldV (e1.trans e2) b2 e1.1
  refine runJ ?_
  (apply (s_litF (f := askV [I p.n, U p.t, p.vq, I p.w]) [0, 1, 2, 3] (fun _ => rfl)); exact rfl; exact rfl; exact rfl; exact rfl; exact rfl; exact rfl; exact rfl; exact rfl; omega)
  intro v4 h4 o4 e4 b4
  refine ⟨(by first | exact trivial | exact Ext.refl _ | assumption | exact Ext.trans (by assumption) (by assumption)), ?_⟩
  have e34 := e3.trans e4
  have s4 := o4.sl
  refine runJ ?_
  (first | (apply w_seqB; exact rfl; apply w_block; exact rfl) | skip)
  apply (w_loop (σ := Nat) rfl (fun j => [(16, v4), (17, N 4), (18, N j)])
    (fun j h' => Ext h4 h' ∧ j ≤ 4 ∧ ∀ i, i < j → askP p i) (fun j => 4 - j) 0)
  · exact (Sub.cons rfl (Sub.cons rfl (Sub.cons rfl (Sub.nil _))))
  · exact ⟨Ext.refl _, Nat.zero_le _, fun i hi => absurd hi (Nat.not_lt_zero _)⟩
  rintro j h5 ⟨e5, j1, j2⟩
  have e45 := e34.trans e5
  have s5 := s4.ext e5
  have A5 := A.ext e45
  have T5 := T.ext e45
  refine runJ ?_
  (apply w_condD; exact rfl; exact rfl) <;> intro hj
  · rcases (show j = 0 ∨ j = 1 ∨ j = 2 ∨ j = 3 by omega) with rfl | rfl | rfl | rfl
    · have hr : [0, 1, 2, 3][0]? = some 0 := rfl
      refine runJ ?_
      refine s_callV rfl Tryd_ent49 rfl rfl rfl ?_
      refine (F0 h5).mono ?_
      rintro _ h6 ⟨rfl, e6⟩
      refine ⟨(by first | exact trivial | exact trivial), ?_⟩
      refine runJ ?_
      (apply w_cond; exact rfl; exact rfl) <;> intro g
      · have g : ¬ sizedP p := by simpa using g
        refine runJ ?_
        exact fin1 rfl rfl ⟨by rw [if_neg fun k => g k.1], e45.trans e6⟩
      · have g : sizedP p := by simpa using g
        refine runJ ?_
        apply again_normal 1
        · exact (Sub.cons rfl (Sub.cons rfl (Sub.cons rfl (Sub.nil _))))
        · exact ⟨e5.trans e6, by decide, fun i hi => by obtain rfl : i = 0 := by omega
                                                        exact g⟩
        · decide
    · have hn := rowF_pos (j2 0 (by decide)).1
      have hr : [0, 1, 2, 3][1]? = some 1 := rfl
      refine runJ ?_
      refine s_callV rfl Tryd_ent50 rfl rfl rfl ?_
      refine (F1 h5 T5 hn).mono ?_
      rintro _ h6 ⟨rfl, e6⟩
      refine ⟨(by first | exact trivial | exact trivial), ?_⟩
      refine runJ ?_
      (apply w_cond; exact rfl; exact rfl) <;> intro g
      · have g : ¬ plainP p := by simpa using g
        refine runJ ?_
        exact fin1 rfl rfl ⟨by rw [if_neg fun k => g k.2.1], e45.trans e6⟩
      · have g : plainP p := by simpa using g
        refine runJ ?_
        apply again_normal 2
        · exact (Sub.cons rfl (Sub.cons rfl (Sub.cons rfl (Sub.nil _))))
        · exact ⟨e5.trans e6, by decide, fun i hi => by
            rcases (show i < 1 ∨ i = 1 by omega) with hi | rfl
            · exact j2 i hi
            · exact g⟩
        · decide
    · have hn := rowF_pos (j2 0 (by decide)).1
      have hr : [0, 1, 2, 3][2]? = some 2 := rfl
      refine runJ ?_
      refine s_callV rfl Tryd_ent51 rfl rfl rfl ?_
      refine (F2 h5 T5 A5 hn).mono ?_
      rintro _ h6 ⟨rfl, e6⟩
      refine ⟨(by first | exact trivial | exact trivial), ?_⟩
      refine runJ ?_
      (apply w_cond; exact rfl; exact rfl) <;> intro g
      · have g : ¬ primesP p := by simpa using g
        refine runJ ?_
        exact fin1 rfl rfl ⟨by rw [if_neg fun k => g k.2.2.1], e45.trans e6⟩
      · have g : primesP p := by simpa using g
        refine runJ ?_
        apply again_normal 3
        · exact (Sub.cons rfl (Sub.cons rfl (Sub.cons rfl (Sub.nil _))))
        · exact ⟨e5.trans e6, by decide, fun i hi => by
            rcases (show i < 2 ∨ i = 2 by omega) with hi | rfl
            · exact j2 i hi
            · exact g⟩
        · decide
    · have hp : primesP p := j2 2 (by decide)
      have hr : [0, 1, 2, 3][3]? = some 3 := rfl
      refine runJ ?_
      refine s_callV rfl Tryd_ent52 rfl rfl rfl ?_
      refine (F3 h5 A5 hp.2.2.1 hp.2.2.2).mono ?_
      rintro _ h6 ⟨rfl, e6⟩
      refine ⟨(by first | exact trivial | exact trivial), ?_⟩
      refine runJ ?_
      (apply w_cond; exact rfl; exact rfl) <;> intro g
      · have g : ¬ shortP p := by simpa using g
        refine runJ ?_
        exact fin1 rfl rfl ⟨by rw [if_neg fun k => g k.2.2.2], e45.trans e6⟩
      · have g : shortP p := by simpa using g
        refine runJ ?_
        apply again_normal 4
        · exact (Sub.cons rfl (Sub.cons rfl (Sub.cons rfl (Sub.nil _))))
        · exact ⟨e5.trans e6, by decide, fun i hi => by
            rcases (show i < 3 ∨ i = 3 by omega) with hi | rfl
            · exact j2 i hi
            · exact g⟩
        · decide
  · obtain rfl : j = 4 := by omega
    refine runJ ?_
    exact fin1 rfl rfl ⟨by rw [if_pos (parP_of j2)], e45⟩

/-- What a level's modulus is refused by, or 0. -/
def levE (p : ParD) (l : Int) : Nat := if parP p then (if l < 0 ∨ (p.q.length : Int) ≤ l then 10 else 0) else 8
def levM (p : ParD) (l : Int) : Nat := prodL (p.q.take (l.toNat + 1))
theorem al_take {b : Nat} {xs : List Nat} (h : Al b xs) (n : Nat) : Al b (xs.take n) := fun x hx => h x (List.mem_of_mem_take hx)

theorem Tryd_ent15 : Ent Tryd.prog 15 := ent_of Tryd.func15 (by kernel_rfl) rfl
set_option maxHeartbeats 1000000 in
theorem modulus_spec (p : ParD) (l : Int) (h : Hp) (T : TB h) (A : ParAt h p) (hlo : -9223372036854775808 ≤ l) (hhi : l < 9223372036854775808) :
    CallsH Tryd.prog 15 [.agg p.cells.toArray, I l] h fun v' h' => Ext h h' ∧ ∃ q, v' = .tuple #[q, N (levE p l)] ∧ OwnF h' h.size 31 U q (if levE p l = 0 then dg 18446744073709551616 (levM p l) else []) := by
  have F := fun h T A => check_spec p h T A
  have hln := A.ln
  unfold ParD.cells at F ⊢
  (apply enter Tryd.func15 rfl Tryd.ntmps15 rfl)
  refine runJ ?_
  (apply s_box; exact rfl; exact rfl; exact rfl; exact rfl)
  intro p1 h1 x1 e1 b1
  (try dsimp only [Value.cells, List.toList_toArray] at x1)
  refine ⟨(by first | exact trivial | exact Ext.refl _ | assumption | exact Ext.trans (by assumption) (by assumption)), ?_⟩
  refine runJ ?_
  apply (s_call Tryd_ent21 rfl rfl rfl)
  refine (F h1 (T.ext e1) (A.ext e1)).mono ?_
  rintro _ h2 ⟨rfl, e2⟩
  refine ⟨(by first | exact trivial | exact trivial), ?_⟩
  have e12 := e1.trans e2
  have x2 := x1.ext e2
  have s2 := A.row.ext e12
  by_cases hp : parP p
  · rw [if_pos hp]
    refine runJ ?_
    refine s_tcut (σ := Unit) (fun _ => [(1, I l), (2, p1), (10, .bool (decide (l < 0 ∨ (p.q.length : Int) ≤ l)))]) (fun _ h' => h2 = h') ?_ ?_
    · (apply s_splitG; exact rfl; exact rfl; exact rfl; exact rfl) <;> intro g
      · refine runJ ?_
        apply cut_normal ()
        · exact Sub.cons rfl (Sub.cons rfl (Sub.consE rfl (dec_t (by omega)) (Sub.nil _)))
        · exact rfl
      · refine runJ ?_
        apply cut_normal ()
        · exact Sub.cons rfl (Sub.cons rfl (Sub.consE rfl (dec_i (by omega)) (Sub.nil _)))
        · exact rfl
    rintro _ _ rfl
    (apply w_condD; exact rfl; exact rfl) <;> intro h0
    · have hE : levE p l = 10 := by unfold levE; rw [if_pos hp, if_pos h0]
      rw [hE]
      refine runJ ?_
      exact fin2 rfl rfl rfl ⟨e12, _, rfl, by rw [if_neg (by decide)]; exact OwnF.nil _ _ _ _⟩
    · have hE : levE p l = 0 := by unfold levE; rw [if_pos hp, if_neg h0]
      rw [hE]
      obtain ⟨m, rfl⟩ : ∃ m : Nat, l = (m : Int) := ⟨l.toNat, by omega⟩
      have c2 := s2.cut (lo := 0) (hi := m + 1) (Nat.zero_le _) (by omega)
      rw [List.drop_zero, Nat.sub_zero] at c2
      have hne : p.q.take (m + 1) ≠ [] := by
        intro e
        have hpos : 0 < (p.q.take (m + 1)).length := by rw [List.length_take]; omega
        rw [e] at hpos
        exact absurd hpos (Nat.lt_irrefl 0)
      have G := product_spec _ (p.q.take (m + 1)) h2 c2 (al_take A.al _) (by have := hp.2.2.1.2.2.2; rw [List.length_take]; omega)
      simp only [hne, if_false] at G
      refine runJ ?_
      apply (s_call Tryd_ent37 rfl rfl rfl)
      refine (G).mono ?_
      rintro w1 h3 ⟨e3, o3⟩
      refine ⟨(by first | exact trivial | exact trivial), ?_⟩
      refine runJ ?_
      exact fin2 rfl rfl rfl ⟨e12.trans e3, _, rfl, by rw [if_pos rfl]; exact o3.base e12.1⟩
  · have hE : levE p l = 8 := by unfold levE; rw [if_neg hp]
    rw [if_neg hp, hE]
    refine runJ ?_
    exact fin2 rfl rfl rfl ⟨e12, _, rfl, by rw [if_neg (by decide)]; exact OwnF.nil _ _ _ _⟩

theorem Tryd_ent16 : Ent Tryd.prog 16 := ent_of Tryd.func16 (by kernel_rfl) rfl
set_option maxHeartbeats 1000000 in
theorem step_spec (p : ParD) (l : Int) (h : Hp) (T : TB h) (A : ParAt h p) (hlo : -9223372036854775808 ≤ l) (hhi : l < 9223372036854775808) :
    CallsH Tryd.prog 16 [.agg p.cells.toArray, I l] h fun v' h' => Ext h h' ∧ ∃ s, v' = .tuple #[s, U (if levE p l = 0 then levM p l % p.t else 0), N (levE p l)] ∧ OwnF h' h.size 31 U s (if levE p l = 0 then dg 18446744073709551616 (levM p l / p.t) else []) := by
  have F := fun h T A => modulus_spec p l h T A hlo hhi
  have hln := A.ln
  have ht := A.t64
  have b64 : (1 : Nat) < 18446744073709551616 := by decide
  have b640 : (0 : Nat) < 18446744073709551616 := by decide
  unfold ParD.cells at F ⊢
  (apply enter Tryd.func16 rfl Tryd.ntmps16 rfl)
  refine runJ ?_
  (apply s_box; exact rfl; exact rfl; exact rfl; exact rfl)
  intro p1 h1 x1 e1 b1
  (try dsimp only [Value.cells, List.toList_toArray] at x1)
  refine ⟨(by first | exact trivial | exact Ext.refl _ | assumption | exact Ext.trans (by assumption) (by assumption)), ?_⟩
  refine runJ ?_
  apply (s_call Tryd_ent15 rfl rfl rfl)
  refine (F h1 (T.ext e1) (A.ext e1)).mono ?_
  rintro _ h2 ⟨e2, q, rfl, oq⟩
  refine ⟨(by first | exact trivial | exact trivial), ?_⟩
  have e12 := e1.trans e2
  have x2 := x1.ext e2
  by_cases hE : levE p l = 0
  · rw [hE] at oq ⊢
    rw [if_pos rfl] at oq
    have hp : parP p := by
      unfold levE at hE
      by_cases hp : parP p
      · exact hp
      · rw [if_neg hp] at hE; omega
    have ht0 : ¬ p.t = 0 := by
      intro e
      have := hp.2.1.2.1
      rw [e, Nat.zero_mod] at this
      omega
    have hML : (dg 18446744073709551616 (levM p l)).length < 1099511627776 := by
      have h1 := dg_len (b := 18446744073709551616) (n := levM p l) (k := (p.q.take (l.toNat + 1)).length + 1) (by decide) (prodL_lt (al_take A.al _))
      have h2 := hp.2.2.1.2.2.2
      rw [List.length_take] at h1
      omega
    refine runJ ?_
    apply (s_call Tryd_ent43 rfl rfl rfl)
    refine (of_spec p.t h2 ht).mono ?_
    rintro w1 h3 ⟨e3, o3⟩
    refine ⟨(by first | exact trivial | exact trivial), ?_⟩
    have hdl : (dg 18446744073709551616 p.t).length ≤ 1 := dg_len (by decide) (by omega)
    have x3 := x2.ext e3
    have D := ndiv_spec q w1 _ _ h3 (oq.sl.ext e3) o3.sl (al_dg b640 _) (al_dg b640 _) hML (by omega)
    rw [vl_dg b64, vl_dg b64] at D
    refine runJ ?_
    apply (s_call Tryd_ent42 rfl rfl rfl)
    refine (D).mono ?_
    rintro _ h4 ⟨s, r, rfl, e4, os, or⟩
    refine ⟨(by first | exact trivial | exact trivial), ?_⟩
    have x4 := x3.ext e4
    have e14 := (e12.trans e3).trans e4
    simp only [ht0, if_false] at or ⊢
    have hRL : (dg 18446744073709551616 (levM p l % p.t)).length < 1099511627776 := by
      have := dg_len (b := 18446744073709551616) (n := levM p l % p.t) (k := 1) (by decide) (by have := Nat.mod_lt (levM p l) (Nat.pos_of_ne_zero ht0); omega)
      omega
    have M := mod_spec r _ p.t h4 or.sl (al_dg b640 _) hRL ht
    rw [vl_dg b64] at M
    simp only [ht0, if_false, Nat.mod_mod] at M
    refine runJ ?_
    apply (s_call Tryd_ent44 rfl rfl rfl)
    refine (M).mono ?_
    rintro _ h5 ⟨rfl, e5⟩
    refine ⟨(by first | exact trivial | exact trivial), ?_⟩
    refine runJ ?_
    exact fin3 rfl rfl rfl rfl ⟨e14.trans e5, _, rfl, (os.ext e5).base (Nat.le_trans e12.1 e3.1)⟩
  · refine runJ ?_
    (apply w_condT; exact rfl; exact rfl; exact hE)
    refine runJ ?_
    exact fin3 rfl rfl rfl rfl ⟨e12, _, by rw [if_neg hE], by rw [if_neg hE]; exact OwnF.nil _ _ _ _⟩
end Go.Proofs.YtajgcmgkhmkmbaaDoor
