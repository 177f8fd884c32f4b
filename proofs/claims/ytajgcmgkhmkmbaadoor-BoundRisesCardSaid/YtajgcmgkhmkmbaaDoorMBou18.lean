/- Texts CrtA to Tail of this work, joined: each says in its own head what it proves, and of which condition. -/
import Derived.Test.YtajgcmgkhmkmbaaDoorMBou17
/- Package crt: rows of primes, residues, products. Condition of what tests primes: the table of math/bits reads as it is laid. -/
namespace Go.Proofs.YtajgcmgkhmkmbaaDoor
set_option linter.unusedVariables false
set_option maxRecDepth 8000
open Go Go.Den Go.RowKit Go.Dig

theorem Tryd_ent85 : Ent Tryd.prog 85 := ent_of Tryd.func85 (by kernel_rfl) rfl
theorem index_spec (v : Value) (xs : List Nat) (x : Nat) (h : Hp) (s : SlF h U v xs) (hl : xs.length < 4611686018427387904) :
    CallsH Tryd.prog 85 [v, U x] h fun v' h' => (∃ i : Int, v' = I i ∧ (0 ≤ i ↔ x ∈ xs)) ∧ h = h' := by
  (apply enter Tryd.func85 rfl Tryd.ntmps85 rfl)
  refine runJ ?_
  (first | (apply w_seqB; exact rfl; apply w_block; exact rfl) | skip)
  apply (w_loop (σ := Nat) rfl (fun j => [(0, v), (1, U x), (7, N xs.length), (8, N j)])
    (fun j h' => h = h' ∧ j ≤ xs.length ∧ x ∉ xs.take j) (fun j => xs.length - j) 0)
  · exact (Sub.cons rfl (Sub.cons rfl (Sub.cons rfl (Sub.cons rfl (Sub.nil _)))))
  · exact ⟨rfl, Nat.zero_le _, by simp⟩
  rintro j h' ⟨rfl, j1, j2⟩
  refine runJ ?_
  (apply w_condD; exact rfl; exact rfl) <;> intro hj
  · obtain ⟨y, hy⟩ := get_lt hj
    refine runJ ?_
    (apply w_condD; exact rfl; exact rfl) <;> intro hxy
    · refine runJ ?_
      exact fin1 rfl rfl ⟨⟨j, rfl, ⟨fun _ => hxy ▸ List.mem_of_getElem? hy, fun _ => by omega⟩⟩, rfl⟩
    · refine runJ ?_
      apply again_normal (j + 1)
      · exact (Sub.cons rfl (Sub.cons rfl (Sub.cons rfl (Sub.cons rfl (Sub.nil _)))))
      · refine ⟨rfl, hj, ?_⟩
        rw [take_snoc hy]
        intro hm
        rcases List.mem_append.1 hm with hm | hm
        · exact j2 hm
        · simp only [List.mem_singleton] at hm; exact hxy hm
      · omega
  · rw [List.take_of_length_le (by omega)] at j2
    refine runJ ?_
    exact fin1 rfl rfl ⟨⟨-1, rfl, ⟨fun h => by omega, fun h => absurd h j2⟩⟩, rfl⟩
theorem Tryd_ent67 : Ent Tryd.prog 67 := ent_of Tryd.func67 (by kernel_rfl) rfl
theorem contains_spec (v : Value) (xs : List Nat) (x : Nat) (h : Hp) (s : SlF h U v xs) (hl : xs.length < 4611686018427387904) :
    CallsH Tryd.prog 67 [v, U x] h fun v' h' => v' = .bool (decide (x ∈ xs)) ∧ h = h' := by
  (apply enter Tryd.func67 rfl Tryd.ntmps67 rfl)
  refine runJ ?_
  apply (s_call Tryd_ent85 rfl rfl rfl)
  refine (index_spec v xs x h s hl).mono ?_
  rintro _ _ ⟨⟨i, rfl, hi⟩, rfl⟩
  refine ⟨(by first | exact trivial | exact trivial), ?_⟩
  refine runJ ?_
  exact fin1 rfl rfl ⟨dec_i hi, rfl⟩

/-- May a row of primes be? -/
def rightP (row : List Nat) : Prop := (∀ q ∈ row, 3 ≤ q ∧ q < 2305843009213693952 ∧ isB q = true) ∧ row.Nodup ∧ 0 < row.length ∧ row.length ≤ 24
instance (row : List Nat) : Decidable (rightP row) := by unfold rightP; exact inferInstance

theorem Tryd_ent38 : Ent Tryd.prog 38 := ent_of Tryd.func38 (by kernel_rfl) rfl
set_option maxHeartbeats 1000000 in
theorem right_spec (v : Value) (row : List Nat) (h : Hp) (T : TB h) (s : SlF h U v row) (hal : Al 18446744073709551616 row) (hl : row.length < 4611686018427387904) :
    CallsH Tryd.prog 38 [v] h fun v' h' => v' = .bool (decide (rightP row)) ∧ Ext h h' := by
  (apply enter Tryd.func38 rfl Tryd.ntmps38 rfl)
  refine runJ ?_
  (first | (apply w_seqB; exact rfl; apply w_block; exact rfl) | skip)
  apply (w_loop (σ := Nat) rfl (fun j => [(0, v), (5, v), (6, N row.length), (7, N j)])
    (fun j h' => Ext h h' ∧ j ≤ row.length ∧ (∀ q ∈ row.take j, 3 ≤ q ∧ q < 2305843009213693952 ∧ isB q = true) ∧ (row.take j).Nodup) (fun j => row.length - j) 0)
  · exact (Sub.cons rfl (Sub.cons rfl (Sub.cons rfl (Sub.cons rfl (Sub.nil _)))))
  · exact ⟨Ext.refl _, Nat.zero_le _, by simp, by simp⟩
  rintro j h2 ⟨e2, j1, j2, j3⟩
  have s2 := s.ext e2
  refine runJ ?_
  (apply w_condD; exact rfl; exact rfl) <;> intro hj
  · obtain ⟨q, hq⟩ := get_lt hj
    have hqm := List.mem_of_getElem? hq
    have hq64 := hal q hqm
    have c1 := s2.cut (lo := 0) (hi := j) (Nat.zero_le _) j1
    rw [List.drop_zero, Nat.sub_zero] at c1
    refine runJ ?_
    (apply s_splitG; exact rfl; exact rfl; exact rfl; exact rfl) <;> intro h3
    · refine runJ ?_
      exact fin1 rfl rfl ⟨dec_f fun k => by have := k.1 q hqm; omega, e2⟩
    refine runJ ?_
    (apply s_splitG; exact rfl; exact rfl; exact rfl; exact rfl) <;> intro h61
    · refine runJ ?_
      exact fin1 rfl rfl ⟨dec_f fun k => by have := k.1 q hqm; omega, e2⟩
    refine runJ ?_
    apply (s_call Tryd_ent66 rfl rfl rfl)
    refine (is_spec q h2 (T.ext e2) hq64).mono ?_
    rintro _ h3' ⟨rfl, e3⟩
    refine ⟨(by first | exact trivial | exact trivial), ?_⟩
    have e23 := e2.trans e3
    have s3 := s.ext e23
    have c3 := c1.ext e3
    refine runJ ?_
    (apply s_splitGB; exact rfl; exact rfl; exact rfl; exact rfl) <;> intro hB
    · have hB : isB q = false := by simpa using hB
      refine runJ ?_
      exact fin1 rfl rfl ⟨dec_f (fun k => by have := (k.1 q hqm).2.2; rw [hB] at this; cases this), e23⟩
    have hB : isB q = true := by simpa using hB
    refine runJ ?_
    apply (s_call Tryd_ent67 rfl rfl rfl)
    refine (contains_spec _ (row.take j) q h3' c3 (by simp; omega)).mono ?_
    rintro _ _ ⟨rfl, rfl⟩
    refine ⟨(by first | exact trivial | exact Ext.refl _ | assumption | exact Ext.trans (by assumption) (by assumption)), ?_⟩
    refine runJ ?_
    (apply w_condD; exact rfl; exact rfl) <;> intro hin
    · refine runJ ?_
      exact fin1 rfl rfl ⟨dec_f fun k => not_nodup_at hq hin k.2.1, e23⟩
    · refine runJ ?_
      apply again_normal (j + 1)
      · exact (Sub.cons rfl (Sub.cons rfl (Sub.cons rfl (Sub.cons rfl (Sub.nil _)))))
      · refine ⟨e23, hj, ?_, ?_⟩
        · rw [take_snoc hq]
          intro y hy
          rcases List.mem_append.1 hy with hy | hy
          · exact j2 y hy
          · simp only [List.mem_singleton] at hy; subst hy; exact ⟨by omega, by omega, hB⟩
        · rw [take_snoc hq]; exact nodup_snoc j3 hin
      · omega
  · rw [List.take_of_length_le (by omega)] at j2 j3
    refine runJ ?_
    (apply s_splitG; exact rfl; exact rfl; exact rfl; exact rfl) <;> intro h0
    · refine runJ ?_
      exact fin1 rfl rfl ⟨dec_i ⟨fun h24 => ⟨j2, j3, h0, h24⟩, fun k => k.2.2.2⟩, e2⟩
    · refine runJ ?_
      exact fin1 rfl rfl ⟨dec_f fun k => h0 k.2.2.1, e2⟩

theorem resid_eq (neg : Bool) (X q : Nat) : (if neg then subm 0 (if q = 0 then 0 else X % q) q else (if q = 0 then 0 else X % q)) = liftm (IV neg X) q := by
  rcases Nat.eq_zero_or_pos q with rfl | hq
  · cases neg <;> simp [subm, liftm]
  · have hq0 : ¬ q = 0 := by omega
    simp only [hq0, if_false]
    cases neg with
    | false =>
      simp only [IV, Bool.false_eq_true, if_false]
      rw [lift_pos (by omega) (by omega), Int.toNat_natCast]
    | true =>
      simp only [IV, if_true]
      rcases Nat.eq_zero_or_pos X with rfl | hX
      · simp [liftm, subm]
      · rw [lift_neg (by omega) (by omega), Int.neg_neg, Int.toNat_natCast]
        unfold subm
        rw [Nat.mod_mod]

theorem Tryd_ent39 : Ent Tryd.prog 39 := ent_of Tryd.func39 (by kernel_rfl) rfl
theorem residue_spec (neg : Bool) (va : Value) (xs : List Nat) (q : Nat) (h : Hp) (s : SlF h U va xs) (hx : Al 18446744073709551616 xs) (hl : xs.length < 1099511627776) (hq : q < 18446744073709551616) :
    CallsH Tryd.prog 39 [.agg #[.bool neg, va], U q] h fun v' h' => v' = U (liftm (IV neg (vl 18446744073709551616 xs)) q) ∧ Ext h h' := by
  have hr := resid_eq neg (vl 18446744073709551616 xs) q
  have hlt : (if q = 0 then 0 else vl 18446744073709551616 xs % q) < 18446744073709551616 := by
    split
    · omega
    · exact Nat.lt_trans (Nat.mod_lt _ (by omega)) hq
  (apply enter Tryd.func39 rfl Tryd.ntmps39 rfl)
  refine runJ ?_
  (apply s_box; exact rfl; exact rfl; exact rfl; exact rfl)
  intro p h1 x1 e1 b1
  (try dsimp only [Value.cells, List.toList_toArray] at x1)
  refine ⟨(by first | exact trivial | exact Ext.refl _ | assumption | exact Ext.trans (by assumption) (by assumption)), ?_⟩
  refine runJ ?_
  apply (s_call Tryd_ent44 rfl rfl rfl)
  refine (mod_spec va xs q h1 (s.ext e1) hx hl hq).mono ?_
  rintro _ h2 ⟨rfl, e2⟩
  refine ⟨(by first | exact trivial | exact trivial), ?_⟩
  have x2 := x1.ext e2
  generalize (if q = 0 then 0 else vl 18446744073709551616 xs % q) = r at hr hlt
  refine runJ ?_
  (apply w_cond; exact rfl; exact rfl) <;> intro hn
  · rw [hn] at hr
    simp only [if_true] at hr
    refine runJ ?_
    apply (s_call Tryd_ent68 rfl rfl rfl)
    refine (sub_spec 0 r q h2 (by omega) hlt hq).mono ?_
    rintro _ _ ⟨rfl, rfl⟩
    refine ⟨(by first | exact trivial | exact Ext.refl _ | assumption | exact Ext.trans (by assumption) (by assumption)), ?_⟩
    refine runJ ?_
    exact fin1 rfl rfl ⟨by rw [hn, hr], e1.trans e2⟩
  · rw [hn] at hr
    simp only [Bool.false_eq_true, if_false] at hr
    refine runJ ?_
    exact fin1 rfl rfl ⟨by rw [hn, hr], e1.trans e2⟩

theorem Tryd_ent9 : Ent Tryd.prog 9 := ent_of Tryd.func9 (by kernel_rfl) rfl
theorem residues_spec (neg : Bool) (va vr : Value) (xs row : List Nat) (h : Hp) (T : TB h) (s : SlF h U va xs) (hx : Al 18446744073709551616 xs) (hl : xs.length < 1099511627776) (sr : SlF h U vr row) (hr : Al 18446744073709551616 row) (hrl : row.length < 1000000) :
    CallsH Tryd.prog 9 [.agg #[.bool neg, va], vr] h fun v' h' => Ext h h' ∧ ∃ u, v' = .tuple #[u, N (if rightP row then 0 else 1)] ∧ OwnF h' h.size 31 U u (if rightP row then row.map (liftm (IV neg (vl 18446744073709551616 xs))) else []) := by
  (apply enter Tryd.func9 rfl Tryd.ntmps9 rfl)
  refine runJ ?_
  (apply s_box; exact rfl; exact rfl; exact rfl; exact rfl)
  intro p h1 x1 e1 b1
  (try dsimp only [Value.cells, List.toList_toArray] at x1)
  refine ⟨(by first | exact trivial | exact Ext.refl _ | assumption | exact Ext.trans (by assumption) (by assumption)), ?_⟩
  refine runJ ?_
  apply (s_call Tryd_ent38 rfl rfl rfl)
  refine (right_spec vr row h1 (T.ext e1) (sr.ext e1) hr (by omega)).mono ?_
  rintro _ h2 ⟨rfl, e2⟩
  refine ⟨(by first | exact trivial | exact trivial), ?_⟩
  have x2 := x1.ext e2
  have e12 := e1.trans e2
  have sr2 := sr.ext e12
  refine runJ ?_
  refine w_sub (l' := [(1, vr), (2, p), (11, .bool (decide (¬ rightP row)))]) (Sub.cons rfl (Sub.cons rfl (Sub.consE rfl (congrArg Value.bool (by simp)) (Sub.nil _)))) ?_
  (apply w_condD; exact rfl; exact rfl) <;> intro hR
  · simp only [hR, if_false]
    refine runJ ?_
    exact fin2 rfl rfl rfl ⟨e12, _, rfl, OwnF.nil _ _ _ _⟩
  have hR : rightP row := Decidable.of_not_not hR
  simp only [hR, if_true]
  have hr24 := hR.2.2.2
  refine runJ ?_
  (first | (apply w_seqB; exact rfl; apply w_block; exact rfl) | skip)
  apply (w_loop (σ := Nat × Value) rfl (fun j => [(2, p), (6, j.2), (12, vr), (13, N row.length), (14, N j.1)])
    (fun j h' => Ext h2 h' ∧ OwnF h' h2.size 31 U j.2 ((row.take j.1).map (liftm (IV neg (vl 18446744073709551616 xs)))) ∧ j.1 ≤ row.length) (fun j => row.length - j.1) (0, .slice none 0 0))
  · exact (Sub.cons rfl (Sub.cons rfl (Sub.cons rfl (Sub.cons rfl (Sub.cons rfl (Sub.nil _))))))
  · exact ⟨Ext.refl _, OwnF.nil _ _ _ _, Nat.zero_le _⟩
  rintro ⟨j, u⟩ h3 ⟨e3, o3, j1⟩
  dsimp only at e3 o3 j1 ⊢
  have sr3 := sr2.ext e3
  have x3 := x2.ext e3
  refine runJ ?_
  (apply w_condD; exact rfl; exact rfl) <;> intro hj
  · obtain ⟨q, hq⟩ := get_lt hj
    have hq64 := hr q (List.mem_of_getElem? hq)
    refine runJ ?_
    apply (s_call Tryd_ent39 rfl rfl rfl)
    refine (residue_spec neg va xs q h3 (s.ext (e12.trans e3)) hx hl hq64).mono ?_
    rintro _ h4 ⟨rfl, e4⟩
    refine ⟨(by first | exact trivial | exact trivial), ?_⟩
    have o4 := o3.ext e4
    have e34 := e3.trans e4
    have hul : ((row.take j).map (liftm (IV neg (vl 18446744073709551616 xs)))).length ≤ 24 := by simp; omega
    refine runJ ?_
    (refine s_app1 (bytes := 8) (liftm (IV neg (vl 18446744073709551616 xs)) q) o4 e34 rfl rfl rfl rfl rfl rfl rfl rfl rfl (by first | exact rfl | exact congrArg some (congrArg I (by omega))) (fun _ => rfl) rfl rfl (fun _ _ => trivial) (by omega) (by simp only [maxLen]; omega) ?_)
    intro u' h5 o5 e5 k5 b5
    refine runJ ?_
    apply again_normal (j + 1, u')
    · exact (Sub.cons rfl (Sub.cons rfl (Sub.cons rfl (Sub.cons rfl (Sub.cons rfl (Sub.nil _))))))
    · refine ⟨e5, ?_, hj⟩
      rw [take_snoc hq, List.map_append]; exact o5
    · dsimp only; omega
  · rw [List.take_of_length_le (by omega)] at o3
    refine runJ ?_
    exact fin2 rfl rfl rfl ⟨e12.trans e3, _, rfl, o3.base e12.1⟩

def prodL (row : List Nat) : Nat := row.foldl (· * ·) 1
theorem prodL_snoc (row : List Nat) (q : Nat) : prodL (row ++ [q]) = prodL row * q := by unfold prodL; rw [List.foldl_append]; rfl
theorem prodL_lt {row : List Nat} (h : Al 18446744073709551616 row) : prodL row < 18446744073709551616 ^ (row.length + 1) := by
  have key : ∀ (n : Nat), n ≤ row.length → prodL (row.take n) < 18446744073709551616 ^ (n + 1) := by
    intro n
    induction n with
    | zero => intro _; simp [prodL]
    | succ n ih =>
      intro hn
      obtain ⟨q, hq⟩ := get_lt (l := row) (j := n) (by omega)
      have hq64 := h q (List.mem_of_getElem? hq)
      rw [take_snoc hq, prodL_snoc, Nat.pow_succ]
      exact Nat.mul_lt_mul_of_lt_of_lt (ih (by omega)) hq64
  have := key row.length (Nat.le_refl _)
  rwa [List.take_of_length_le (Nat.le_refl _)] at this

theorem Tryd_ent37 : Ent Tryd.prog 37 := ent_of Tryd.func37 (by kernel_rfl) rfl
theorem product_spec (v : Value) (row : List Nat) (h : Hp) (s : SlF h U v row) (hal : Al 18446744073709551616 row) (hl : row.length < 1000000) :
    CallsH Tryd.prog 37 [v] h fun v' h' => Ext h h' ∧ OwnF h' h.size 31 U v' (if row = [] then [1] else dg 18446744073709551616 (prodL row)) := by
  (apply enter Tryd.func37 rfl Tryd.ntmps37 rfl)
  refine runJ ?_
  (apply (s_litF (f := U) [1] (fun _ => rfl)); exact rfl; exact rfl; exact rfl; exact rfl; exact rfl; exact rfl; exact rfl; exact rfl; omega)
  intro w h1 o1 e1 b1
  refine ⟨(by first | exact trivial | exact Ext.refl _ | assumption | exact Ext.trans (by assumption) (by assumption)), ?_⟩
  have s1 := s.ext e1
  refine runJ ?_
  (first | (apply w_seqB; exact rfl; apply w_block; exact rfl) | skip)
  apply (w_loop (σ := Nat × Value) rfl (fun j => [(3, j.2), (7, v), (8, N row.length), (9, N j.1)])
    (fun j h' => Ext h h' ∧ OwnF h' h.size 31 U j.2 (if j.1 = 0 then [1] else dg 18446744073709551616 (prodL (row.take j.1))) ∧ j.1 ≤ row.length) (fun j => row.length - j.1) (0, w))
  · exact (Sub.cons rfl (Sub.cons rfl (Sub.cons rfl (Sub.cons rfl (Sub.nil _)))))
  · exact ⟨e1, o1, Nat.zero_le _⟩
  rintro ⟨j, u⟩ h3 ⟨e3, o3, j1⟩
  dsimp only at e3 o3 j1 ⊢
  have s3 := s.ext e3
  refine runJ ?_
  (apply w_condD; exact rfl; exact rfl) <;> intro hj
  · obtain ⟨q, hq⟩ := get_lt hj
    have hq64 := hal q (List.mem_of_getElem? hq)
    have hv : vl 18446744073709551616 (if j = 0 then [1] else dg 18446744073709551616 (prodL (row.take j))) = prodL (row.take j) := by
      split
      · rename_i h0; subst h0; rfl
      · rw [vl_dg (by decide)]
    have ha : Al 18446744073709551616 (if j = 0 then [1] else dg 18446744073709551616 (prodL (row.take j))) := by
      split
      · intro x hx; simp at hx; omega
      · exact al_dg (by decide) _
    have hln : (if j = 0 then [1] else dg 18446744073709551616 (prodL (row.take j))).length < 1099511627776 := by
      split
      · decide
      · have := dg_len (b := 18446744073709551616) (by decide) (prodL_lt (fun x hx => hal x (List.mem_of_mem_take hx) : Al 18446744073709551616 (row.take j)))
        have h2 : (row.take j).length ≤ row.length := by simp; omega
        omega
    refine runJ ?_
    (apply (s_litF (f := U) [q] (fun _ => rfl)); exact rfl; exact rfl; exact rfl; exact rfl; exact rfl; exact rfl; exact rfl; exact rfl; omega)
    intro w2 h4 o4 e4 b4
    refine ⟨(by first | exact trivial | exact Ext.refl _ | assumption | exact Ext.trans (by assumption) (by assumption)), ?_⟩
    have hqa : Al 18446744073709551616 [q] := fun x hx => by simp only [List.mem_singleton] at hx; subst hx; exact hq64
    refine runJ ?_
    apply (s_call Tryd_ent65 rfl rfl rfl)
    refine (nmul_spec u w2 _ [q] h4 (o3.sl.ext e4) o4.sl ha hqa hln (by simp)).mono ?_
    rintro u' h5 ⟨e5, o5⟩
    refine ⟨(by first | exact trivial | exact trivial), ?_⟩
    have e35 := (e3.trans e4).trans e5
    rw [hv] at o5
    have hq1 : vl 18446744073709551616 [q] = q := by simp [vl]
    rw [hq1, ← prodL_snoc, ← take_snoc hq] at o5
    refine runJ ?_
    apply again_normal (j + 1, u')
    · exact (Sub.cons rfl (Sub.cons rfl (Sub.cons rfl (Sub.cons rfl (Sub.nil _)))))
    · refine ⟨e35, ?_, hj⟩
      rw [if_neg (by omega)]
      exact o5.base (Nat.le_trans e3.1 e4.1)
    · dsimp only; omega
  · have hjl : j = row.length := by omega
    subst hjl
    rw [List.take_of_length_le (Nat.le_refl _)] at o3
    refine runJ ?_
    refine fin1 rfl rfl ⟨e3, ?_⟩
    simpa [List.length_eq_zero_iff] using o3
end Go.Proofs.YtajgcmgkhmkmbaaDoor

/- A drawn region whose last operations wait for all before them: the others in the text's order, then these. No condition. -/
namespace Go.Den
set_option linter.unusedVariables false
set_option maxRecDepth 8000
open Go Go.RowKit

section tail
variable {P : Program} {C : World → Prop} {E : Nat → Bool}

/-- What is asked of a region: as ever ahead of the number t; from there on each waits for all before it. -/
def regionOkT (ops : List Oper) (E : Nat → Bool) (t : Nat) : Bool :=
  let A := ops.toArray
  let an := ancGo ops #[]
  Region.noSelect A &&
  ops.zipIdx.all fun (oj, j) =>
    oj.after.toList.all (fun e => !Region.binds .any e || Nat.blt e.on j) &&
    (match oj.guard with | none => true | some g => Nat.blt g.1 j) &&
    (ops.take j).zipIdx.all fun (oi, i) =>
      bif Nat.blt j t then
        ((oj.after.toList.any fun e => Region.binds .any e && Nat.beq e.on i) || oi.apart A oj) &&
        (!(E i && E j) || (an.getD j 0).testBit i)
      else (an.getD j 0).testBit i

theorem regionOkT_spec {l : List Oper} {t : Nat} (h : regionOkT l E t = true) : NoSel l.toArray ∧
    (∀ j oj, l[j]? = some oj → ∀ e ∈ oj.after.toList, Region.binds .any e = true → e.on < j) ∧
    (∀ (j : Nat) (oj : Oper) (g : Nat × Bool), l[j]? = some oj → oj.guard = some g → g.1 < j) ∧
    (∀ i j oi oj, i < j → j < t → l[i]? = some oi → l[j]? = some oj → ((∃ e ∈ oj.after.toList, Region.binds .any e = true ∧ e.on = i) ∨ oi.apart l.toArray oj = true) ∧
      (E i = true → E j = true → ((ancGo l #[]).getD j 0).testBit i = true)) ∧
    (∀ i j oi oj, i < j → ¬ j < t → l[i]? = some oi → l[j]? = some oj → ((ancGo l #[]).getD j 0).testBit i = true) := by
  unfold regionOkT at h
  simp only [Bool.and_eq_true] at h
  obtain ⟨h0, h⟩ := h
  have hq : ∀ i j oi oj, i < j → l[i]? = some oi → l[j]? = some oj → (bif Nat.blt j t then
        ((oj.after.toList.any fun e => Region.binds .any e && Nat.beq e.on i) || oi.apart l.toArray oj) &&
        (!(E i && E j) || ((ancGo l #[]).getD j 0).testBit i)
      else ((ancGo l #[]).getD j 0).testBit i) = true := fun i j oi oj hij hi hj => by
    have h1 := zipIdx_all h hj
    simp only [Bool.and_eq_true] at h1
    exact zipIdx_all h1.2 (show (l.take j)[i]? = some oi by rw [List.getElem?_take, if_pos hij]; exact hi)
  refine ⟨Region.noSelect_spec h0, fun j oj hj e he hb => ?_, fun j oj g hj hg => ?_, fun i j oi oj hij hjt hi hj => ?_, fun i j oi oj hij hjt hi hj => ?_⟩
  · have h1 := zipIdx_all h hj
    simp only [Bool.and_eq_true, List.all_eq_true] at h1
    have := h1.1.1 e he
    simp only [hb, Bool.not_true, Bool.false_or] at this
    exact Nat.le_of_ble_eq_true this
  · have h1 := zipIdx_all h hj
    simp only [Bool.and_eq_true] at h1
    have := h1.1.2
    rw [hg] at this
    exact Nat.le_of_ble_eq_true this
  · have h2 := hq i j oi oj hij hi hj
    rw [show Nat.blt j t = true from Nat.ble_eq_true_of_le hjt, cond_true] at h2
    simp only [Bool.and_eq_true, Bool.or_eq_true] at h2
    obtain ⟨h3, h4⟩ := h2
    refine ⟨?_, fun ei ej => ?_⟩
    · rcases h3 with h3 | h3
      · rw [List.any_eq_true] at h3
        obtain ⟨e, he, hb⟩ := h3
        simp only [Bool.and_eq_true] at hb
        exact .inl ⟨e, he, hb.1, Nat.eq_of_beq_eq_true hb.2⟩
      · exact .inr h3
    · simpa [ei, ej] using h4
  · have h2 := hq i j oi oj hij hi hj
    have : Nat.blt j t = false := by
      cases hb : Nat.blt j t with
      | false => rfl
      | true => exact absurd (Nat.le_of_ble_eq_true hb) hjt
    rwa [this, cond_false] at h2

/-- The last ones: each comes up in its turn. -/
theorem any_of_last {D : World → Prop} {l : List Oper} {t : Nat} {Q : Exit → Act → World → Prop} (h : regionOkT l E t = true) : ∀ (m s : Nat) (listed : Array Bool) (a : Act) (w : World),
    s + m = l.length → t ≤ s → (∀ i, i < l.length → (listed.getD i true = false ↔ s ≤ i)) → listed.size = l.length →
    Closed l.toArray (fun i => listed.getD i false) → D w → Mix P l.toArray D (fun _ => true) (fun a w => Q .normal a w) (List.range' s m) a w → wpAny P .any l.toArray Q m listed a w := by
  obtain ⟨hs, hback, -, -, hlast⟩ := regionOkT_spec h
  intro m
  induction m with
  | zero =>
    intro s listed a w hlen hts hmem hsz hcl hD hm
    refine ⟨?_, hm⟩
    rw [List.eq_nil_iff_forall_not_mem]
    intro j hj
    obtain ⟨h1, o, ho, -⟩ := mem_ready.1 hj
    have hjl : j < l.length := by simpa using (Array.getElem?_eq_some_iff.1 ho).1
    have := (hmem j hjl).1 h1
    omega
  | succ m ih =>
    intro s listed a w hlen hts hmem hsz hcl hD hm
    have hsl : s < l.length := by omega
    have getb : ∀ i, i < l.length → listed.getD i true = listed.getD i false := fun i hi => by
      rw [Array.getD_eq_getD_getElem?, Array.getD_eq_getD_getElem?, Array.getElem?_eq_getElem (by omega)]; rfl
    refine ⟨fun hnil => ?_, fun j hj => ?_⟩
    · exfalso
      have hkr : s ∈ Region.ready .any l.toArray listed := by
        refine mem_ready.2 ⟨(hmem s hsl).2 (Nat.le_refl _), l[s]'hsl, by simp [hsl], fun e he hb => ?_⟩
        have hlt := hback s (l[s]'hsl) (by simp [hsl]) e (by simpa using he) hb
        have hlt' : e.on < l.length := Nat.lt_trans hlt hsl
        rw [← getb _ hlt']
        cases hg : listed.getD e.on true with
        | true => rfl
        | false => have := (hmem e.on hlt').1 hg; omega
      rw [hnil] at hkr
      cases hkr
    · obtain ⟨hj1, oj, hoj, hjall⟩ := mem_ready.1 hj
      have hjl : j < l.length := by simpa using (Array.getElem?_eq_some_iff.1 hoj).1
      have hoj' : l[j]? = some oj := by simpa using hoj
      have hjs := (hmem j hjl).1 hj1
      have hdep : ∀ e ∈ oj.after.toList, Region.binds .any e = true → listed.getD e.on false = true := fun e he hb => hjall e (by simpa using he) hb
      have hje : j = s := by
        rcases Nat.lt_or_ge s j with hlt | hge
        · exfalso
          have hb := hlast s j (l[s]'hsl) oj hlt (by omega) (by simp [hsl]) hoj'
          have := anc_sound (ops := l.toArray) hcl l #[] (by simp) (by simp) (fun k _ hk => ⟨l[k]'(by simpa using hk), by simp at hk; simp [hk]⟩) (by simp) j oj hoj (by simpa using hjl) hdep s hb
          have h2 := (hmem s hsl).2 (Nat.le_refl _)
          rw [getb s hsl, this] at h2
          cases h2
        · omega
      subst hje
      rw [List.range'_succ] at hm
      obtain ⟨o, ho, hm⟩ := hm
      rw [hoj] at ho; cases ho
      have hmem' : ∀ i, i < l.length → ((listed.setIfInBounds j true).getD i true = false ↔ j + 1 ≤ i) := fun i hi => by
        by_cases hij : j = i
        · subst hij
          have hset : (listed.setIfInBounds j true).getD j true = true := by
            rw [Array.getD_eq_getD_getElem?, Array.getElem?_setIfInBounds_self_of_lt (by omega)]; rfl
          rw [hset]; simp
        · rw [getD_set_ne true hij, hmem i hi]; omega
      have hcl' : Closed l.toArray (fun i => (listed.setIfInBounds j true).getD i false) := fun k o hk hl e he hb => by
        by_cases hkj : j = k
        · subst hkj
          rw [hoj] at hk; cases hk
          exact getD_set_true (hdep e he hb)
        · have hl' : listed.getD k false = true := by
            have := getD_set_ne (listed := listed) false hkj
            simp only [this] at hl
            exact hl
          exact getD_set_true (hcl k o hk hl' e he hb)
      have next : ∀ a' w', D w' → Mix P l.toArray D (fun _ => true) (fun a w => Q .normal a w) (List.range' (j + 1) m) a' w' → wpAny P .any l.toArray Q m (listed.setIfInBounds j true) a' w' := fun a' w' hD' hm' =>
        ih (j + 1) (listed.setIfInBounds j true) a' w' (by omega) (by omega) hmem' (by simpa using hsz) hcl' hD' hm'
      unfold wpOp
      simp only [hoj]
      rcases hm with ⟨v, hv, k⟩ | ⟨-, hW, k⟩
      · rcases hv with ⟨hW, hr⟩ | ⟨hW, rfl⟩
        · rw [if_pos (show Region.wanted _ _ = true from hW)]
          refine .inl ?_
          unfold Oper.wp
          rw [hr w hD]
          exact next _ _ hD k
        · rw [if_neg (by unfold Wanted at hW; rw [hW]; exact Bool.false_ne_true)]
          exact next _ _ hD k
      · rw [if_pos (show Region.wanted _ _ = true from hW)]
        exact .inl (wp_of_Eff (fun v w' hk => next _ _ hk.1 hk.2) k)

theorem any_of_mixT {D : World → Prop} {l : List Oper} {t : Nat} {Q : Exit → Act → World → Prop} (h : regionOkT l E t = true) (ht : t ≤ l.length) : ∀ (m : Nat) (L : List Nat) (listed : Array Bool) (a : Act) (w : World),
    L.length = m → L.Pairwise (· < ·) → (∀ i, i ∈ L ↔ i < t ∧ listed.getD i true = false) → (∀ i, i < l.length → ¬ i < t → listed.getD i true = false) → listed.size = l.length →
    Closed l.toArray (fun i => listed.getD i false) → C w → Mix P l.toArray C E (fun a w => D w ∧ Mix P l.toArray D (fun _ => true) (fun a w => Q .normal a w) (List.range' t (l.length - t)) a w) L a w →
    wpAny P .any l.toArray Q (m + (l.length - t)) listed a w := by
  obtain ⟨hs, hback, -, hpair, hlast⟩ := regionOkT_spec h
  intro m
  induction m with
  | zero =>
    intro L listed a w hlen hsort hmem htl hsz hcl hC hm
    have hL : L = [] := List.length_eq_zero_iff.1 hlen
    subst hL
    rw [Nat.zero_add]
    refine any_of_last h (l.length - t) t listed a w (by omega) (Nat.le_refl _) (fun i hi => ⟨fun hf => ?_, fun hge => htl i hi (by omega)⟩) hsz hcl hm.1 hm.2
    rcases Nat.lt_or_ge i t with hlt | hge
    · have := (hmem i).2 ⟨hlt, hf⟩
      cases this
    · exact hge
  | succ m ih =>
    intro L listed a w hlen hsort hmem htl hsz hcl hC hm
    have getb : ∀ i, i < l.length → listed.getD i true = listed.getD i false := fun i hi => by
      rw [Array.getD_eq_getD_getElem?, Array.getD_eq_getD_getElem?, Array.getElem?_eq_getElem (by omega)]; rfl
    rw [show m + 1 + (l.length - t) = (m + (l.length - t)) + 1 by omega]
    cases L with
    | nil => simp at hlen
    | cons k0 L0 =>
    have hk0 := (hmem k0).1 (by simp)
    refine ⟨fun hnil => ?_, fun j hj => ?_⟩
    · exfalso
      have hkl : k0 < l.length := by omega
      have hkr : k0 ∈ Region.ready .any l.toArray listed := by
        refine mem_ready.2 ⟨hk0.2, l[k0]'hkl, by simp [hkl], fun e he hb => ?_⟩
        have hlt := hback k0 (l[k0]'hkl) (by simp [hkl]) e (by simpa using he) hb
        have hlt' : e.on < l.length := Nat.lt_trans hlt hkl
        rw [← getb _ hlt']
        cases hg : listed.getD e.on true with
        | true => rfl
        | false =>
          have hin := (hmem e.on).2 ⟨by omega, hg⟩
          rcases List.mem_cons.1 hin with heq | hin'
          · omega
          · have := (List.pairwise_cons.1 hsort).1 _ hin'
            omega
      rw [hnil] at hkr
      cases hkr
    · obtain ⟨hj1, oj, hoj, hjall⟩ := mem_ready.1 hj
      have hjl : j < l.length := by simpa using (Array.getElem?_eq_some_iff.1 hoj).1
      have hoj' : l[j]? = some oj := by simpa using hoj
      have hdep : ∀ e ∈ oj.after.toList, Region.binds .any e = true → listed.getD e.on false = true := fun e he hb => hjall e (by simpa using he) hb
      have hanc : ∀ i, ((ancGo l #[]).getD j 0).testBit i = true → listed.getD i false = true := fun i hb =>
        anc_sound (ops := l.toArray) hcl l #[] (by simp) (by simp) (fun k _ hk => ⟨l[k]'(by simpa using hk), by simp at hk; simp [hk]⟩) (by simp) j oj hoj (by simpa using hjl) hdep i hb
      have hjt : j < t := by
        rcases Nat.lt_or_ge j t with hlt | hge
        · exact hlt
        · exfalso
          have hkl : k0 < l.length := by omega
          have hb := hanc k0 (hlast k0 j (l[k0]'hkl) oj (by omega) (by omega) (by simp [hkl]) hoj')
          have := hk0.2
          rw [getb k0 hkl, hb] at this
          cases this
      have hjL : j ∈ k0 :: L0 := (hmem j).2 ⟨hjt, hj1⟩
      obtain ⟨pre, post, hL⟩ := List.append_of_mem hjL
      rw [hL] at hm hsort hmem hlen
      have hpre : ∀ i ∈ pre, i < j := fun i hi => by
        have := List.pairwise_append.1 hsort
        exact this.2.2 i hi j (by simp)
      have hap : ∀ i ∈ pre, (∀ oi, l.toArray[i]? = some oi → oi.apart l.toArray oj = true) ∧ ¬ (E i = true ∧ E j = true) := fun i hi => by
        have hi1 := (hmem i).1 (by simp [hi])
        have hil : i < l.length := by omega
        have hif : listed.getD i false = false := by rw [← getb i hil]; exact hi1.2
        refine ⟨fun oi hoi => ?_, fun ⟨e1, e2⟩ => ?_⟩
        · obtain ⟨hor, -⟩ := hpair i j oi oj (hpre i hi) hjt (by simpa using hoi) hoj'
          rcases hor with ⟨e, he, hb, heq⟩ | hap
          · have := hdep e he hb
            rw [heq, hif] at this
            cases this
          · exact hap
        · obtain ⟨-, hch⟩ := hpair i j (l[i]'hil) oj (hpre i hi) hjt (by simp [hil]) hoj'
          have := hanc i (hch e1 e2)
          rw [hif] at this
          cases this
      have hmem' : ∀ i, i ∈ pre ++ post ↔ i < t ∧ (listed.setIfInBounds j true).getD i true = false := fun i => by
        have hnd : i ∈ pre ++ post ↔ i ∈ pre ++ j :: post ∧ i ≠ j := by
          have hq := List.pairwise_append.1 hsort
          have hq2 := List.pairwise_cons.1 hq.2.1
          constructor
          · intro hi
            refine ⟨by rcases List.mem_append.1 hi with hi | hi <;> simp [hi], fun heq => ?_⟩
            subst heq
            rcases List.mem_append.1 hi with hi | hi
            · exact Nat.lt_irrefl _ (hpre _ hi)
            · exact Nat.lt_irrefl _ (hq2.1 _ hi)
          · rintro ⟨hi, hne⟩
            rcases List.mem_append.1 hi with hi | hi
            · simp [hi]
            · rcases List.mem_cons.1 hi with hi | hi
              · exact absurd hi hne
              · simp [hi]
        rw [hnd, hmem i]
        by_cases hij : j = i
        · subst hij
          have hset : (listed.setIfInBounds j true).getD j true = true := by
            rw [Array.getD_eq_getD_getElem?, Array.getElem?_setIfInBounds_self_of_lt (by omega)]; rfl
          rw [hset]
          simp
        · rw [getD_set_ne true hij]
          constructor
          · rintro ⟨⟨h1, h2⟩, -⟩; exact ⟨h1, h2⟩
          · rintro ⟨h1, h2⟩; exact ⟨⟨h1, h2⟩, fun e => hij e.symm⟩
      have htl' : ∀ i, i < l.length → ¬ i < t → (listed.setIfInBounds j true).getD i true = false := fun i hi hit => by
        rw [getD_set_ne true (by omega)]; exact htl i hi hit
      have hcl' : Closed l.toArray (fun i => (listed.setIfInBounds j true).getD i false) := fun k o hk hl e he hb => by
        by_cases hkj : j = k
        · subst hkj
          rw [hoj] at hk; cases hk
          exact getD_set_true (hdep e he hb)
        · have hl' : listed.getD k false = true := by
            have := getD_set_ne (listed := listed) false hkj
            simp only [this] at hl
            exact hl
          exact getD_set_true (hcl k o hk hl' e he hb)
      have hlen' : (pre ++ post).length = m := by simp at hlen ⊢; omega
      have hsort' : (pre ++ post).Pairwise (· < ·) := by
        refine hsort.sublist ?_
        exact List.Sublist.append_left (List.sublist_cons_self _ _) _
      have next : ∀ a' w', C w' → Mix P l.toArray C E (fun a w => D w ∧ Mix P l.toArray D (fun _ => true) (fun a w => Q .normal a w) (List.range' t (l.length - t)) a w) (pre ++ post) a' w' → wpAny P .any l.toArray Q (m + (l.length - t)) (listed.setIfInBounds j true) a' w' := fun a' w' hC' hm' =>
        ih (pre ++ post) (listed.setIfInBounds j true) a' w' hlen' hsort' hmem' htl' (by simpa using hsz) hcl' hC' hm'
      unfold wpOp
      simp only [hoj]
      rcases pull hs hoj post pre a w hC hap hm with ⟨v, hv, k⟩ | ⟨-, hW, k⟩
      · rcases hv with ⟨hW, hr⟩ | ⟨hW, rfl⟩
        · rw [if_pos (show Region.wanted _ _ = true from hW)]
          refine .inl ?_
          unfold Oper.wp
          rw [hr w hC]
          exact next _ _ hC k
        · rw [if_neg (by unfold Wanted at hW; rw [hW]; exact Bool.false_ne_true)]
          exact next _ _ hC k
      · rw [if_pos (show Region.wanted _ _ = true from hW)]
        exact .inl (wp_of_Eff (fun v w' hk => next _ _ hk.1 hk.2) k)

theorem region_drawnT {D : World → Prop} {id t : Nat} {l : List Oper} {Q : Exit → Act → World → Prop} {a : Act} {w : World} (hm : P.follows .mixedOrders = true) (hok : regionOkT l E t = true) (ht : t ≤ l.length)
    (hC : C { w with drawn := w.drawn + 1 }) (h : Mix P l.toArray C E (fun a w => D w ∧ Mix P l.toArray D (fun _ => true) (fun a w => Q .normal a w) (List.range' t (l.length - t)) a w) (List.range t) a { w with drawn := w.drawn + 1 }) :
    (Code.region id l.toArray true).wp P Q a w := by
  refine wp_region_any hm ?_
  have := any_of_mixT (P := P) (C := C) (Q := Q) hok ht t (List.range t) (Array.replicate l.length false) a { w with drawn := w.drawn + 1 } (by simp) List.pairwise_lt_range
    (fun i => by
      rw [List.mem_range]
      constructor
      · intro hi
        refine ⟨hi, ?_⟩
        rw [Array.getD_eq_getD_getElem?, Array.getElem?_eq_getElem (by simp; omega)]
        simp
      · exact fun hi => hi.1)
    (fun i hi _ => by rw [Array.getD_eq_getD_getElem?, Array.getElem?_eq_getElem (by simpa using hi)]; simp)
    (by simp) (fun k o _ hk e _ _ => by
      exfalso
      by_cases hlt : k < l.length
      · simp [Array.getD_eq_getD_getElem?, hlt] at hk
      · simp [Array.getD_eq_getD_getElem?, hlt] at hk) hC h
  rw [show t + (l.length - t) = l.length by omega] at this
  simpa using this
end tail

section take
variable {P : Program} {C : World → Prop} {E : Nat → Bool}
theorem wanted_take {l : List Oper} {t : Nat} {o : Oper} {a : Act} (hg : ∀ g, o.guard = some g → g.1 < t) : Wanted (l.take t).toArray o a = Wanted l.toArray o a := by
  unfold Wanted Region.wanted
  cases ho : o.guard with
  | none => rfl
  | some g =>
    have := hg g ho
    simp only [yielded]
    have e : (l.take t).toArray[g.1]? = l.toArray[g.1]? := by simp [this]
    rw [e]
theorem mix_take {l : List Oper} {t : Nat} {Q : Act → World → Prop} (hg : ∀ (j : Nat) (oj : Oper) (g : Nat × Bool), l[j]? = some oj → oj.guard = some g → g.1 < j) : ∀ (L : List Nat) (a : Act) (w : World), (∀ i ∈ L, i < t) →
    Mix P (l.take t).toArray C E Q L a w → Mix P l.toArray C E Q L a w
  | [], a, w, _, h => h
  | i :: L, a, w, hL, ⟨o, ho, h⟩ => by
    have hi := hL i (by simp)
    have ho' : l[i]? = some o := by simpa [List.getElem?_take, hi] using ho
    have hw : Wanted (l.take t).toArray o a = Wanted l.toArray o a := wanted_take fun g hgo => Nat.lt_trans (hg i o g ho' hgo) hi
    refine ⟨o, by simpa using ho', ?_⟩
    rcases h with ⟨v, hv, k⟩ | ⟨h1, h2, k⟩
    · refine .inl ⟨v, ?_, mix_take hg L _ _ (fun j hj => hL j (by simp [hj])) k⟩
      unfold Stab at hv ⊢
      rwa [hw] at hv
    · exact .inr ⟨h1, by rw [← hw]; exact h2, Eff_mono (fun v w' hk => ⟨hk.1, mix_take hg L _ _ (fun j hj => hL j (by simp [hj])) hk.2⟩) k⟩
end take

/-- Behind the head of a region: its last operations, in the text's order. -/
def TailQ (P : Program) (n : Nat) (ops : List Oper) (t : Nat) (Q : Post) : Post
  | .normal, l, h => S P n ops (fun _ => True) (fun _ => true) Q t l h
  | e, l, h => Q e l h
theorem tail_end {P : Program} {n : Nat} {ops : List Oper} {t : Nat} {Q : Post} {l : Fr} {h : Hp} (k : S P n ops (fun _ => True) (fun _ => true) Q t l h) : At (TailQ P n ops t Q) .normal l h := ⟨k⟩


section rules
variable {P : Program} {n : Nat} {Q : Post} {l : Fr} {h : Hp}
theorem mix_monoQ {ops : Array Oper} {C : World → Prop} {E : Nat → Bool} {Q Q' : Act → World → Prop} (hQ : ∀ a w, Q a w → Q' a w) (L : List Nat) (a : Act) (w : World) (k : Mix P ops C E Q L a w) : Mix P ops C E Q' L a w := mix_mono hQ L a w k
/-- A drawn region: its operations ahead of the number t in the text's order, in a class of heaps; then the last ones. -/
theorem r_drawnT {c : Code} (t : Nat) (Ch : Hp → Prop) (hc : tagOf c = .region true) (hm : P.follows .mixedOrders = true) (hok : regionOkT (opsOf c) (effB (opsOf c)) t = true) (ht : Nat.ble t (opsOf c).length = true) (hC : Ch h)
    (k : S P n ((opsOf c).take t) Ch (effB (opsOf c)) (TailQ P n (opsOf c) t Q) 0 l h) : W P n c Q l h := W.mk fun a w hf hw => by
  cases c <;> cases hc
  rename_i id ops
  have ht' : t ≤ ops.toList.length := Nat.le_of_ble_eq_true ht
  obtain ⟨-, -, hg, -, -⟩ := regionOkT_spec hok
  have key : ∀ w0 : World, w0.heap = w.heap → Oth w w0 → Mix P ops.toList.toArray (fun w' => Oth w w' ∧ Ch w'.heap) (effB ops.toList) (fun a w' => (Oth w w' ∧ True) ∧ Mix P ops.toList.toArray (fun w' => Oth w w' ∧ True) (fun _ => true) (fun a w2 => lift n Q w .normal a w2) (List.range' t (ops.toList.length - t)) a w') (List.range t) a w0 := fun w0 hw0 ho => by
    have h1 := k.run a w0 w hf (by rw [hw0]; exact hw) ho
    have hlen : ((opsOf (Code.region id ops true)).take t).length = t := by
      show (ops.toList.take t).length = t
      rw [List.length_take]; omega
    rw [Nat.sub_zero, hlen, ← List.range_eq_range'] at h1
    have h2 := mix_take (P := P) (E := effB ops.toList) (l := ops.toList) (t := t) hg (List.range t) a w0 (fun i hi => List.mem_range.1 hi) h1
    refine mix_mono (fun a' w' hq => ?_) _ _ _ h2
    obtain ⟨l', g1, g2, g3⟩ := hq
    refine ⟨⟨g3, trivial⟩, ?_⟩
    have h3 := g2.run a' w' w g1 rfl g3
    have e : opsOf (Code.region id ops true) = ops.toList := rfl
    rw [e] at h3
    exact h3
  have := region_drawnT (P := P) (id := id) (l := ops.toList) (E := effB ops.toList) (Q := lift n Q w) (C := fun w' => Oth w w' ∧ Ch w'.heap) (D := fun w' => Oth w w' ∧ True) hm hok ht' (a := a) (w := w) ⟨⟨rfl, rfl, rfl⟩, by rw [← hw] at hC; exact hC⟩ (key { w with drawn := w.drawn + 1 } rfl ⟨rfl, rfl, rfl⟩)
  simpa using this
end rules
end Go.Den
