/- Package crt: rows of primes, residues, products. Condition of what tests primes: the table of math/bits reads as it is laid. -/
import Derived.Test.YtajgcmgkhmkmbaaDoorPriA
import Derived.Test.YtajgcmgkhmkmbaaDoorAux
import Derived.Test.YtajgcmgkhmkmbaaDoorWordB
import Derived.Test.YtajgcmgkhmkmbaaDoorNatP
namespace Go.Proofs.YtajgcmgkhmkmbaaDoor
set_option linter.unusedVariables false
set_option maxRecDepth 8000
open Go Go.Den Go.RowKit Go.Dig

theorem Tryd_ent85 : Ent Tryd.prog 85 := ent_of Tryd.func85 (by kernel_rfl) rfl
theorem index_spec (v : Value) (xs : List Nat) (x : Nat) (h : Hp) (s : SlF h U v xs) (hl : xs.length < 4611686018427387904) :
    CallsH Tryd.prog 85 [v, U x] h fun v' h' => (∃ i : Int, v' = I i ∧ (0 ≤ i ↔ x ∈ xs)) ∧ h = h' := by
  (apply enter Tryd.func85 rfl Tryd.ntmps85 rfl)
  refine runJ ?_
  (first | (apply w_seqB; exact rfl; apply w_block; exact rfl) | skip)
  apply (w_loop (σ := Nat) rfl (fun j => [(0, v), (1, U x), (7, N xs.length), (8, N j)])
    (fun j h' => h = h' ∧ j ≤ xs.length ∧ x ∉ xs.take j) (fun j => xs.length - j) 0)
  · exact (Sub.cons rfl (Sub.cons rfl (Sub.cons rfl (Sub.cons rfl (Sub.nil _)))))
  · exact ⟨rfl, Nat.zero_le _, by simp⟩
  rintro j h' ⟨rfl, j1, j2⟩
  refine runJ ?_
  (apply w_condD; exact rfl; exact rfl) <;> intro hj
  · obtain ⟨y, hy⟩ := get_lt hj
    refine runJ ?_
    (apply w_condD; exact rfl; exact rfl) <;> intro hxy
    · refine runJ ?_
      exact fin1 rfl rfl ⟨⟨j, rfl, ⟨fun _ => hxy ▸ List.mem_of_getElem? hy, fun _ => by omega⟩⟩, rfl⟩
    · refine runJ ?_
      apply again_normal (j + 1)
      · exact (Sub.cons rfl (Sub.cons rfl (Sub.cons rfl (Sub.cons rfl (Sub.nil _)))))
      · refine ⟨rfl, hj, ?_⟩
        rw [take_snoc hy]
        intro hm
        rcases List.mem_append.1 hm with hm | hm
        · exact j2 hm
        · simp only [List.mem_singleton] at hm; exact hxy hm
      · omega
  · rw [List.take_of_length_le (by omega)] at j2
    refine runJ ?_
    exact fin1 rfl rfl ⟨⟨-1, rfl, ⟨fun h => by omega, fun h => absurd h j2⟩⟩, rfl⟩
theorem Tryd_ent67 : Ent Tryd.prog 67 := ent_of Tryd.func67 (by kernel_rfl) rfl
theorem contains_spec (v : Value) (xs : List Nat) (x : Nat) (h : Hp) (s : SlF h U v xs) (hl : xs.length < 4611686018427387904) :
    CallsH Tryd.prog 67 [v, U x] h fun v' h' => v' = .bool (decide (x ∈ xs)) ∧ h = h' := by
  (apply enter Tryd.func67 rfl Tryd.ntmps67 rfl)
  refine runJ ?_
  apply (s_call Tryd_ent85 rfl rfl rfl)
  refine (index_spec v xs x h s hl).mono ?_
  rintro _ _ ⟨⟨i, rfl, hi⟩, rfl⟩
  refine ⟨(by first | exact trivial | exact trivial), ?_⟩
  refine runJ ?_
  exact fin1 rfl rfl ⟨dec_i hi, rfl⟩

/-- May a row of primes be? -/
def rightP (row : List Nat) : Prop := (∀ q ∈ row, 3 ≤ q ∧ q < 2305843009213693952 ∧ isB q = true) ∧ row.Nodup ∧ 0 < row.length ∧ row.length ≤ 24
instance (row : List Nat) : Decidable (rightP row) := by unfold rightP; exact inferInstance

theorem Tryd_ent38 : Ent Tryd.prog 38 := ent_of Tryd.func38 (by kernel_rfl) rfl
set_option maxHeartbeats 1000000 in
theorem right_spec (v : Value) (row : List Nat) (h : Hp) (T : TB h) (s : SlF h U v row) (hal : Al 18446744073709551616 row) (hl : row.length < 4611686018427387904) :
    CallsH Tryd.prog 38 [v] h fun v' h' => v' = .bool (decide (rightP row)) ∧ Ext h h' := by
  (apply enter Tryd.func38 rfl Tryd.ntmps38 rfl)
  refine runJ ?_
  (first | (apply w_seqB; exact rfl; apply w_block; exact rfl) | skip)
  apply (w_loop (σ := Nat) rfl (fun j => [(0, v), (5, v), (6, N row.length), (7, N j)])
    (fun j h' => Ext h h' ∧ j ≤ row.length ∧ (∀ q ∈ row.take j, 3 ≤ q ∧ q < 2305843009213693952 ∧ isB q = true) ∧ (row.take j).Nodup) (fun j => row.length - j) 0)
  · exact (Sub.cons rfl (Sub.cons rfl (Sub.cons rfl (Sub.cons rfl (Sub.nil _)))))
  · exact ⟨Ext.refl _, Nat.zero_le _, by simp, by simp⟩
  rintro j h2 ⟨e2, j1, j2, j3⟩
  have s2 := s.ext e2
  refine runJ ?_
  (apply w_condD; exact rfl; exact rfl) <;> intro hj
  · obtain ⟨q, hq⟩ := get_lt hj
    have hqm := List.mem_of_getElem? hq
    have hq64 := hal q hqm
    have c1 := s2.cut (lo := 0) (hi := j) (Nat.zero_le _) j1
    rw [List.drop_zero, Nat.sub_zero] at c1
    refine runJ ?_
    (apply s_splitG; exact rfl; exact rfl; exact rfl; exact rfl) <;> intro h3
    · refine runJ ?_
      exact fin1 rfl rfl ⟨dec_f fun k => by have := k.1 q hqm; omega, e2⟩
    refine runJ ?_
    (apply s_splitG; exact rfl; exact rfl; exact rfl; exact rfl) <;> intro h61
    · refine runJ ?_
      exact fin1 rfl rfl ⟨dec_f fun k => by have := k.1 q hqm; omega, e2⟩
    refine runJ ?_
    apply (s_call Tryd_ent66 rfl rfl rfl)
    refine (is_spec q h2 (T.ext e2) hq64).mono ?_
    rintro _ h3' ⟨rfl, e3⟩
    refine ⟨(by first | exact trivial | exact trivial), ?_⟩
    have e23 := e2.trans e3
    have s3 := s.ext e23
    have c3 := c1.ext e3
    refine runJ ?_
    (apply s_splitGB; exact rfl; exact rfl; exact rfl; exact rfl) <;> intro hB
    · have hB : isB q = false := by simpa using hB
      refine runJ ?_
      exact fin1 rfl rfl ⟨dec_f (fun k => by have := (k.1 q hqm).2.2; rw [hB] at this; cases this), e23⟩
    have hB : isB q = true := by simpa using hB
    refine runJ ?_
    apply (s_call Tryd_ent67 rfl rfl rfl)
    refine (contains_spec _ (row.take j) q h3' c3 (by simp; omega)).mono ?_
    rintro _ _ ⟨rfl, rfl⟩
    refine ⟨(by first | exact trivial | exact Ext.refl _ | assumption | exact Ext.trans (by assumption) (by assumption)), ?_⟩
    refine runJ ?_
    (apply w_condD; exact rfl; exact rfl) <;> intro hin
    · refine runJ ?_
      exact fin1 rfl rfl ⟨dec_f fun k => not_nodup_at hq hin k.2.1, e23⟩
    · refine runJ ?_
      apply again_normal (j + 1)
      · exact (Sub.cons rfl (Sub.cons rfl (Sub.cons rfl (Sub.cons rfl (Sub.nil _)))))
      · refine ⟨e23, hj, ?_, ?_⟩
        · rw [take_snoc hq]
          intro y hy
          rcases List.mem_append.1 hy with hy | hy
          · exact j2 y hy
          · simp only [List.mem_singleton] at hy; subst hy; exact ⟨by omega, by omega, hB⟩
        · rw [take_snoc hq]; exact nodup_snoc j3 hin
      · omega
  · rw [List.take_of_length_le (by omega)] at j2 j3
    refine runJ ?_
    (apply s_splitG; exact rfl; exact rfl; exact rfl; exact rfl) <;> intro h0
    · refine runJ ?_
      exact fin1 rfl rfl ⟨dec_i ⟨fun h24 => ⟨j2, j3, h0, h24⟩, fun k => k.2.2.2⟩, e2⟩
    · refine runJ ?_
      exact fin1 rfl rfl ⟨dec_f fun k => h0 k.2.2.1, e2⟩

theorem resid_eq (neg : Bool) (X q : Nat) : (if neg then subm 0 (if q = 0 then 0 else X % q) q else (if q = 0 then 0 else X % q)) = liftm (IV neg X) q := by
  rcases Nat.eq_zero_or_pos q with rfl | hq
  · cases neg <;> simp [subm, liftm]
  · have hq0 : ¬ q = 0 := by omega
    simp only [hq0, if_false]
    cases neg with
    | false =>
      simp only [IV, Bool.false_eq_true, if_false]
      rw [lift_pos (by omega) (by omega), Int.toNat_natCast]
    | true =>
      simp only [IV, if_true]
      rcases Nat.eq_zero_or_pos X with rfl | hX
      · simp [liftm, subm]
      · rw [lift_neg (by omega) (by omega), Int.neg_neg, Int.toNat_natCast]
        unfold subm
        rw [Nat.mod_mod]

theorem Tryd_ent39 : Ent Tryd.prog 39 := ent_of Tryd.func39 (by kernel_rfl) rfl
theorem residue_spec (neg : Bool) (va : Value) (xs : List Nat) (q : Nat) (h : Hp) (s : SlF h U va xs) (hx : Al 18446744073709551616 xs) (hl : xs.length < 1099511627776) (hq : q < 18446744073709551616) :
    CallsH Tryd.prog 39 [.agg #[.bool neg, va], U q] h fun v' h' => v' = U (liftm (IV neg (vl 18446744073709551616 xs)) q) ∧ Ext h h' := by
  have hr := resid_eq neg (vl 18446744073709551616 xs) q
  have hlt : (if q = 0 then 0 else vl 18446744073709551616 xs % q) < 18446744073709551616 := by
    split
    · omega
    · exact Nat.lt_trans (Nat.mod_lt _ (by omega)) hq
  (apply enter Tryd.func39 rfl Tryd.ntmps39 rfl)
  refine runJ ?_
  (apply s_box; exact rfl; exact rfl; exact rfl; exact rfl)
  intro p h1 x1 e1 b1
  (try dsimp only [Value.cells, List.toList_toArray] at x1)
  refine ⟨(by first | exact trivial | exact Ext.refl _ | assumption | exact Ext.trans (by assumption) (by assumption)), ?_⟩
  refine runJ ?_
  apply (s_call Tryd_ent44 rfl rfl rfl)
  refine (mod_spec va xs q h1 (s.ext e1) hx hl hq).mono ?_
  rintro _ h2 ⟨rfl, e2⟩
  refine ⟨(by first | exact trivial | exact trivial), ?_⟩
  have x2 := x1.ext e2
  generalize (if q = 0 then 0 else vl 18446744073709551616 xs % q) = r at hr hlt
  refine runJ ?_
  (apply w_cond; exact rfl; exact rfl) <;> intro hn
  · rw [hn] at hr
    simp only [if_true] at hr
    refine runJ ?_
    apply (s_call Tryd_ent68 rfl rfl rfl)
    refine (sub_spec 0 r q h2 (by omega) hlt hq).mono ?_
    rintro _ _ ⟨rfl, rfl⟩
    refine ⟨(by first | exact trivial | exact Ext.refl _ | assumption | exact Ext.trans (by assumption) (by assumption)), ?_⟩
    refine runJ ?_
    exact fin1 rfl rfl ⟨by rw [hn, hr], e1.trans e2⟩
  · rw [hn] at hr
    simp only [Bool.false_eq_true, if_false] at hr
    refine runJ ?_
    exact fin1 rfl rfl ⟨by rw [hn, hr], e1.trans e2⟩

theorem Tryd_ent9 : Ent Tryd.prog 9 := ent_of Tryd.func9 (by kernel_rfl) rfl
theorem residues_spec (neg : Bool) (va vr : Value) (xs row : List Nat) (h : Hp) (T : TB h) (s : SlF h U va xs) (hx : Al 18446744073709551616 xs) (hl : xs.length < 1099511627776) (sr : SlF h U vr row) (hr : Al 18446744073709551616 row) (hrl : row.length < 1000000) :
    CallsH Tryd.prog 9 [.agg #[.bool neg, va], vr] h fun v' h' => Ext h h' ∧ ∃ u, v' = .tuple #[u, N (if rightP row then 0 else 1)] ∧ OwnF h' h.size 31 U u (if rightP row then row.map (liftm (IV neg (vl 18446744073709551616 xs))) else []) := by
  (apply enter Tryd.func9 rfl Tryd.ntmps9 rfl)
  refine runJ ?_
  (apply s_box; exact rfl; exact rfl; exact rfl; exact rfl)
  intro p h1 x1 e1 b1
  (try dsimp only [Value.cells, List.toList_toArray] at x1)
  refine ⟨(by first | exact trivial | exact Ext.refl _ | assumption | exact Ext.trans (by assumption) (by assumption)), ?_⟩
  refine runJ ?_
  apply (s_call Tryd_ent38 rfl rfl rfl)
  refine (right_spec vr row h1 (T.ext e1) (sr.ext e1) hr (by omega)).mono ?_
  rintro _ h2 ⟨rfl, e2⟩
  refine ⟨(by first | exact trivial | exact trivial), ?_⟩
  have x2 := x1.ext e2
  have e12 := e1.trans e2
  have sr2 := sr.ext e12
  refine runJ ?_
  refine w_sub (l' := [(1, vr), (2, p), (11, .bool (decide (¬ rightP row)))]) (Sub.cons rfl (Sub.cons rfl (Sub.consE rfl (congrArg Value.bool (by simp)) (Sub.nil _)))) ?_
  (apply w_condD; exact rfl; exact rfl) <;> intro hR
  · simp only [hR, if_false]
    refine runJ ?_
    exact fin2 rfl rfl rfl ⟨e12, _, rfl, OwnF.nil _ _ _ _⟩
  have hR : rightP row := Decidable.of_not_not hR
  simp only [hR, if_true]
  have hr24 := hR.2.2.2
  refine runJ ?_
  (first | (apply w_seqB; exact rfl; apply w_block; exact rfl) | skip)
  apply (w_loop (σ := Nat × Value) rfl (fun j => [(2, p), (6, j.2), (12, vr), (13, N row.length), (14, N j.1)])
    (fun j h' => Ext h2 h' ∧ OwnF h' h2.size 31 U j.2 ((row.take j.1).map (liftm (IV neg (vl 18446744073709551616 xs)))) ∧ j.1 ≤ row.length) (fun j => row.length - j.1) (0, .slice none 0 0))
  · exact (Sub.cons rfl (Sub.cons rfl (Sub.cons rfl (Sub.cons rfl (Sub.cons rfl (Sub.nil _))))))
  · exact ⟨Ext.refl _, OwnF.nil _ _ _ _, Nat.zero_le _⟩
  rintro ⟨j, u⟩ h3 ⟨e3, o3, j1⟩
  dsimp only at e3 o3 j1 ⊢
  have sr3 := sr2.ext e3
  have x3 := x2.ext e3
  refine runJ ?_
  (apply w_condD; exact rfl; exact rfl) <;> intro hj
  · obtain ⟨q, hq⟩ := get_lt hj
    have hq64 := hr q (List.mem_of_getElem? hq)
    refine runJ ?_
    apply (s_call Tryd_ent39 rfl rfl rfl)
    refine (residue_spec neg va xs q h3 (s.ext (e12.trans e3)) hx hl hq64).mono ?_
    rintro _ h4 ⟨rfl, e4⟩
    refine ⟨(by first | exact trivial | exact trivial), ?_⟩
    have o4 := o3.ext e4
    have e34 := e3.trans e4
    have hul : ((row.take j).map (liftm (IV neg (vl 18446744073709551616 xs)))).length ≤ 24 := by simp; omega
    refine runJ ?_
    (refine s_app1 (bytes := 8) (liftm (IV neg (vl 18446744073709551616 xs)) q) o4 e34 rfl rfl rfl rfl rfl rfl rfl rfl rfl (by first | exact rfl | exact congrArg some (congrArg I (by omega))) (fun _ => rfl) rfl rfl (fun _ _ => trivial) (by omega) (by simp only [maxLen]; omega) ?_)
    intro u' h5 o5 e5 k5 b5
    refine runJ ?_
    apply again_normal (j + 1, u')
    · exact (Sub.cons rfl (Sub.cons rfl (Sub.cons rfl (Sub.cons rfl (Sub.cons rfl (Sub.nil _))))))
    · refine ⟨e5, ?_, hj⟩
      rw [take_snoc hq, List.map_append]; exact o5
    · dsimp only; omega
  · rw [List.take_of_length_le (by omega)] at o3
    refine runJ ?_
    exact fin2 rfl rfl rfl ⟨e12.trans e3, _, rfl, o3.base e12.1⟩

def prodL (row : List Nat) : Nat := row.foldl (· * ·) 1
theorem prodL_snoc (row : List Nat) (q : Nat) : prodL (row ++ [q]) = prodL row * q := by unfold prodL; rw [List.foldl_append]; rfl
theorem prodL_lt {row : List Nat} (h : Al 18446744073709551616 row) : prodL row < 18446744073709551616 ^ (row.length + 1) := by
  have key : ∀ (n : Nat), n ≤ row.length → prodL (row.take n) < 18446744073709551616 ^ (n + 1) := by
    intro n
    induction n with
    | zero => intro _; simp [prodL]
    | succ n ih =>
      intro hn
      obtain ⟨q, hq⟩ := get_lt (l := row) (j := n) (by omega)
      have hq64 := h q (List.mem_of_getElem? hq)
      rw [take_snoc hq, prodL_snoc, Nat.pow_succ]
      exact Nat.mul_lt_mul_of_lt_of_lt (ih (by omega)) hq64
  have := key row.length (Nat.le_refl _)
  rwa [List.take_of_length_le (Nat.le_refl _)] at this

theorem Tryd_ent37 : Ent Tryd.prog 37 := ent_of Tryd.func37 (by kernel_rfl) rfl
theorem product_spec (v : Value) (row : List Nat) (h : Hp) (s : SlF h U v row) (hal : Al 18446744073709551616 row) (hl : row.length < 1000000) :
    CallsH Tryd.prog 37 [v] h fun v' h' => Ext h h' ∧ OwnF h' h.size 31 U v' (if row = [] then [1] else dg 18446744073709551616 (prodL row)) := by
  (apply enter Tryd.func37 rfl Tryd.ntmps37 rfl)
  refine runJ ?_
  (apply (s_litF (f := U) [1] (fun _ => rfl)); exact rfl; exact rfl; exact rfl; exact rfl; exact rfl; exact rfl; exact rfl; exact rfl; omega)
  intro w h1 o1 e1 b1
  refine ⟨(by first | exact trivial | exact Ext.refl _ | assumption | exact Ext.trans (by assumption) (by assumption)), ?_⟩
  have s1 := s.ext e1
  refine runJ ?_
  (first | (apply w_seqB; exact rfl; apply w_block; exact rfl) | skip)
  apply (w_loop (σ := Nat × Value) rfl (fun j => [(3, j.2), (7, v), (8, N row.length), (9, N j.1)])
    (fun j h' => Ext h h' ∧ OwnF h' h.size 31 U j.2 (if j.1 = 0 then [1] else dg 18446744073709551616 (prodL (row.take j.1))) ∧ j.1 ≤ row.length) (fun j => row.length - j.1) (0, w))
  · exact (Sub.cons rfl (Sub.cons rfl (Sub.cons rfl (Sub.cons rfl (Sub.nil _)))))
  · exact ⟨e1, o1, Nat.zero_le _⟩
  rintro ⟨j, u⟩ h3 ⟨e3, o3, j1⟩
  dsimp only at e3 o3 j1 ⊢
  have s3 := s.ext e3
  refine runJ ?_
  (apply w_condD; exact rfl; exact rfl) <;> intro hj
  · obtain ⟨q, hq⟩ := get_lt hj
    have hq64 := hal q (List.mem_of_getElem? hq)
    have hv : vl 18446744073709551616 (if j = 0 then [1] else dg 18446744073709551616 (prodL (row.take j))) = prodL (row.take j) := by
      split
      · rename_i h0; subst h0; rfl
      · rw [vl_dg (by decide)]
    have ha : Al 18446744073709551616 (if j = 0 then [1] else dg 18446744073709551616 (prodL (row.take j))) := by
      split
      · intro x hx; simp at hx; omega
      · exact al_dg (by decide) _
    have hln : (if j = 0 then [1] else dg 18446744073709551616 (prodL (row.take j))).length < 1099511627776 := by
      split
      · decide
      · have := dg_len (b := 18446744073709551616) (by decide) (prodL_lt (fun x hx => hal x (List.mem_of_mem_take hx) : Al 18446744073709551616 (row.take j)))
        have h2 : (row.take j).length ≤ row.length := by simp; omega
        omega
    refine runJ ?_
    (apply (s_litF (f := U) [q] (fun _ => rfl)); exact rfl; exact rfl; exact rfl; exact rfl; exact rfl; exact rfl; exact rfl; exact rfl; omega)
    intro w2 h4 o4 e4 b4
    refine ⟨(by first | exact trivial | exact Ext.refl _ | assumption | exact Ext.trans (by assumption) (by assumption)), ?_⟩
    have hqa : Al 18446744073709551616 [q] := fun x hx => by simp only [List.mem_singleton] at hx; subst hx; exact hq64
    refine runJ ?_
    apply (s_call Tryd_ent65 rfl rfl rfl)
    refine (nmul_spec u w2 _ [q] h4 (o3.sl.ext e4) o4.sl ha hqa hln (by simp)).mono ?_
    rintro u' h5 ⟨e5, o5⟩
    refine ⟨(by first | exact trivial | exact trivial), ?_⟩
    have e35 := (e3.trans e4).trans e5
    rw [hv] at o5
    have hq1 : vl 18446744073709551616 [q] = q := by simp [vl]
    rw [hq1, ← prodL_snoc, ← take_snoc hq] at o5
    refine runJ ?_
    apply again_normal (j + 1, u')
    · exact (Sub.cons rfl (Sub.cons rfl (Sub.cons rfl (Sub.cons rfl (Sub.nil _)))))
    · refine ⟨e35, ?_, hj⟩
      rw [if_neg (by omega)]
      exact o5.base (Nat.le_trans e3.1 e4.1)
    · dsimp only; omega
  · have hjl : j = row.length := by omega
    subst hjl
    rw [List.take_of_length_le (Nat.le_refl _)] at o3
    refine runJ ?_
    refine fin1 rfl rfl ⟨e3, ?_⟩
    simpa [List.length_eq_zero_iff] using o3
end Go.Proofs.YtajgcmgkhmkmbaaDoor
