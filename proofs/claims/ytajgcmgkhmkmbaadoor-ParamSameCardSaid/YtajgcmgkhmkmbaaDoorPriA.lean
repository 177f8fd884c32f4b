/- Package prime: the test, told by a function. Condition: the table of math/bits reads as it is laid. -/
import Derived.Test.YtajgcmgkhmkmbaaDoorDenL
import Derived.Test.YtajgcmgkhmkmbaaDoorWord
namespace Go.Proofs.YtajgcmgkhmkmbaaDoor
set_option linter.unusedVariables false
set_option maxRecDepth 8000
open Go Go.Den Go.RowKit

def tzT : List Nat := [0, 1, 56, 2, 57, 49, 28, 3, 61, 58, 42, 50, 38, 29, 17, 4, 62, 47, 59, 36, 45, 43, 51, 22, 53, 39, 33, 30, 24, 18, 12, 5, 63, 55, 48, 27, 60, 41, 37, 16, 46, 35, 44, 21, 52, 32, 23, 11, 54, 26, 40, 15, 34, 20, 31, 10, 25, 14, 19, 9, 13, 8, 7, 6]
def tz (x : Nat) : Nat := if x = 0 then 64 else tzT.getD ((x &&& (18446744073709551616 - x) % 18446744073709551616) * 285870213051353865 % 18446744073709551616 / 2 ^ 58) 0
theorem tzT_le : ∀ j, tzT.getD j 0 ≤ 64 := by
  intro j
  by_cases hj : j < tzT.length
  · have : ∀ k : Fin 64, tzT.getD k.val 0 ≤ 64 := by decide
    exact this ⟨j, hj⟩
  · rw [List.getD_eq_getElem?_getD, List.getElem?_eq_none (by omega)]; decide
theorem tz_le (x : Nat) : tz x ≤ 64 := by
  unfold tz
  split
  · omega
  · exact tzT_le _

/-- The table of math/bits in memory. -/
def TB (h : Hp) : Prop := Cells h (.pointer (some ⟨0, 0, none⟩)) (tzT.map fun b => .int .u8 ((b : Nat) : Int))
theorem TB.ext {h h' : Hp} (s : TB h) (e : Ext h h') : TB h' := Cells.ext s e

theorem mul_lt58 (a : Nat) : a % 18446744073709551616 / 2 ^ 58 < 64 := by
  have : a % 18446744073709551616 < 18446744073709551616 := Nat.mod_lt _ (by decide)
  omega

theorem tz_nth (j : Nat) (hj : j < 64) : nth (tzT.map fun b => Value.int .u8 ((b : Nat) : Int)) j = some (.int .u8 ((tzT.getD j 0 : Nat) : Int)) := by
  rw [nth_eq, List.getElem?_map, List.getD_eq_getElem?_getD, List.getElem?_eq_getElem (show j < tzT.length from hj)]; rfl
theorem Tryd_ent83 : Ent Tryd.prog 83 := ent_of Tryd.func83 (by kernel_rfl) rfl
theorem tz_spec (x : Nat) (h : Hp) (T : TB h) (hx : x < 18446744073709551616) :
    CallsH Tryd.prog 83 [U x] h fun v h' => v = N (tz x) ∧ h = h' := by
  have T' := T
  unfold TB at T
  (apply enter Tryd.func83 rfl Tryd.ntmps83 rfl)
  refine runJ ?_
  (apply w_condD; exact rfl; exact rfl) <;> intro h0
  · refine runJ ?_
    exact fin1 rfl rfl ⟨by unfold tz; rw [if_pos h0], rfl⟩
  · have hm : (18446744073709551616 - x) % 18446744073709551616 < 18446744073709551616 := Nat.mod_lt _ (by decide)
    refine runJ ?_
    (apply s_mulUw; (first | exact isK_c | exact isK_t rfl); (first | exact isK_c | exact isK_t rfl); exact rfl)
    refine runJ ?_
    have h58 := mul_lt58 ((x &&& (18446744073709551616 - x) % 18446744073709551616) * 285870213051353865)
    have hval : tz x = tzT.getD ((x &&& (18446744073709551616 - x) % 18446744073709551616) * 285870213051353865 % 18446744073709551616 / 2 ^ 58) 0 := by unfold tz; rw [if_neg h0]
    have hj := tz_nth _ h58
    have hg := tzT_le ((x &&& (18446744073709551616 - x) % 18446744073709551616) * 285870213051353865 % 18446744073709551616 / 2 ^ 58)
    rw [← hval] at hj hg
    apply s_indexArr rfl rfl (isK_t rfl) rfl rfl rfl h58
    repeat (apply w_seq; exact rfl)
    refine s_op rfl rfl (s_loadP rfl rfl (rd_cellP T) rfl hj ?_)
    refine runJ ?_
    exact fin1 rfl rfl ⟨rfl, rfl⟩

def holdsLoop (n : Nat) : Nat → Nat → Bool
  | 0, _ => false
  | k + 1, x => mulm x x n == n - 1 || holdsLoop n k (mulm x x n)
def holdsB (n d s a : Nat) : Bool := a % n == 0 || (powm (a % n) d n == 1 || (powm (a % n) d n == n - 1 || holdsLoop n (s - 1) (powm (a % n) d n)))
def bases : List Nat := [2, 325, 9375, 28178, 450775, 9780504, 1795265022]
def isB (n : Nat) : Bool := if n < 4 ∨ n % 2 = 0 then n == 2 || n == 3 else bases.all (holdsB n ((n - 1) / 2 ^ tz (n - 1)) (tz (n - 1)))

theorem Tryd_ent84 : Ent Tryd.prog 84 := ent_of Tryd.func84 (by kernel_rfl) rfl
theorem holds_spec (n d s a : Nat) (h : Hp) (hn : 0 < n) (hn2 : n < 18446744073709551616) (hd : d < 18446744073709551616) (hs : s ≤ 64) (ha : a < 18446744073709551616) :
    CallsH Tryd.prog 84 [.agg #[U n, U d, N s], U a] h fun v' h' => v' = .bool (holdsB n d s a) ∧ Ext h h' := by
  have ham : a % n < n := Nat.mod_lt _ hn
  (apply enter Tryd.func84 rfl Tryd.ntmps84 rfl)
  refine runJ ?_
  (apply s_box; exact rfl; exact rfl; exact rfl; exact rfl)
  intro p h1 x1 e1 b1
  (try dsimp only [Value.cells, List.toList_toArray] at x1)
  refine ⟨(by first | exact trivial | exact Ext.refl _ | assumption | exact Ext.trans (by assumption) (by assumption)), ?_⟩
  refine runJ ?_
  (apply w_condD; exact rfl; exact rfl) <;> intro h0
  · refine runJ ?_
    exact fin1 rfl rfl ⟨by unfold holdsB; simp [h0], e1⟩
  refine runJ ?_
  apply (s_call Tryd_ent92 rfl rfl rfl)
  refine (pow_spec _ d n h1 (by omega) hd hn2).mono ?_
  rintro _ _ ⟨rfl, rfl⟩
  refine ⟨(by first | exact trivial | exact Ext.refl _ | assumption | exact Ext.trans (by assumption) (by assumption)), ?_⟩
  have hp : powm (a % n) d n < n := by unfold powm; rw [if_neg (by omega)]; exact Nat.mod_lt _ hn
  refine runJ ?_
  (apply s_splitG; exact rfl; exact rfl; exact rfl; exact rfl) <;> intro h1x
  · refine runJ ?_
    exact fin1 rfl rfl ⟨by unfold holdsB; simp [h1x], e1⟩
  refine runJ ?_
  (apply w_condD; exact rfl; exact rfl) <;> intro h2x
  · refine runJ ?_
    exact fin1 rfl rfl ⟨by unfold holdsB; simp [h2x], e1⟩
  have hB : holdsB n d s a = holdsLoop n (s - 1) (powm (a % n) d n) := by
    unfold holdsB
    rw [beq_eq_false_iff_ne.2 h0, beq_eq_false_iff_ne.2 h1x, beq_eq_false_iff_ne.2 h2x]; rfl
  refine runJ ?_
  (first | (apply w_seqB; exact rfl; apply w_block; exact rfl) | skip)
  apply (w_loop (σ := Nat × Nat) rfl (fun p' => [(2, p), (5, U p'.1), (29, I ((s : Int) - 1)), (30, N p'.2)])
    (fun p' h' => h1 = h' ∧ p'.1 < n ∧ p'.2 ≤ s - 1 ∧ holdsB n d s a = holdsLoop n (s - 1 - p'.2) p'.1) (fun p' => s - 1 - p'.2) (powm (a % n) d n, 0))
  · exact (Sub.cons rfl (Sub.cons rfl (Sub.cons rfl (Sub.cons rfl (Sub.nil _)))))
  · exact ⟨rfl, hp, Nat.zero_le _, hB⟩
  rintro ⟨x, j⟩ h' ⟨rfl, j1, j2, j3⟩
  dsimp only at j1 j2 j3 ⊢
  have hsx : ¬ x = n - 1 ∨ True := .inr trivial
  refine runJ ?_
  (apply w_condD; exact rfl; exact rfl) <;> intro hj
  · obtain ⟨k, hk⟩ : ∃ k, s - 1 - j = k + 1 := ⟨s - 1 - j - 1, by omega⟩
    rw [hk] at j3
    unfold holdsLoop at j3
    have hm : mulm x x n < n := mulm_lt hn
    refine runJ ?_
    apply (s_call Tryd_ent90 rfl rfl rfl)
    refine (mul_spec x x n h1 (by omega) (by omega) hn2).mono ?_
    rintro _ _ ⟨rfl, rfl⟩
    refine ⟨(by first | exact trivial | exact Ext.refl _ | assumption | exact Ext.trans (by assumption) (by assumption)), ?_⟩
    refine runJ ?_
    (apply w_condD; exact rfl; exact rfl) <;> intro he
    · refine runJ ?_
      exact fin1 rfl rfl ⟨by rw [j3, he]; simp, e1⟩
    · refine runJ ?_
      apply again_normal (mulm x x n, j + 1)
      · exact (Sub.cons rfl (Sub.cons rfl (Sub.cons rfl (Sub.cons rfl (Sub.nil _)))))
      · refine ⟨rfl, hm, by omega, ?_⟩
        dsimp only
        rw [j3, show s - 1 - (j + 1) = k by omega]
        simp [he]
      · dsimp only; omega
  · have : s - 1 - j = 0 := by omega
    rw [this] at j3
    unfold holdsLoop at j3
    refine runJ ?_
    exact fin1 rfl rfl ⟨by rw [j3], e1⟩

theorem Tryd_ent66 : Ent Tryd.prog 66 := ent_of Tryd.func66 (by kernel_rfl) rfl
theorem is_spec (n : Nat) (h : Hp) (T : TB h) (hn2 : n < 18446744073709551616) :
    CallsH Tryd.prog 66 [U n] h fun v' h' => v' = .bool (isB n) ∧ Ext h h' := by
  have hand : n &&& 1 = n % 2 := Nat.and_two_pow_sub_one_eq_mod n 1
  (apply enter Tryd.func66 rfl Tryd.ntmps66 rfl)
  refine runJ ?_
  (apply s_splitG; exact rfl; exact rfl; exact rfl; exact rfl) <;> intro h4
  · have hB : isB n = (n == 2 || n == 3) := by unfold isB; rw [if_pos (.inl h4)]
    refine runJ ?_
    (apply s_splitG; exact rfl; exact rfl; exact rfl; exact rfl) <;> intro h2
    · refine runJ ?_
      exact fin1 rfl rfl ⟨by rw [hB, h2]; rfl, Ext.refl _⟩
    · refine runJ ?_
      exact fin1 rfl rfl ⟨by rw [hB, beq_eq_false_iff_ne.2 h2]; rfl, Ext.refl _⟩
  refine runJ ?_
  (apply w_condD; exact rfl; exact rfl) <;> intro he
  · have hB : isB n = (n == 2 || n == 3) := by unfold isB; rw [if_pos (.inr (by rw [← hand]; exact he))]
    refine runJ ?_
    (apply s_splitG; exact rfl; exact rfl; exact rfl; exact rfl) <;> intro h2
    · refine runJ ?_
      exact fin1 rfl rfl ⟨by rw [hB, h2]; rfl, Ext.refl _⟩
    · refine runJ ?_
      exact fin1 rfl rfl ⟨by rw [hB, beq_eq_false_iff_ne.2 h2]; rfl, Ext.refl _⟩
  have hB : isB n = bases.all (holdsB n ((n - 1) / 2 ^ tz (n - 1)) (tz (n - 1))) := by unfold isB; rw [if_neg (by omega)]
  have htz := tz_le (n - 1)
  refine runJ ?_
  apply (s_call Tryd_ent83 rfl rfl rfl)
  refine (tz_spec (n - 1) h T (by omega)).mono ?_
  rintro _ _ ⟨rfl, rfl⟩
  refine ⟨(by first | exact trivial | exact Ext.refl _ | assumption | exact Ext.trans (by assumption) (by assumption)), ?_⟩
  have hd : (n - 1) / 2 ^ tz (n - 1) < 18446744073709551616 := Nat.lt_of_le_of_lt (Nat.div_le_self _ _) (by omega)
  generalize tz (n - 1) = s at hB htz hd
  generalize hdd : (n - 1) / 2 ^ s = d at hB hd
  refine runJ ?_
  refine o_know (t := 28) (u := U d) rfl (congrArg U hdd) ?_
  refine runJ ?_
  (apply (s_build ([U n, U d, N s])); exact rfl; exact rfl; exact rfl; (repeat (first | exact CellsAll.nil | (apply CellsAll.cons; (first | exact oneL (by assumption) | exact oneL (SlF.one (by assumption)) | exact oneL (SlF.one (OwnF.sl (by assumption))) | exact oneL (Var.one (by assumption)) | exact rfl)))); exact rfl; exact rfl)
  refine runJ ?_
  (apply (s_litF (f := U) [2, 325, 9375, 28178, 450775, 9780504, 1795265022] (fun _ => rfl)); exact rfl; exact rfl; exact rfl; exact rfl; exact rfl; exact rfl; exact rfl; exact rfl; omega)
  intro w h1 o1 e1 b1
  refine ⟨(by first | exact trivial | exact Ext.refl _ | assumption | exact Ext.trans (by assumption) (by assumption)), ?_⟩
  have w1 := o1.sl
  refine runJ ?_
  (first | (apply w_seqB; exact rfl; apply w_block; exact rfl) | skip)
  apply (w_loop (σ := Nat) rfl (fun j => [(4, .func (.func 84) #[.agg #[U n, U d, N s]] #[]), (32, w), (33, N bases.length), (34, N j)])
    (fun j h' => Ext h h' ∧ SlF h' U w bases ∧ j ≤ bases.length ∧ (bases.take j).all (holdsB n d s) = true) (fun j => bases.length - j) 0)
  · exact (Sub.cons rfl (Sub.cons rfl (Sub.cons rfl (Sub.cons rfl (Sub.nil _)))))
  · exact ⟨e1, w1, Nat.zero_le _, rfl⟩
  rintro j h2 ⟨e2, w2, j2, j3⟩
  have hbl : bases.length = 7 := rfl
  refine runJ ?_
  (apply w_condD; exact rfl; exact rfl) <;> intro hj
  · obtain ⟨b, hb⟩ : ∃ b, bases[j]? = some b := ⟨bases[j], by simp [hj]⟩
    have hb64 : b < 18446744073709551616 := by
      have := List.mem_of_getElem? hb
      have hall : ∀ x ∈ bases, x < 18446744073709551616 := by decide
      exact hall b this
    refine runJ ?_
    refine s_callV rfl Tryd_ent84 rfl rfl rfl ?_
    refine (holds_spec n d s b h2 (by omega) hn2 hd htz hb64).mono ?_
    rintro _ h3 ⟨rfl, e3⟩
    refine ⟨(by first | exact trivial | exact trivial), ?_⟩
    have e23 := e2.trans e3
    have w3 := w2.ext e3
    have htk : bases.take (j + 1) = bases.take j ++ [b] := by rw [List.take_add_one, hb]; rfl
    refine runJ ?_
    (apply w_cond; exact rfl; exact rfl) <;> intro hx
    · have hx' : holdsB n d s b = false := by simpa using hx
      refine runJ ?_
      refine fin1 rfl rfl ⟨?_, e23⟩
      rw [hB]
      congr 1
      symm
      rw [List.all_eq_false]
      exact ⟨b, List.mem_of_getElem? hb, by simp [hx']⟩
    · have hx' : holdsB n d s b = true := by simpa using hx
      refine runJ ?_
      apply again_normal (j + 1)
      · exact (Sub.cons rfl (Sub.cons rfl (Sub.cons rfl (Sub.cons rfl (Sub.nil _)))))
      · exact ⟨e23, w3, hj, by rw [htk, List.all_append, j3]; simp [hx']⟩
      · omega
  · rw [List.take_of_length_le (by omega)] at j3
    refine runJ ?_
    exact fin1 rfl rfl ⟨by rw [hB, j3], e2⟩
end Go.Proofs.YtajgcmgkhmkmbaaDoor
