/- Texts SrcB to DrwB of this work, joined, without what the law does not lean on. -/
import Derived.Test.YtfcmdefigldpnaaGreatDoorMCb24
namespace Go.Proofs.YtfcmdefigldpnaaGreatDoor
set_option linter.unusedVariables false
set_option maxRecDepth 8000
open Go Go.Den Go.RowKit Go.Mth

theorem Tryz_ent80 : Ent Tryz.prog 80 := ent_of Tryz.func80 (by kernel_rfl) rfl
theorem refStep_spec (m : Nat) (h : Hp) (hm1 : 1 ≤ m) (hm2 : m ≤ 12) :
    CallsH Tryz.prog 80 [U (2 ^ m)] h fun v' h' => v' = .bool true ∧ h = h' := by
  have hb : 2 ^ m ≤ 4096 := Nat.pow_le_pow_right (n := 2) (j := 12) (by omega) hm2
  have hinj : ∀ i, i ≤ m → (2 ^ i = 2 ^ m ↔ i = m) := fun i hi => by
    constructor
    · intro e
      rcases Nat.lt_or_ge i m with h1 | h1
      · have := Nat.pow_lt_pow_right (a := 2) (by omega) h1; omega
      · omega
    · rintro rfl; rfl
  have hle : ∀ i, i ≤ m → 2 ^ i ≤ 2 ^ m := fun i hi => Nat.pow_le_pow_right (by omega) hi
  generalize hx : 2 ^ m = x at *
  (apply enter Tryz.func80 rfl Tryz.ntmps80 rfl)
  refine runJ ?_
  (first | (apply w_seqB; exact rfl; apply w_block; exact rfl) | skip)
  apply (w_loop (σ := Nat × Nat) rfl (fun k => [(0, U x), (3, U k.1)])
    (fun k h' => h = h' ∧ k.1 = 2 ^ k.2 ∧ k.2 ≤ m) (fun k => m - k.2) (2, 1))
  · exact subs
  · exact ⟨rfl, rfl, hm1⟩
  rintro ⟨k, i⟩ h' ⟨rfl, k1, k2⟩
  dsimp only at k1 k2 ⊢
  have h1 := hle i k2
  have h2 := hinj i k2
  rw [← k1] at h1 h2
  refine runJ ?_
  (apply w_condT; exact rfl; exact rfl; exact (show k ≤ 8192 by omega))
  refine runJ ?_
  (apply w_condD; exact rfl; exact rfl) <;> intro hd
  · refine runJ ?_
    exact fin1 rfl rfl ⟨rfl, rfl⟩
  · have hi : i < m := by
      rcases Nat.lt_or_ge i m with h3 | h3
      · exact h3
      · exact absurd (h2.2 (by omega)).symm hd
    refine runJ ?_
    apply again_normal (2 * k, i + 1)
    · exact subs
    · exact ⟨rfl, by dsimp only; rw [k1, Nat.pow_succ, Nat.mul_comm], hi⟩
    · dsimp only; omega

def srchF (least step count : Nat) : Nat → Nat → List Nat → Option (Option (List Nat))
  | 0, _, _ => none
  | k + 1, c, out => if out.length < count then (if c ≤ least then some none else if c < step then some none else srchF least step count k (c - step) (if isR c then out ++ [c] else out)) else some (some out)

def SrchR (h h' : Hp) (v' : Value) : Option (List Nat) → Prop
  | none => ∃ e : Nat, v' = .tuple #[.slice none 0 0, N e]
  | some ys => ∃ w, v' = .tuple #[w, N 0] ∧ OwnF h' h.size 26 U w ys
theorem Tryz_ent32 : Ent Tryz.prog 32 := ent_of Tryz.func32 (by kernel_rfl) rfl
set_option maxHeartbeats 1000000 in
theorem refSearch_spec (bits m count fuel : Nat) (r : Option (List Nat)) (h : Hp) (hb1 : 4 ≤ bits) (hb2 : bits ≤ 61) (hm1 : 1 ≤ m) (hm2 : m ≤ 12) (hc1 : 1 ≤ count) (hc2 : count ≤ 16)
    (hr : srchF (2 ^ (bits - 1)) (2 ^ m) count fuel ((2 * 2 ^ (bits - 1) - 2) / 2 ^ m * 2 ^ m + 1) [] = some r) :
    CallsH Tryz.prog 32 [N bits, U (2 ^ m), N count] h fun v' h' => Ext h h' ∧ SrchR h h' v' r := by
  have SS := refStep_spec m h hm1 hm2
  have hL : 2 ^ (bits - 1) ≤ 2 ^ 60 := Nat.pow_le_pow_right (by omega) (by omega)
  have hL1 : 1 ≤ 2 ^ (bits - 1) := Nat.pow_pos (by omega)
  have h60 : (2 : Nat) ^ 60 = 1152921504606846976 := by decide
  have hM : 2 ^ m ≤ 4096 := Nat.pow_le_pow_right (n := 2) (j := 12) (by omega) hm2
  have hM1 : 1 ≤ 2 ^ m := Nat.pow_pos (by omega)
  generalize hx : 2 ^ m = x at *
  generalize hl : 2 ^ (bits - 1) = least at *
  have hdm : (2 * least - 2) / x * x ≤ 2 * least - 2 := Nat.div_mul_le_self _ _
  have hmb : (2 * least - 2) / x * x < 18446744073709551616 := by omega
  (apply enter Tryz.func32 rfl Tryz.ntmps32 rfl)
  refine runJ ?_
  (apply s_splitG; exact rfl; exact rfl; exact rfl; exact rfl) <;> intro g1
  · exact absurd g1 (by omega)
  refine runJ ?_
  (apply s_splitG; exact rfl; exact rfl; exact rfl; exact rfl) <;> intro g2
  · exact absurd g2 (by omega)
  refine runJ ?_
  apply (s_call Tryz_ent80 rfl rfl rfl)
  refine (SS).mono ?_
  rintro _ _ ⟨rfl, rfl⟩
  refine clsI ?_
  refine runJ ?_
  (apply s_splitG; exact rfl; exact rfl; exact rfl; exact rfl) <;> intro g3
  · exact absurd g3 (by omega)
  refine runJ ?_
  (apply w_condF; exact rfl; exact rfl; exact (show ¬ 16 < count by omega))
  refine runJ ?_
  rw [Nat.one_mul, hl]
  refine runJ ?_
  generalize hc0 : (2 * least - 2) / x * x = c0 at *
  refine runJ ?_
  (first | (apply w_seqB; exact rfl; apply w_block; exact rfl) | skip)
  apply (w_loop (σ := (Nat × Nat) × List Nat × Value) rfl (fun j => [(1, U x), (2, N count), (8, j.2.2), (9, U least), (10, U j.1.2)])
    (fun j h' => Ext h h' ∧ srchF least x count j.1.1 j.1.2 j.2.1 = some r ∧ j.1.2 ≤ 2 * least - 1 ∧ OwnF h' h.size 26 U j.2.2 j.2.1 ∧ j.2.1.length ≤ count) (fun j => j.1.1) ((fuel, c0 + 1), [], .slice none 0 0))
  · exact subs
  · exact ⟨Ext.refl _, hr, by dsimp only; omega, OwnF.nil _ _ _ _, Nat.zero_le _⟩
  clear hr
  rintro ⟨⟨k, c⟩, out, v⟩ h1 ⟨e1, hr, c1, o1, l1⟩
  dsimp only at e1 hr c1 o1 l1 ⊢
  rcases k with _ | k
  · exact absurd hr (by unfold srchF; exact fun e => by cases e)
  unfold srchF at hr
  refine runJ ?_
  (apply w_condD; exact rfl; exact rfl) <;> intro hlt
  · rw [if_pos hlt] at hr
    refine runJ ?_
    (apply w_condD; exact rfl; exact rfl) <;> intro hcl
    · rw [if_pos hcl] at hr
      cases hr
      refine runJ ?_
      exact fin2 rfl rfl rfl ⟨e1, 7, rfl⟩
    rw [if_neg hcl] at hr
    refine runJ ?_
    apply (s_call Tryz_ent81 rfl rfl rfl)
    refine (refIs_spec c h1 (by omega)).mono ?_
    rintro _ h2 ⟨rfl, e2⟩
    refine ⟨trivial, ?_⟩
    have e12 := e1.trans e2
    have o2 := o1.ext e2
    refine runJ ?_
    apply (w_tcut (σ := List Nat × Value) (fun j => [(1, U x), (2, N count), (8, j.2), (9, U least), (10, U c)]) (fun j h' => Ext h h' ∧ OwnF h' h.size 26 U j.2 j.1 ∧ j.1.length ≤ count ∧ j.1 = if isR c then out ++ [c] else out))
    · (apply w_cond; exact rfl; exact rfl) <;> intro hi
      · have hi : isR c = true := by simpa using hi
        refine runJ ?_
        (refine s_app1 (bytes := 8) (c) o2 e12 rfl rfl rfl rfl rfl rfl rfl rfl rfl (by first | exact rfl | exact congrArg some (congrArg I (by omega))) (fun _ => rfl) rfl rfl (fun _ _ => trivial) (by omega) (by simp only [maxLen]; omega) ?_)
        intro v3 h3 o3 e3 k3 b3
        refine runJ ?_
        apply cut_normal (out ++ [c], v3)
        · exact subs
        · exact ⟨e3, o3, by rw [List.length_append]; simp; omega, by rw [if_pos hi]⟩
      · have hi : ¬ isR c = true := by simpa using hi
        refine runJ ?_
        apply cut_normal (out, v)
        · exact subs
        · exact ⟨e12, o2, l1, by rw [if_neg hi]⟩
    rintro ⟨out', v'⟩ h3 ⟨e3, o3, l3, q3⟩
    dsimp only at e3 o3 l3 q3 ⊢
    refine runJ ?_
    (apply w_condD; exact rfl; exact rfl) <;> intro hcx
    · rw [if_pos hcx] at hr
      cases hr
      refine runJ ?_
      exact fin2 rfl rfl rfl ⟨e3, 7, rfl⟩
    · rw [if_neg hcx, ← q3] at hr
      refine runJ ?_
      apply again_normal ((k, c - x), out', v')
      · exact subs
      · exact ⟨e3, hr, by dsimp only; omega, o3, l3⟩
      · dsimp only; omega
  · rw [if_neg hlt] at hr
    cases hr
    refine runJ ?_
    exact fin2 rfl rfl rfl ⟨e1, v, rfl, o1⟩
end Go.Proofs.YtfcmdefigldpnaaGreatDoor


namespace Go.Den
set_option linter.unusedVariables false
set_option maxRecDepth 8000
open Go Go.RowKit

abbrev Y (x : Nat) : Value := .int .u8 ((x : Nat) : Int)
section rules
variable {P : Program} {n : Nat} {Q : Post} {l : Fr} {h : Hp} {ops : List Oper} {Ch : Hp → Prop} {E : Nat → Bool} {i d : Nat} {x y : Operand}
theorem s_quoU8 {a b : Nat} {t yt : TypeId} (hx : IsK (ev l x) .u8 a) (hy : IsK (ev l y) .u8 b) (hb : Nat.blt d n = true) (hn : 0 < b ∧ a < 256)
    (q : S P n ops Ch E Q (i + 1) ((d, .int .u8 ((a / b : Nat) : Int)) :: l) h) : O P n ops Ch E Q i d (.binOp .quo t x y yt) l h :=
  s_bin hx.h hy.h hb (fun w' => by
    show (Op.intDiv .quo .u8 (a : Int) (b : Int)).run P w' = _
    unfold Op.intDiv
    rw [if_neg (by omega)]
    show Result.ok (Value.int .u8 (IntKind.u8.wrap ((a : Int).tdiv b))) w' = _
    rw [← Int.ofNat_tdiv]
    have h1 : a / b ≤ a := Nat.div_le_self _ _
    have h2 : IntKind.u8.wrap ((a / b : Nat) : Int) = ((a / b : Nat) : Int) := by
      generalize a / b = c at *
      show ((c : Int) % 256) = _
      exact Int.emod_eq_of_lt (by omega) (by omega)
    rw [h2]) q
end rules
end Go.Den


namespace Go.Proofs.YtfcmdefigldpnaaGreatDoor
set_option linter.unusedVariables false
set_option maxRecDepth 8000
open Go Go.Den Go.RowKit Go.Mth Go.Dig

theorem spl_le : ∀ (k d s : Nat), (spl k d s).1 ≤ d
  | 0, d, s => Nat.le_refl _
  | k + 1, d, s => by
    unfold spl
    split
    · have := spl_le k (d / 2) (s + 1); omega
    · exact Nat.le_refl _
def strongRF (n a : Nat) : Bool := fp n 64 a (spl 64 (n - 1) 0).1 == 1 || (fp n 64 a (spl 64 (n - 1) 0).1 == n - 1 || holdsLoop n ((spl 64 (n - 1) 0).2 - 1) (fp n 64 a (spl 64 (n - 1) 0).1))
def isRF (n : Nat) : Bool := if n < 2 then false else if n < 65536 then trialR 300 2 n else basesR.all fun a => !(n % a == 0) && strongRF n a
theorem isR_fast {n : Nat} (hn : n < 18446744073709551616) : isR n = isRF n := by
  unfold isR isRF
  by_cases h0 : n = 0
  · subst h0; rfl
  have : strongR n = strongRF n := by
    funext a
    unfold strongR strongRF
    rw [powm_fp (by have := spl_le 64 (n - 1) 0; omega) h0]
  rw [this]
def srchQ (least step count : Nat) : Nat → Nat → List Nat → Option (Option (List Nat))
  | 0, _, _ => none
  | k + 1, c, out => if out.length < count then (if c ≤ least then some none else if c < step then some none else srchQ least step count k (c - step) (if isRF c then out ++ [c] else out)) else some (some out)
theorem srch_fast {least step count : Nat} : ∀ (k c : Nat) (out : List Nat), c < 18446744073709551616 → srchF least step count k c out = srchQ least step count k c out
  | 0, _, _, _ => rfl
  | k + 1, c, out, hc => by
    unfold srchF srchQ
    rw [isR_fast hc, srch_fast k _ _ (by omega)]

def tT : List (List Nat) := [[113, 449, 4049, 65521], [97, 449, 4001, 65089], [193, 449, 3457, 65089]]
def qT : List (List (List Nat)) := [[[33554273, 33553969, 33553697, 33553649, 33553633], [1073741441, 1073741329, 1073740609, 1073740529, 1073740177], [68719476577, 68719476433, 68719476257, 68719476209, 68719475809], [562949953421201, 562949953420609, 562949953420369, 562949953420097, 562949953419793]],
  [[33554273, 33553697, 33553633, 33553537, 33553313], [1073741441, 1073740609, 1073739937, 1073739649, 1073739617], [68719476577, 68719476257, 68719475809, 68719474849, 68719474529], [562949953420609, 562949953420097, 562949953418689, 562949953418401, 562949953417729]],
  [[33553537, 33553153, 33552641, 33551873, 33551041], [1073741441, 1073740609, 1073739649, 1073738753, 1073737537], [68719474049, 68719473793, 68719473281, 68719473217, 68719473089], [562949953420609, 562949953420097, 562949953418689, 562949953417729, 562949953416001]]]
def tOf (i j : Nat) : Nat := (tT.getD i []).getD j 0
def qOf (i j : Nat) : List Nat := (qT.getD i []).getD j []
def bT : List Nat := [7, 9, 12, 16]
def bQ : List Nat := [25, 30, 36, 49]
def startC (b m : Nat) : Nat := (2 * 2 ^ (b - 1) - 2) / 2 ^ m * 2 ^ m + 1
def tRes (i j : Nat) : Option (List Nat) := if i = 2 ∧ j = 0 then none else some [tOf i j]
def chkT9 (i j : Nat) : Bool := srchQ (2 ^ (bT.getD j 0 - 1)) (2 ^ (i + 4)) 1 200 (startC (bT.getD j 0) (i + 4)) [] == some (tRes i j)
def chkQ9 (i j c : Nat) : Bool := srchQ (2 ^ (bQ.getD j 0 - 1)) (2 ^ (i + 4)) c 200 (startC (bQ.getD j 0) (i + 4)) [] == some (some ((qOf i j).take c))
theorem chkT_all : ∀ i, i < 3 → ∀ j, j < 4 → chkT9 i j = true := by decide +kernel
theorem chkQ_0 : ∀ j, j < 4 → ∀ c, c < 4 → chkQ9 0 j (c + 2) = true := by decide +kernel
theorem chkQ_1 : ∀ j, j < 4 → ∀ c, c < 4 → chkQ9 1 j (c + 2) = true := by decide +kernel
theorem chkQ_2 : ∀ j, j < 4 → ∀ c, c < 4 → chkQ9 2 j (c + 2) = true := by decide +kernel
theorem chkQ_all {i j c : Nat} (hi : i < 3) (hj : j < 4) (hc : c < 4) : chkQ9 i j (c + 2) = true := by
  have : i = 0 ∨ i = 1 ∨ i = 2 := by omega
  rcases this with rfl | rfl | rfl
  · exact chkQ_0 j hj c hc
  · exact chkQ_1 j hj c hc
  · exact chkQ_2 j hj c hc

def primOk (L x : Nat) : Bool := Nat.blt x 1125899906842624 && (Nat.blt 1 x && (Nat.beq (x % (2 * 2 ^ L)) 1 && (isF x && (List.range 60).any fun i => Nat.beq (fp x 64 (fp x 64 (i + 2) ((x - 1) / 2 ^ (L + 1))) (2 ^ (L + 1) / 2)) (x - 1))))
theorem primOk_spec {L x : Nat} (hL : L ≤ 9) (h : primOk L x = true) : x < 1125899906842624 ∧ QOk L x := by
  unfold primOk at h
  rw [Bool.and_eq_true, Bool.and_eq_true, Bool.and_eq_true, Bool.and_eq_true] at h
  obtain ⟨h1, h2, h3, h4, h5⟩ := h
  have h1 : x < 1125899906842624 := Eq.mp Nat.blt_eq h1
  have h2 : 1 < x := Eq.mp Nat.blt_eq h2
  obtain ⟨i, hi, h5⟩ := List.any_eq_true.1 h5
  have hi := List.mem_range.1 hi
  have h5 := Nat.eq_of_beq_eq_true h5
  have hp : 2 ^ (L + 1) ≤ 2 ^ 10 := Nat.pow_le_pow_right (by decide) (by omega)
  have e10 : (2 : Nat) ^ 10 = 1024 := by decide
  refine ⟨h1, by omega, Nat.eq_of_beq_eq_true h3, h2, by rw [isB_fast (by omega) (by omega)]; exact h4, i + 2, by omega, by omega, ?_⟩
  have hd : (x - 1) / 2 ^ (L + 1) ≤ x - 1 := Nat.div_le_self _ _
  have hd2 : 2 ^ (L + 1) / 2 ≤ 2 ^ (L + 1) := Nat.div_le_self _ _
  generalize (x - 1) / 2 ^ (L + 1) = e at *
  generalize 2 ^ (L + 1) / 2 = e2 at *
  rw [powm_fp (by omega) (by omega), powm_fp (by omega) (by omega)]
  exact h5
def rowOk (i j : Nat) : Bool := (qOf i j).all (primOk (i + 3)) && ((qOf i j).length == 5 && ((List.range 6).all fun c => Nat.ble (nb (prodL ((qOf i j).take c))) 420))
theorem rowOk_0 : ∀ j, j < 4 → rowOk 0 j = true := by decide +kernel
theorem rowOk_1 : ∀ j, j < 4 → rowOk 1 j = true := by decide +kernel
theorem rowOk_2 : ∀ j, j < 4 → rowOk 2 j = true := by decide +kernel
theorem rowOk_all {i j : Nat} (hi : i < 3) (hj : j < 4) : rowOk i j = true := by
  have : i = 0 ∨ i = 1 ∨ i = 2 := by omega
  rcases this with rfl | rfl | rfl
  · exact rowOk_0 j hj
  · exact rowOk_1 j hj
  · exact rowOk_2 j hj
theorem q_nodup : ∀ i, i < 3 → ∀ j, j < 4 → (qOf i j).Nodup ∧ (∀ q ∈ qOf i j, 100000 < q) ∧ tOf i j < 100000 ∧ primOk (i + 3) (tOf i j) = true := by decide +kernel
theorem t_isR : ∀ i, i < 3 → ∀ j, j < 4 → isRF (tOf i j) = true := by decide +kernel

def pI (a : Nat) : Nat := a % 3
def pJ (a : Nat) : Nat := a / 3 % 4
def pC (b : Nat) : Nat := 2 + b % 4
def pK (b : Nat) : Nat := b / 4 % 4
def qPar (a b : Nat) : List Nat := (qOf (pI a) (pK b)).take (pC b)
def tPar (a : Nat) : Nat := tOf (pI a) (pJ a)
theorem qPar_facts (a b : Nat) : (qPar a b).length = pC b ∧ (∀ q ∈ qPar a b, 100000 < q ∧ q < 1125899906842624 ∧ QOk (pI a + 3) q) ∧ (qPar a b).Nodup ∧ nb (prodL (qPar a b)) ≤ 420 := by
  have hi : pI a < 3 := Nat.mod_lt _ (by decide)
  have hk : pK b < 4 := Nat.mod_lt _ (by decide)
  have hc : pC b < 6 := by unfold pC; omega
  have hR := rowOk_all hi hk
  unfold rowOk at hR
  rw [Bool.and_eq_true, Bool.and_eq_true] at hR
  obtain ⟨h1, h2, h3⟩ := hR
  have h2 : (qOf (pI a) (pK b)).length = 5 := by simpa using h2
  obtain ⟨n1, n2, -⟩ := q_nodup _ hi _ hk
  unfold qPar
  refine ⟨by rw [List.length_take, h2]; omega, fun q hq => ?_, n1.sublist (List.take_sublist _ _), Nat.le_of_ble_eq_true (List.all_eq_true.1 h3 _ (List.mem_range.2 hc))⟩
  have hq := List.mem_of_mem_take hq
  obtain ⟨g1, g2⟩ := primOk_spec (by omega) (List.all_eq_true.1 h1 q hq)
  exact ⟨n2 q hq, g1, g2⟩
theorem tPar_facts (a : Nat) : tPar a < 100000 ∧ QOk (pI a + 3) (tPar a) := by
  have hi : pI a < 3 := Nat.mod_lt _ (by decide)
  have hk : pJ a < 4 := Nat.mod_lt _ (by decide)
  obtain ⟨-, -, n3, n4⟩ := q_nodup _ hi _ hk
  exact ⟨n3, (primOk_spec (by omega) n4).2⟩
theorem par_made (a b w : Nat) (v : Value) (hw1 : 1 ≤ w) (hw : w ≤ 16) : parP ⟨((2 ^ (pI a + 3) : Nat) : Int), tPar a, v, qPar a b, (w : Int)⟩ := by
  obtain ⟨q1, q2, q3, q4⟩ := qPar_facts a b
  obtain ⟨t1, t2⟩ := tPar_facts a
  have hi : pI a < 3 := Nat.mod_lt _ (by decide)
  have hn : 2 ^ (pI a + 3) = 8 ∨ 2 ^ (pI a + 3) = 16 ∨ 2 ^ (pI a + 3) = 32 := by
    have : pI a = 0 ∨ pI a = 1 ∨ pI a = 2 := by omega
    rcases this with h | h | h <;> rw [h] <;> decide
  have hr : rowF ((2 ^ (pI a + 3) : Nat) : Int) = 420 := by
    unfold rowF
    rw [if_pos]
    unfold rowP; omega
  have hf : ∀ q, QOk (pI a + 3) q → frP ((2 ^ (pI a + 3) : Nat) : Int) q := fun q h => ⟨by rw [Int.toNat_natCast]; exact h.qm, h.is⟩
  refine ⟨⟨by dsimp only; omega, by dsimp only; omega, by dsimp only; omega⟩, ⟨by dsimp only; omega, hf _ t2⟩, ⟨fun q hq => ?_, q3, ?_, ?_⟩, ?_⟩
  · obtain ⟨g1, g2, g3⟩ := q2 q hq
    exact ⟨g2, by dsimp only; omega, hf _ g3⟩
  · show 0 < (qPar a b).length; rw [q1]; unfold pC; omega
  · show (qPar a b).length ≤ 8; rw [q1]; unfold pC; omega
  · show nb (prodL (qPar a b)) ≤ rowF ((2 ^ (pI a + 3) : Nat) : Int); omega

def parM (a b : Nat) (v : Value) : ParD := ⟨((2 ^ (pI a + 3) : Nat) : Int), tPar a, v, qPar a b, ((1 + b / 16 % 16 : Nat) : Int)⟩
theorem parM_ok (a b : Nat) (v : Value) : parP (parM a b v) := par_made a b _ v (by omega) (by omega)

theorem Tryz_ent7 : Ent Tryz.prog 7 := ent_of Tryz.func7 (by kernel_rfl) rfl
set_option maxHeartbeats 1000000 in
theorem params_spec (a b : Nat) (h : Hp) (ha : a < 256) (hb : b < 256) :
    CallsH Tryz.prog 7 [Y a, Y b] h fun v' h' => Ext h h' ∧ ∃ vq, v' = .agg (parM a b vq).cells.toArray ∧ ParAt h' (parM a b vq) ∧ OwnF h' h.size 26 U vq (qPar a b) := by
  have hi : a % 3 < 3 := Nat.mod_lt _ (by decide)
  have hj : a / 3 % 4 < 4 := Nat.mod_lt _ (by decide)
  have hc : b % 4 < 4 := Nat.mod_lt _ (by decide)
  have hk : b / 4 % 4 < 4 := Nat.mod_lt _ (by decide)
  have hp : 2 ^ (a % 3) ≤ 4 := Nat.pow_le_pow_right (n := 2) (j := 2) (by decide) (by omega)
  have hp0 : 0 < 2 ^ (a % 3) := Nat.pow_pos (by decide)
  have e16 : 2 * (8 * 2 ^ (a % 3)) = 2 ^ (a % 3 + 4) := by rw [Nat.pow_add]; omega
  obtain ⟨bt, hbt⟩ := get_lt (l := bT) (j := a / 3 % 4) hj
  obtain ⟨bq, hbq⟩ := get_lt (l := bQ) (j := b / 4 % 4) hk
  have hbtg : bT.getD (a / 3 % 4) 0 = bt := getD_of hbt
  have hbqg : bQ.getD (b / 4 % 4) 0 = bq := getD_of hbq
  have hbtm : 7 ≤ bt ∧ bt ≤ 16 := (by decide : ∀ x ∈ bT, 7 ≤ x ∧ x ≤ 16) bt (List.mem_of_getElem? hbt)
  have hbqm : 25 ≤ bq ∧ bq ≤ 49 := (by decide : ∀ x ∈ bQ, 25 ≤ x ∧ x ≤ 49) bq (List.mem_of_getElem? hbq)
  have CT := chkT_all _ hi _ hj
  have CQ := chkQ_all hi hk hc
  have ec : b % 4 + 2 = 2 + b % 4 := Nat.add_comm _ _
  rw [ec] at CQ
  unfold chkT9 at CT
  unfold chkQ9 at CQ
  rw [hbtg] at CT
  rw [hbqg] at CQ
  have hst : ∀ bb m, bb ≤ 61 → startC bb m < 18446744073709551616 := fun bb m hbb => by
    unfold startC
    have h1 : 2 ^ (bb - 1) ≤ 2 ^ 60 := Nat.pow_le_pow_right (by decide) (by omega)
    have h2 : (2 * 2 ^ (bb - 1) - 2) / 2 ^ m * 2 ^ m ≤ 2 * 2 ^ (bb - 1) - 2 := Nat.div_mul_le_self _ _
    have h60 : (2 : Nat) ^ 60 = 1152921504606846976 := by decide
    omega
  rw [← srch_fast _ _ _ (hst _ _ (by omega))] at CT CQ
  have CT := eq_of_beq CT
  have CQ := eq_of_beq CQ
  have ST := fun h => refSearch_spec bt (a % 3 + 4) 1 200 _ h (by omega) (by omega) (by omega) (by omega) (by omega) (by omega) CT
  have SQ := fun h => refSearch_spec bq (a % 3 + 4) (2 + b % 4) 200 _ h (by omega) (by omega) (by omega) (by omega) (by omega) (by omega) CQ
  clear CT CQ
  have hq3 : ([7, 9, 12, 16] : List Int)[a / 3 % 4]? = some (bt : Int) := by
    have := congrArg (Option.map Int.ofNat) hbt
    rw [← List.getElem?_map] at this
    exact this
  have hq4 : ([25, 30, 36, 49] : List Int)[b / 4 % 4]? = some (bq : Int) := by
    have := congrArg (Option.map Int.ofNat) hbq
    rw [← List.getElem?_map] at this
    exact this
  have e8 : 8 * 2 ^ (a % 3) = 2 ^ (pI a + 3) := by unfold pI; rw [Nat.pow_add]; omega
  (apply enter Tryz.func7 rfl Tryz.ntmps7 rfl)
  refine runJ ?_
  (apply s_alloc; exact rfl; exact rfl; exact rfl)
  intro p4 h1 x1 e1 b1
  (try dsimp only [Value.cells, List.toList_toArray] at x1)
  refine clsI ?_
  refine runJ ?_
  apply s_remU8 (isK_t rfl) isK_c rfl (by decide)
  refine runJ ?_
  rw [e16]
  generalize hM : 2 ^ (a % 3 + 4) = M at *
  refine runJ ?_
  (apply (s_litF (f := I) [7, 9, 12, 16] (fun _ => rfl)); exact rfl; exact rfl; exact rfl; exact rfl; exact rfl; exact rfl; exact rfl; exact rfl; omega)
  intro w2 h2 o2 e2 b2
  refine clsI ?_
  have s2 := o2.sl
  refine runJ ?_
  apply s_quoU8 (isK_t rfl) isK_c rfl (by omega)
  refine runJ ?_
  apply s_remU8 (isK_t rfl) isK_c rfl (by decide)
  refine runJ ?_
  apply (s_call Tryz_ent32 rfl rfl rfl)
  refine (ST h2).mono ?_
  rintro r3 h3 ⟨e3, R3⟩
  refine ⟨trivial, ?_⟩
  have x3 := (x1.ext e2).ext e3
  have E3 := (e1.trans e2).trans e3
  have hT : ∃ w c l, r3 = .tuple #[w, N c] ∧ SlF h3 U w l ∧ (l = [] ∧ tPar a = 193 ∨ l = [tPar a]) := by
    unfold tRes at R3
    by_cases hz : a % 3 = 2 ∧ a / 3 % 4 = 0
    · rw [if_pos hz] at R3
      obtain ⟨e, q1⟩ := R3
      exact ⟨_, e, [], q1, (OwnF.nil h3 0 26 U).sl, .inl ⟨rfl, by unfold tPar pI pJ; rw [hz.1, hz.2]; rfl⟩⟩
    · rw [if_neg hz] at R3
      obtain ⟨w, q1, q2⟩ := R3
      exact ⟨w, 0, [tPar a], q1, q2.sl, .inr rfl⟩
  obtain ⟨wt, ct, lt_, rfl, s3, hlt⟩ := hT
  have hpar : qPar a b = (qOf (a % 3) (b / 4 % 4)).take (2 + b % 4) := rfl
  rw [← hpar] at SQ
  obtain ⟨hql, hqf, hqn, -⟩ := qPar_facts a b
  have htf := (tPar_facts a).1
  refine runJ ?_
  apply (w_tcut (σ := Value) (fun w => [(1, Y b), (4, p4), (5, N (8 * 2 ^ (a % 3))), (6, U M), (7, w)]) (fun w h' => Ext h1 h' ∧ SlF h' U w [tPar a]))
  · (apply w_condD; exact rfl; exact rfl) <;> intro hl0
    · have h193 : tPar a = 193 := by
        rcases hlt with ⟨-, h⟩ | h
        · exact h
        · rw [h] at hl0; cases hl0
      refine runJ ?_
      (apply (s_litF (f := U) [193] (fun _ => rfl)); exact rfl; exact rfl; exact rfl; exact rfl; exact rfl; exact rfl; exact rfl; exact rfl; omega)
      intro w4 h4 o4 e4 b4
      refine clsI ?_
      rw [← h193] at o4
      refine runJ ?_
      apply cut_normal w4
      · exact subs
      · exact ⟨(e2.trans e3).trans e4, o4.sl⟩
    · obtain rfl : lt_ = [tPar a] := by
        rcases hlt with ⟨h, -⟩ | h
        · rw [h] at hl0; exact absurd rfl hl0
        · exact h
      refine runJ ?_
      apply cut_normal wt
      · exact subs
      · exact ⟨e2.trans e3, s3⟩
  clear x3 s3 hlt
  rintro w h4 ⟨e4, s4⟩
  have hw0 : [tPar a][0]? = some (tPar a) := rfl
  have hw1 : 0 < [tPar a].length := Nat.zero_lt_one
  refine runJ ?_
  apply s_remU8 (isK_t rfl) isK_c rfl (by decide)
  refine runJ ?_
  (apply (s_litF (f := I) [25, 30, 36, 49] (fun _ => rfl)); exact rfl; exact rfl; exact rfl; exact rfl; exact rfl; exact rfl; exact rfl; exact rfl; omega)
  intro w5 h5 o5 e5 b5
  refine clsI ?_
  have s5 := o5.sl
  refine runJ ?_
  apply s_quoU8 (isK_t rfl) isK_c rfl (by omega)
  refine runJ ?_
  apply s_remU8 (isK_t rfl) isK_c rfl (by decide)
  refine runJ ?_
  apply (s_call Tryz_ent32 rfl rfl rfl)
  refine (SQ h5).mono ?_
  rintro _ h6 ⟨e6, vq, rfl, o6⟩
  refine ⟨trivial, ?_⟩
  have E46 := (e4.trans e5).trans e6
  have x6 := x1.ext E46
  have s6 := (s4.ext e5).ext e6
  have s6q := o6.sl
  refine runJ ?_
  apply s_quoU8 (isK_t rfl) isK_c rfl (by omega)
  have hb16 : b / 16 < 16 := by omega
  refine runJ ?_
  generalize hn8 : 8 * 2 ^ (a % 3) = n8 at *
  generalize hwd : 1 + b / 16 % 16 = wd
  (apply (s_build ([N n8, U (tPar a), vq, N wd])); exact rfl; exact rfl; exact rfl; (repeat (first | exact CellsAll.nil | (apply CellsAll.cons; (first | exact oneL (by assumption) | exact oneL (SlF.one (by assumption)) | exact oneL (SlF.one (OwnF.sl (by assumption))) | exact oneL (Var.one (by assumption)) | exact rfl)))); exact rfl; exact rfl)
  refine runJ ?_
  (apply s_storeV; exact rfl; exact rfl; exact rfl; (repeat (first | exact OneAll.nil | (apply OneAll.cons; (first | exact rfl | exact SlF.one (by assumption) | exact SlF.one (OwnF.sl (by assumption)) | exact Var.one (by assumption))))); exact rfl; exact rfl; exact x6; exact rfl)
  intro h7 x7 k7
  (try dsimp only [Value.cells, List.toList_toArray] at x7)
  refine ⟨(by first | exact trivial | exact Ext.refl _ | assumption | exact Ext.only (by assumption) _ | exact Only.trans (Ext.only (by assumption) _) (by assumption)), ?_⟩
  have e7 : Ext h h7 := k7.oldV (e1.trans E46) b1 (Nat.le_refl _)
  rw [b1] at k7
  have hnq : vq.ownBlock = none ∨ vq.ownBlock ≠ some h.size := by
    cases hv : vq.ownBlock with
    | none => exact .inl rfl
    | some j =>
      refine .inr fun e => ?_
      cases e
      have h1 := (o6.blk _ hv).1
      have h2 := e1.1
      obtain ⟨k3, hk3, h3⟩ := x1.blk
      rw [b1] at hk3
      cases hk3
      have h4' := (e4.trans e5).1
      omega
  have o7 := o6.only k7 hnq
  have hcell : [N n8, U (tPar a), vq, N wd] = (parM a b vq).cells := by rw [e8, ← hwd]; rfl
  rw [hcell] at x7
  refine runJ ?_
  refine finC rfl rfl x7 rfl rfl ⟨e7, vq, rfl, ⟨o7.sl, fun q hq => by have := (hqf q hq).2.1; omega, by show tPar a < _; omega, by show (qPar a b).length ≤ _; rw [hql]; unfold pC; omega⟩, o7.base (Nat.le_trans e1.1 (e4.trans e5).1)⟩
end Go.Proofs.YtfcmdefigldpnaaGreatDoor


namespace Go.Proofs.YtfcmdefigldpnaaGreatDoor
set_option linter.unusedVariables false
set_option maxRecDepth 8000
open Go Go.Den Go.RowKit Go.Dig

theorem Tryz_ent89 : Ent Tryz.prog 89 := ent_of Tryz.func89 (by kernel_rfl) rfl
theorem refProduct_spec (v : Value) (row : List Nat) (h : Hp) (s : SlF h U v row) (hal : Al 18446744073709551616 row) (hl : row.length < 1000000) :
    CallsH Tryz.prog 89 [v] h fun v' h' => Ext h h' ∧ OwnF h' h.size 26 U v' (if row = [] then [1] else dg 18446744073709551616 (prodL row)) := by
  (apply enter Tryz.func89 rfl Tryz.ntmps89 rfl)
  refine runJ ?_
  (apply (s_litF (f := U) [1] (fun _ => rfl)); exact rfl; exact rfl; exact rfl; exact rfl; exact rfl; exact rfl; exact rfl; exact rfl; omega)
  intro w h1 o1 e1 b1
  refine clsI ?_
  have s1 := s.ext e1
  refine runJ ?_
  (first | (apply w_seqB; exact rfl; apply w_block; exact rfl) | skip)
  apply (w_loop (σ := Nat × Value) rfl (fun j => [(3, j.2), (7, v), (8, N row.length), (9, N j.1)])
    (fun j h' => Ext h h' ∧ OwnF h' h.size 26 U j.2 (if j.1 = 0 then [1] else dg 18446744073709551616 (prodL (row.take j.1))) ∧ j.1 ≤ row.length) (fun j => row.length - j.1) (0, w))
  · exact subs
  · exact ⟨e1, o1, Nat.zero_le _⟩
  rintro ⟨j, u⟩ h3 ⟨e3, o3, j1⟩
  dsimp only at e3 o3 j1 ⊢
  have s3 := s.ext e3
  refine runJ ?_
  (apply w_condD; exact rfl; exact rfl) <;> intro hj
  · obtain ⟨q, hq⟩ := get_lt hj
    have hq64 := hal q (List.mem_of_getElem? hq)
    have hv : vl 18446744073709551616 (if j = 0 then [1] else dg 18446744073709551616 (prodL (row.take j))) = prodL (row.take j) := by
      split
      · rename_i h0; subst h0; rfl
      · rw [vl_dg (by decide)]
    have ha : Al 18446744073709551616 (if j = 0 then [1] else dg 18446744073709551616 (prodL (row.take j))) := by
      split
      · intro x hx; simp at hx; omega
      · exact al_dg (by decide) _
    have hln : (if j = 0 then [1] else dg 18446744073709551616 (prodL (row.take j))).length < 68719476736 := by
      split
      · decide
      · have := dg_len (b := 18446744073709551616) (by decide) (prodL_lt (fun x hx => hal x (List.mem_of_mem_take hx) : Al 18446744073709551616 (row.take j)))
        have h2 : (row.take j).length ≤ row.length := by simp; omega
        omega
    refine runJ ?_
    (apply (s_litF (f := U) [q] (fun _ => rfl)); exact rfl; exact rfl; exact rfl; exact rfl; exact rfl; exact rfl; exact rfl; exact rfl; omega)
    intro w2 h4 o4 e4 b4
    refine clsI ?_
    have hqa : Al 18446744073709551616 [q] := fun x hx => by simp only [List.mem_singleton] at hx; subst hx; exact hq64
    refine runJ ?_
    apply (s_call Tryz_ent141 rfl rfl rfl)
    refine (rmul_spec u w2 _ [q] h4 (o3.sl.ext e4) o4.sl ha hqa hln (by simp)).mono ?_
    rintro u' h5 ⟨e5, o5⟩
    refine ⟨trivial, ?_⟩
    have e35 := (e3.trans e4).trans e5
    rw [hv] at o5
    have hq1 : vl 18446744073709551616 [q] = q := by simp [vl]
    rw [hq1, ← prodL_snoc, ← take_snoc hq] at o5
    refine runJ ?_
    apply again_normal (j + 1, u')
    · exact subs
    · refine ⟨e35, ?_, hj⟩
      rw [if_neg (by omega)]
      exact o5.base (Nat.le_trans e3.1 e4.1)
    · dsimp only; omega
  · have hjl : j = row.length := by omega
    subst hjl
    rw [List.take_of_length_le (Nat.le_refl _)] at o3
    refine runJ ?_
    refine fin1 rfl rfl ⟨e3, ?_⟩
    simpa [List.length_eq_zero_iff] using o3

end Go.Proofs.YtfcmdefigldpnaaGreatDoor


namespace Go.Den
set_option linter.unusedVariables false
set_option maxRecDepth 8000
open Go Go.RowKit

theorem flat_len {α : Type} {f : α → List Value} {s : Nat} (hf : ∀ x, (f x).length = s) : ∀ xs : List α, (xs.flatMap f).length = xs.length * s
  | [] => by simp
  | x :: xs => by rw [List.flatMap_cons, List.length_append, flat_len hf xs, hf, List.length_cons, Nat.add_mul, Nat.one_mul, Nat.add_comm]
theorem flat_set {α : Type} {f : α → List Value} {s : Nat} (hf : ∀ x, (f x).length = s) (a : α) : ∀ (xs : List α) (j : Nat), j < xs.length → (xs.set j a).flatMap f = (xs.flatMap f).take (j * s) ++ f a ++ (xs.flatMap f).drop (j * s + s)
  | [], j, h => by simp at h
  | x :: xs, 0, _ => by
    have := hf x
    simp only [List.set_cons_zero, List.flatMap_cons, Nat.zero_mul, List.take_zero, List.nil_append, Nat.zero_add]
    rw [List.drop_append, List.drop_of_length_le (by omega), this, Nat.sub_self, List.drop_zero, List.nil_append]
  | x :: xs, j + 1, h => by
    have e := hf x
    have e1 : (j + 1) * s = s + j * s := by rw [Nat.add_mul, Nat.one_mul, Nat.add_comm]
    have T : (f x ++ xs.flatMap f).take (s + j * s) = f x ++ (xs.flatMap f).take (j * s) := by
      rw [List.take_append, List.take_of_length_le (by omega), e, show s + j * s - s = j * s by omega]
    have D : (f x ++ xs.flatMap f).drop (s + j * s + s) = (xs.flatMap f).drop (j * s + s) := by
      rw [List.drop_append, List.drop_of_length_le (by omega), e, show s + j * s + s - s = j * s + s by omega, List.nil_append]
    rw [List.set_cons_succ, List.flatMap_cons, flat_set hf a xs j (by simpa using h), List.flatMap_cons, e1, T, D]
    simp [List.append_assoc]
theorem take_splice {cur cs us : List Value} {j m : Nat} (htk : cur.take m = cs) (hj : j + us.length ≤ cs.length) (hm : m ≤ cur.length) : (cur.take j ++ us ++ cur.drop (j + us.length)).take m = cs.take j ++ us ++ cs.drop (j + us.length) := by
  have hl : cs.length = m := by rw [← htk, List.length_take]; omega
  subst htk
  rw [List.take_append, List.take_of_length_le (by simp; omega), List.take_take, Nat.min_eq_left (by omega), List.drop_take]
  congr 1
  simp only [List.length_append, List.length_take]
  congr 1
  omega

variable {P : Program} {n : Nat} {Q : Post} {l : Fr} {ops : List Oper} {Ch : Hp → Prop} {E : Nat → Bool} {i d : Nat} {h : Hp} {t : TypeId} {x y : Operand}
theorem own_storeC {w : World} {t e : TypeId} {B s n j : Nat} {v u : Value} {cs us : List Value} (ho : Own w.heap B e s v n cs) (hu : u.cells.toList = us) (hj : j + us.length ≤ cs.length) (h0 : 0 < us.length) (h1 : ∀ x ∈ us, x.oneCell' = true) (ht : (P.info? t).map (·.size) = some us.length) :
    ∃ w', (Instr.storeAt t (ptrAt v j) u).run P w = .ok () w' ∧ Own w'.heap B e s v n (cs.take j ++ us ++ cs.drop (j + us.length)) ∧ Only v.ownBlock w.heap w'.heap ∧ Oth w w' := by
  obtain ⟨hl, ⟨rfl, rfl⟩ | ⟨g, cap, cur, rfl, hB, hg, hc, hm, hs, htk⟩⟩ := ho
  · rw [Nat.zero_mul] at hl; omega
  have hcur : n * s ≤ cur.toList.length := by
    have : cs.length ≤ cur.toList.length := by rw [← htk, List.length_take]; omega
    omega
  have hus : u.cells.size = us.length := by rw [← hu]; simp
  have hlc : j + us.length ≤ cur.toList.length := by omega
  have hst := run_storeVar (P := P) (w := w) (t := t) (e := e) (g := g) (off := j) (cs := cur.toList) (u := u) (by simpa using hg) (by rw [hus]; exact ht) (by rw [hu]; exact h1) (by rw [hus]; exact hlc)
  rw [hu, hus] at hst
  refine ⟨w.setRow g (cur.toList.take j ++ us ++ cur.toList.drop (j + us.length)).toArray, ?_, ⟨?_, .inr ⟨g, cap, _, rfl, hB, setRow_heap w g cur _ e _ hg, hc, hm, ?_, ?_⟩⟩, ⟨by simp, fun k _ hk => setRow_other w g k _ (fun q => hk (by simp [Value.ownBlock, q]))⟩, ⟨rfl, rfl, rfl⟩⟩
  · simp only [ptrAt, Addr.add_lit, Nat.zero_add, Instr.storeAt, Instr.sureAddr, Sem.run_bind, Sem.run_pure, Result.andThen_ok]
    exact hst
  · simp only [List.length_append, List.length_take, List.length_drop]; omega
  · simp only [List.size_toArray, List.length_append, List.length_take, List.length_drop, Array.length_toList] at hlc ⊢; omega
  · exact take_splice htk hj hcur
theorem s_storeS {α : Type} {f : α → List Value} {v u : Value} {j B s : Nat} {xs : List α} {e : TypeId} (a' : α) (hx : ev l x = some (ptrAt v (j * s))) (hy : ev l y = some u) (hu : u.cells.toList = f a') (ht : (P.info? t).map (·.size) = some s) (hE : E i = true) (hf : ∀ x, (f x).length = s) (hs : 0 < s) (ho : Own h B e s v xs.length (xs.flatMap f)) (h1 : ∀ c ∈ f a', c.oneCell' = true) (hj : j < xs.length)
    (k : ∀ h', Own h' B e s v (xs.set j a').length ((xs.set j a').flatMap f) → Only v.ownBlock h h' → Ch h' ∧ S P n ops Ch E Q (i + 1) l h') : O0 P n ops Ch E Q i (.store t x y) l h :=
  O0.mk fun hop hg => s_eff hop hE hg fun a w hf' hw => by
    subst hw
    have hjs : j * s + s ≤ xs.length * s := by
      have : (j + 1) * s ≤ xs.length * s := Nat.mul_le_mul_right _ hj
      rwa [Nat.add_mul, Nat.one_mul] at this
    obtain ⟨w', g1, g2, g3, g4⟩ := own_storeC (P := P) (t := t) ho hu (by rw [hf, flat_len hf]; exact hjs) (by rw [hf]; exact hs) h1 (by rw [hf]; exact ht)
    rw [hf, ← flat_set hf a' xs j hj] at g2
    have g2 : Own w'.heap B e s v (xs.set j a').length ((xs.set j a').flatMap f) := by rw [List.length_set]; exact g2
    unfold Eff
    simp only [execOp, hf'.ev hx, hf'.ev hy, Sem.run_bind, g1]
    exact ⟨g4, (k _ g2 g3).1, _, hf'.putNone _, (k _ g2 g3).2⟩
theorem made_flat (zc : Array Value) (hz : 0 < zc.size) : ∀ c : Nat, (madeCells zc (c * zc.size)).toList = (List.replicate c zc.toList).flatten := fun c => by
  apply List.ext_getElem?
  intro j
  have hlen : ∀ c, ((List.replicate c zc.toList).flatten).length = c * zc.size := fun c => by simp
  by_cases hj : j < c * zc.size
  · have key : ∀ (c j : Nat), j < c * zc.size → ((List.replicate c zc.toList).flatten)[j]? = zc.toList[j % zc.size]? := by
      intro c
      induction c with
      | zero => intro j hj; omega
      | succ c ih =>
        intro j hj
        rw [List.replicate_succ, List.flatten_cons]
        by_cases h : j < zc.size
        · rw [List.getElem?_append_left (by simpa using h), Nat.mod_eq_of_lt h]
        · rw [List.getElem?_append_right (by simpa using Nat.le_of_not_lt h), Array.length_toList, ih _ (by rw [Nat.add_mul] at hj; omega), ← Nat.mod_eq_sub_mod (Nat.le_of_not_lt h)]
    rw [key c j hj]
    have hm : j % zc.size < zc.size := Nat.mod_lt _ hz
    simp [madeCells, hj, getElem!_pos, hm]
  · rw [List.getElem?_eq_none (by simp [madeCells]; omega), List.getElem?_eq_none (by rw [hlen]; omega)]
theorem s_makeS {α : Type} {f : α → List Value} {ln c bytes s : Nat} {e : TypeId} {kl kc : IntKind} {z0 : Value} (z1 : α) (hx : IsK (ev l x) kl ln) (hy : IsK (ev l y) kc c) (ht : P.underlying t = some (.slice e)) (hi : (P.info? e).map (fun i => (i.size, i.bytes, i.zero)) = some (s, bytes, some z0)) (hzs : z0.cells.toList = f z1) (hf : ∀ x, (f x).length = s) (hs : 0 < s)
    (hE : E i = true) (hb : Nat.blt d n = true) (h1 : ln ≤ c) (h2 : bytes * c ≤ 281474976710656) (h3 : c ≤ 9223372036854775807)
    (k : ∀ v h', Own h' h.size e s v (List.replicate ln z1).length ((List.replicate ln z1).flatMap f) → Ext h h' → v.ownBlock = some h.size → Ch h' ∧ S P n ops Ch E Q (i + 1) ((d, v) :: l) h') : O P n ops Ch E Q i d (.makeSlice t x y) l h :=
  O.mk fun hop hg => s_eff hop hE hg fun a w hf' hw => by
    subst hw
    cases hq : P.info? e with
    | none => rw [hq] at hi; cases hi
    | some inf =>
      rw [hq] at hi
      simp only [Option.map_some, Option.some.injEq, Prod.mk.injEq] at hi
      obtain ⟨i1, i2, i3⟩ := hi
      have hzsz : z0.cells.size = s := by rw [← Array.length_toList, hzs]; exact hf z1
      have hr := run_make (P := P) w t e inf z0 ht hq i3 kl kc ln c (by omega) (by omega) (by rw [i2, ← Int.natCast_mul]; omega) (by omega)
      simp only [Int.toNat_natCast, i1] at hr
      have hfl : ∀ k, ((List.replicate k z1).flatMap f) = (List.replicate k (f z1)).flatten := fun k => by rw [List.flatMap_def, List.map_replicate]
      have hmade : (madeCells z0.cells (c * s)).toList = (List.replicate c z1).flatMap f := by
        have := made_flat z0.cells (by omega) c
        rw [hzsz, hzs] at this
        rw [this, hfl]
      have ho : Own (w.alloc (.cells (madeCells z0.cells (c * s)) e)).heap w.heap.size e s (.slice (some ⟨w.heap.size, 0, none⟩) ln c) (List.replicate ln z1).length ((List.replicate ln z1).flatMap f) := by
        refine ⟨by rw [flat_len hf], .inr ⟨w.heap.size, c, _, by simp, Nat.le_refl _, heap_alloc_new w _, by simpa using h1, by simp [maxLen]; omega, by rw [size_madeCells], ?_⟩⟩
        rw [hmade]
        have e1 : List.replicate c z1 = List.replicate ln z1 ++ List.replicate (c - ln) z1 := by rw [List.replicate_append_replicate]; congr 1; omega
        rw [e1, List.flatMap_append, List.take_append, List.take_of_length_le (by rw [flat_len hf]; exact Nat.le_refl _), flat_len hf, Nat.sub_self, List.take_zero, List.append_nil]
      have := k _ _ ho (Ext.push _ _) rfl
      unfold Eff
      simp only [execOp, hf'.ev hx.h, hf'.ev hy.h, Sem.run_bind, hr]
      exact ⟨⟨rfl, rfl, rfl⟩, this.1, _, hf'.put d _ hb, this.2⟩
end Go.Den


namespace Go.Proofs.YtfcmdefigldpnaaGreatDoor
set_option linter.unusedVariables false
set_option maxRecDepth 8000
open Go Go.Den Go.RowKit Go.Dig

def DrawsOk (ds : List Nat) : Prop := Al 18446744073709551616 ds ∧ ∀ i d, ds[i]? = some d → i % 2 = 1 → d < 9223372036854775808 ∧ d % 4 ≠ 3
theorem DrawsOk.snoc {ds : List Nat} {d : Nat} (h : DrawsOk ds) (h1 : d < 18446744073709551616) (h2 : ds.length % 2 = 1 → d < 9223372036854775808 ∧ d % 4 ≠ 3) : DrawsOk (ds ++ [d]) := by
  refine ⟨fun x hx => ?_, fun i x hi ho => ?_⟩
  · rcases List.mem_append.1 hx with hx | hx
    · exact h.1 x hx
    · rw [List.mem_singleton.1 hx]; exact h1
  · by_cases hl : i < ds.length
    · rw [List.getElem?_append_left hl] at hi
      exact h.2 i x hi ho
    · rw [List.getElem?_append_right (by omega)] at hi
      have : i - ds.length = 0 := by
        rcases Nat.lt_or_ge (i - ds.length) 1 with h | h
        · omega
        · rw [List.getElem?_eq_none (by simpa using h)] at hi; cases hi
      rw [this] at hi
      cases hi
      exact h2 (by rw [show ds.length = i by omega]; exact ho)

theorem Tryz_ent8 : Ent Tryz.prog 8 := ent_of Tryz.func8 (by kernel_rfl) rfl
set_option maxHeartbeats 2000000 in
theorem draws_spec (vs : Value) (xs : List Nat) (n : Nat) (h : Hp) (s : SlF h U vs xs) (al : Al 18446744073709551616 xs) (hl : xs.length < 4611686018427387904) (hn : n ≤ 1000000) :
    CallsH Tryz.prog 8 [vs, N n] h fun v' h' => Ext h h' ∧ ∃ ds, OwnF h' h.size 26 U v' ds ∧ ds.length = n ∧ DrawsOk ds := by
  have e64 : (2 : Nat) ^ 64 = 18446744073709551616 := by decide
  have xlt : ∀ a b : Nat, a < 18446744073709551616 → b < 18446744073709551616 → a ^^^ b < 18446744073709551616 := fun a b ha hb => by
    rw [← e64] at *
    exact Nat.xor_lt_two_pow ha hb
  (apply enter Tryz.func8 rfl Tryz.ntmps8 rfl)
  refine runJ ?_
  (first | (apply w_seqB; exact rfl; apply w_block; exact rfl) | skip)
  apply (w_loop (σ := Nat × Nat × Value × List Nat) rfl (fun j => [(0, vs), (1, N n), (5, U j.2.1), (6, j.2.2.1), (7, N j.1)])
    (fun j h' => j.1 ≤ n ∧ Ext h h' ∧ OwnF h' h.size 26 U j.2.2.1 j.2.2.2 ∧ j.2.2.2.length = j.1 ∧ DrawsOk j.2.2.2 ∧ j.2.1 < 18446744073709551616) (fun j => n - j.1) (0, 11400714819323198485, .slice none 0 0, []))
  · exact subs
  · exact ⟨Nat.zero_le _, Ext.refl _, OwnF.nil _ _ _ _, rfl, ⟨(by intro x hx; cases hx), (by intro i d hd; cases hd)⟩, by decide⟩
  rintro ⟨j, x, v, ds⟩ h1 ⟨j1, e1, o1, l1, d1, hx⟩
  dsimp only at j1 o1 l1 d1 hx ⊢
  have s1 := s.ext e1
  refine runJ ?_
  (apply w_condD; exact rfl; exact rfl) <;> intro hj
  · refine runJ ?_
    apply (w_tcut (σ := Nat) (fun y => [(0, vs), (1, N n), (5, U y), (6, v), (7, N j)]) (fun y h' => h1 = h' ∧ y < 18446744073709551616))
    · (apply w_condD; exact rfl; exact rfl) <;> intro h0
      · obtain ⟨a, ha⟩ := get_lt (l := xs) (j := j % xs.length) (Nat.mod_lt _ h0)
        have haa := al a (List.mem_of_getElem? ha)
        have hlt := Nat.mod_lt j h0
        refine runJ ?_
        apply cut_normal (x ^^^ a)
        · exact subs
        · exact ⟨rfl, xlt _ _ hx haa⟩
      · refine runJ ?_
        apply cut_normal x
        · exact subs
        · exact ⟨rfl, hx⟩
    rintro y h' ⟨rfl, hy⟩
    have hy1 := xlt y (y * 2 ^ 13 % 18446744073709551616) hy (Nat.mod_lt _ (by decide))
    refine runJ ?_
    generalize y ^^^ y * 2 ^ 13 % 18446744073709551616 = y1 at *
    have hy2 := xlt y1 (y1 / 2 ^ 7) hy1 (Nat.lt_of_le_of_lt (Nat.div_le_self _ _) hy1)
    refine runJ ?_
    generalize y1 ^^^ y1 / 2 ^ 7 = y2 at *
    have hy3 := xlt y2 (y2 * 2 ^ 17 % 18446744073709551616) hy2 (Nat.mod_lt _ (by decide))
    refine runJ ?_
    generalize y2 ^^^ y2 * 2 ^ 17 % 18446744073709551616 = y3 at *
    (apply s_addUw; (first | exact isK_c | exact isK_t rfl); (first | exact isK_c | exact isK_t rfl); exact rfl)
    have hz : (y3 + j) % 18446744073709551616 < 18446744073709551616 := Nat.mod_lt _ (by decide)
    generalize (y3 + j) % 18446744073709551616 = z at *
    have hj64 : j < 9223372036854775808 := by omega
    refine runJ ?_
    apply (w_tcut (σ := Nat) (fun z => [(0, vs), (1, N n), (5, U y3), (6, v), (7, N j), (8, U z)]) (fun z h' => h1 = h' ∧ z < 18446744073709551616 ∧ (j % 2 = 1 → z < 9223372036854775808 ∧ z % 4 ≠ 3)))
    · (apply w_condD; exact rfl; exact rfl) <;> intro h0
      · have hz3 : z % 9223372036854775808 < 9223372036854775808 := Nat.mod_lt _ (by decide)
        refine runJ ?_
        generalize z % 9223372036854775808 = z3 at *
        (apply w_condD; exact rfl; exact rfl) <;> intro h4
        · refine runJ ?_
          apply cut_normal (z3 - 1)
          · exact subs
          · exact ⟨rfl, by omega, fun _ => ⟨by omega, by omega⟩⟩
        · refine runJ ?_
          apply cut_normal z3
          · exact subs
          · exact ⟨rfl, by omega, fun _ => ⟨hz3, h4⟩⟩
      · refine runJ ?_
        apply cut_normal z
        · exact subs
        · exact ⟨rfl, hz, fun h => absurd h h0⟩
    clear hz
    rintro w h' ⟨rfl, hw, hw2⟩
    refine runJ ?_
    obtain ⟨hsz, ex1⟩ := cutH_ext e1.1
    have hl1 : ds.length ≤ 1000000 := by omega
    rw [← hsz] at o1
    (refine s_app1 (bytes := 8) (w) o1 ex1 rfl rfl rfl rfl rfl rfl rfl rfl rfl (by first | exact rfl | exact congrArg some (congrArg I (by omega))) (fun _ => rfl) rfl rfl (fun _ _ => trivial) (by omega) (by simp only [maxLen]; omega) ?_)
    intro v2 h2 o2 e2 k2 b2
    rw [hsz] at o1 o2
    have hb : ∀ b, v.ownBlock = some b → h.size ≤ b := fun b hb => (o1.blk b hb).1
    refine runJ ?_
    apply again_normal (j + 1, y3, v2, ds ++ [w])
    · exact subs
    · exact ⟨hj, k2.old e1 hb, o2, by dsimp only; rw [List.length_append, l1]; rfl, d1.snoc hw (by rw [l1]; exact hw2), hy3⟩
    · dsimp only; omega
  · obtain rfl : j = n := by omega
    refine runJ ?_
    exact fin1 rfl rfl ⟨e1, ds, o1, l1, d1⟩

def Alt (k : Nat) (ds : List Nat) : Prop := ∀ i d, ds[i]? = some d → (i + k) % 2 = 1 → d < 9223372036854775808 ∧ d % 4 ≠ 3
def AltE (ds : List Nat) : Prop := ∃ k, Alt k ds
theorem DrawsOk.alt {ds : List Nat} (h : DrawsOk ds) : AltE ds := ⟨0, fun i d hi ho => h.2 i d hi ho⟩
theorem Alt.tail {k d : Nat} {ds : List Nat} (h : Alt k (d :: ds)) : Alt (k + 1) ds := fun i x hi ho => h (i + 1) x hi (by omega)
structure Takes {α : Type} (f : List Nat → Option (α × List Nat)) : Prop where mk ::
  good : ∀ d ds, d < 9223372036854775808 → d % 4 ≠ 3 → ∃ r, f (d :: ds) = some (r, ds)
  any : ∀ d ds, (∃ r, f (d :: ds) = some (r, ds)) ∨ f (d :: ds) = f ds
theorem takes_one {α : Type} {f : List Nat → Option (α × List Nat)} (F : Takes f) {ds : List Nat} (h : AltE ds) (hl : 2 ≤ ds.length) : ∃ r ds', f ds = some (r, ds') ∧ AltE ds' ∧ ds.length ≤ ds'.length + 2 := by
  obtain ⟨k, h⟩ := h
  match ds, hl, h with
  | d1 :: d2 :: tl, _, h =>
    rcases F.any d1 (d2 :: tl) with ⟨r, hr⟩ | he
    · exact ⟨r, _, hr, ⟨_, h.tail⟩, by simp⟩
    · by_cases hk : k % 2 = 1
      · obtain ⟨g1, g2⟩ := h 0 d1 rfl (by omega)
        obtain ⟨r, hr⟩ := F.good d1 (d2 :: tl) g1 g2
        exact ⟨r, _, hr, ⟨_, h.tail⟩, by simp⟩
      · obtain ⟨g1, g2⟩ := h 1 d2 rfl (by omega)
        obtain ⟨r, hr⟩ := F.good d2 tl g1 g2
        exact ⟨r, tl, he.trans hr, ⟨_, h.tail.tail⟩, by simp⟩
theorem takes_row {α : Type} {f : List Nat → Option (α × List Nat)} (F : Takes f) : ∀ (n : Nat) {ds : List Nat}, AltE ds → 2 * n ≤ ds.length → ∃ rs ds', rowG f n ds = some (rs, ds') ∧ AltE ds' ∧ ds.length ≤ ds'.length + 2 * n
  | 0, ds, h, _ => ⟨[], ds, rfl, h, by omega⟩
  | n + 1, ds, h, hl => by
    obtain ⟨r, ds1, h1, a1, l1⟩ := takes_one F h (by omega)
    obtain ⟨rs, ds2, h2, a2, l2⟩ := takes_row F n a1 (by omega)
    refine ⟨r :: rs, ds2, ?_, a2, by omega⟩
    unfold rowG
    rw [h1]
    dsimp only
    rw [h2]
theorem takes_uni {n : Nat} : ∀ (qs : List Nat), (∀ q ∈ qs, Takes (firstB q)) → ∀ {ds : List Nat}, AltE ds → 2 * (qs.length * n) ≤ ds.length → ∃ ls ds', uniG n qs ds = some (ls, ds') ∧ AltE ds' ∧ ds.length ≤ ds'.length + 2 * (qs.length * n)
  | [], _, ds, h, _ => ⟨[], ds, rfl, h, by simp⟩
  | q :: qs, hF, ds, h, hl => by
    have e : (q :: qs).length * n = qs.length * n + n := by rw [List.length_cons, Nat.add_mul, Nat.one_mul]
    rw [e] at hl ⊢
    obtain ⟨l, ds1, h1, a1, l1⟩ := takes_row (hF q (by simp)) n h (by omega)
    obtain ⟨ls, ds2, h2, a2, l2⟩ := takes_uni (n := n) qs (fun q hq => hF q (by simp [hq])) (ds := ds1) a1 (by omega)
    refine ⟨l :: ls, ds2, ?_, a2, by omega⟩
    unfold uniG
    rw [h1]
    dsimp only
    rw [h2]
theorem takes_T : Takes firstT := by
  refine ⟨fun d ds h1 h2 => ?_, fun d ds => ?_⟩
  · obtain ⟨-, -, -, m3⟩ := tern_mod d
    exact ⟨tern d, by unfold firstT; rw [if_neg (by rw [m3]; exact h2)]⟩
  · by_cases h : d &&& 3 = 3
    · exact .inr (by conv => lhs; unfold firstT
                     rw [if_pos h])
    · exact .inl ⟨tern d, by unfold firstT; rw [if_neg h]⟩
theorem takes_E (w : Nat) : Takes (firstE w) := ⟨fun d ds _ _ => ⟨_, rfl⟩, fun d ds => .inl ⟨_, rfl⟩⟩
theorem takes_B {q : Nat} (h0 : 0 < q) (hq : q < 9223372036854775808) : Takes (firstB q) := by
  have hs : 18446744073709551616 % q < q := Nat.mod_lt _ h0
  refine ⟨fun d ds h1 _ => ⟨d % q, ?_⟩, fun d ds => ?_⟩
  · unfold firstB
    rw [if_pos (by omega)]
  · by_cases h : d ≤ 18446744073709551615 - 18446744073709551616 % q
    · exact .inl ⟨_, by unfold firstB; rw [if_pos h]⟩
    · exact .inr (by conv => lhs; unfold firstB
                     rw [if_neg h])
theorem takes_hide {n w : Nat} {qs : List Nat} (hq : ∀ q ∈ qs, 0 < q ∧ q < 9223372036854775808) {ds : List Nat} (h : AltE ds) (hl : 2 * (qs.length * n) + 2 * n ≤ ds.length) : ∃ ae ds', hideG n w qs ds = some (ae, ds') ∧ AltE ds' ∧ ds.length ≤ ds'.length + (2 * (qs.length * n) + 2 * n) := by
  obtain ⟨ls, ds1, h1, a1, l1⟩ := takes_uni (n := n) qs (fun q h => takes_B (hq q h).1 (hq q h).2) h (by omega)
  obtain ⟨rs, ds2, h2, a2, l2⟩ := takes_row (takes_E w) n a1 (by omega)
  refine ⟨(ls, rs), ds2, ?_, a2, by omega⟩
  unfold hideG
  rw [h1]
  dsimp only
  rw [h2]
theorem firstT_val9 : ∀ (ds : List Nat) (r : Int) (ds' : List Nat), firstT ds = some (r, ds') → r = 0 ∨ r = 1 ∨ r = -1
  | [], r, ds', h => by cases h
  | d :: ds, r, ds', h => by
    obtain ⟨m0, m1, m2, m3⟩ := tern_mod d
    unfold firstT at h
    split at h
    · exact firstT_val9 ds r ds' h
    · rename_i hd
      cases h
      rw [m3] at hd
      have : d % 4 < 4 := Nat.mod_lt _ (by decide)
      rcases (show d % 4 = 0 ∨ d % 4 = 1 ∨ d % 4 = 2 by omega) with h | h | h
      · exact .inl (m0 h)
      · exact .inr (.inl (m1 h))
      · exact .inr (.inr (m2 h))
end Go.Proofs.YtfcmdefigldpnaaGreatDoor

