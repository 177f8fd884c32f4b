/- Texts SrcB to PckA of this work, joined: each says in its own head what it proves, and of which condition. -/
import Derived.Test.YtfcmdefigldpnaaDoorMPk21
/- The reference's search for primes, told by a function. No condition. -/
namespace Go.Proofs.YtfcmdefigldpnaaDoor
set_option linter.unusedVariables false
set_option maxRecDepth 8000
open Go Go.Den Go.RowKit Go.Mth

theorem Tryd_ent62 : Ent Tryd.prog 62 := ent_of Tryd.func62 (by kernel_rfl) rfl
theorem refStep_spec (m : Nat) (h : Hp) (hm1 : 1 ≤ m) (hm2 : m ≤ 12) :
    CallsH Tryd.prog 62 [U (2 ^ m)] h fun v' h' => v' = .bool true ∧ h = h' := by
  have hb : 2 ^ m ≤ 4096 := Nat.pow_le_pow_right (n := 2) (j := 12) (by omega) hm2
  have hinj : ∀ i, i ≤ m → (2 ^ i = 2 ^ m ↔ i = m) := fun i hi => by
    constructor
    · intro e
      rcases Nat.lt_or_ge i m with h1 | h1
      · have := Nat.pow_lt_pow_right (a := 2) (by omega) h1; omega
      · omega
    · rintro rfl; rfl
  have hle : ∀ i, i ≤ m → 2 ^ i ≤ 2 ^ m := fun i hi => Nat.pow_le_pow_right (by omega) hi
  generalize hx : 2 ^ m = x at *
  (apply enter Tryd.func62 rfl Tryd.ntmps62 rfl)
  refine runJ ?_
  (first | (apply w_seqB; exact rfl; apply w_block; exact rfl) | skip)
  apply (w_loop (σ := Nat × Nat) rfl (fun k => [(0, U x), (3, U k.1)])
    (fun k h' => h = h' ∧ k.1 = 2 ^ k.2 ∧ k.2 ≤ m) (fun k => m - k.2) (2, 1))
  · exact (Sub.cons rfl (Sub.cons rfl (Sub.nil _)))
  · exact ⟨rfl, rfl, hm1⟩
  rintro ⟨k, i⟩ h' ⟨rfl, k1, k2⟩
  dsimp only at k1 k2 ⊢
  have h1 := hle i k2
  have h2 := hinj i k2
  rw [← k1] at h1 h2
  refine runJ ?_
  (apply w_condT; exact rfl; exact rfl; exact (show k ≤ 8192 by omega))
  refine runJ ?_
  (apply w_condD; exact rfl; exact rfl) <;> intro hd
  · refine runJ ?_
    exact fin1 rfl rfl ⟨rfl, rfl⟩
  · have hi : i < m := by
      rcases Nat.lt_or_ge i m with h3 | h3
      · exact h3
      · exact absurd (h2.2 (by omega)).symm hd
    refine runJ ?_
    apply again_normal (2 * k, i + 1)
    · exact (Sub.cons rfl (Sub.cons rfl (Sub.nil _)))
    · exact ⟨rfl, by dsimp only; rw [k1, Nat.pow_succ, Nat.mul_comm], hi⟩
    · dsimp only; omega

/-- The search: so many steps at most; none: they did not suffice. -/
def srchF (least step count : Nat) : Nat → Nat → List Nat → Option (Option (List Nat))
  | 0, _, _ => none
  | k + 1, c, out => if out.length < count then (if c ≤ least then some none else if c < step then some none else srchF least step count k (c - step) (if isR c then out ++ [c] else out)) else some (some out)

def SrchR (h h' : Hp) (v' : Value) : Option (List Nat) → Prop
  | none => ∃ e : Nat, v' = .tuple #[.slice none 0 0, N e]
  | some ys => ∃ w, v' = .tuple #[w, N 0] ∧ OwnF h' h.size 22 U w ys
theorem Tryd_ent38 : Ent Tryd.prog 38 := ent_of Tryd.func38 (by kernel_rfl) rfl
set_option maxHeartbeats 1000000 in
theorem refSearch_spec (bits m count fuel : Nat) (r : Option (List Nat)) (h : Hp) (hb1 : 4 ≤ bits) (hb2 : bits ≤ 61) (hm1 : 1 ≤ m) (hm2 : m ≤ 12) (hc1 : 1 ≤ count) (hc2 : count ≤ 16)
    (hr : srchF (2 ^ (bits - 1)) (2 ^ m) count fuel ((2 * 2 ^ (bits - 1) - 2) / 2 ^ m * 2 ^ m + 1) [] = some r) :
    CallsH Tryd.prog 38 [N bits, U (2 ^ m), N count] h fun v' h' => Ext h h' ∧ SrchR h h' v' r := by
  have SS := refStep_spec m h hm1 hm2
  have hL : 2 ^ (bits - 1) ≤ 2 ^ 60 := Nat.pow_le_pow_right (by omega) (by omega)
  have hL1 : 1 ≤ 2 ^ (bits - 1) := Nat.pow_pos (by omega)
  have h60 : (2 : Nat) ^ 60 = 1152921504606846976 := by decide
  have hM : 2 ^ m ≤ 4096 := Nat.pow_le_pow_right (n := 2) (j := 12) (by omega) hm2
  have hM1 : 1 ≤ 2 ^ m := Nat.pow_pos (by omega)
  generalize hx : 2 ^ m = x at *
  generalize hl : 2 ^ (bits - 1) = least at *
  have hdm : (2 * least - 2) / x * x ≤ 2 * least - 2 := Nat.div_mul_le_self _ _
  have hmb : (2 * least - 2) / x * x < 18446744073709551616 := by omega
  (apply enter Tryd.func38 rfl Tryd.ntmps38 rfl)
  refine runJ ?_
  (apply s_splitG; exact rfl; exact rfl; exact rfl; exact rfl) <;> intro g1
  · exact absurd g1 (by omega)
  refine runJ ?_
  (apply s_splitG; exact rfl; exact rfl; exact rfl; exact rfl) <;> intro g2
  · exact absurd g2 (by omega)
  refine runJ ?_
  apply (s_call Tryd_ent62 rfl rfl rfl)
  refine (SS).mono ?_
  rintro _ _ ⟨rfl, rfl⟩
  refine ⟨(by first | exact trivial | exact Ext.refl _ | assumption | exact Ext.trans (by assumption) (by assumption)), ?_⟩
  refine runJ ?_
  (apply s_splitG; exact rfl; exact rfl; exact rfl; exact rfl) <;> intro g3
  · exact absurd g3 (by omega)
  refine runJ ?_
  (apply w_condF; exact rfl; exact rfl; exact (show ¬ 16 < count by omega))
  refine runJ ?_
  rw [Nat.one_mul, hl]
  refine runJ ?_
  generalize hc0 : (2 * least - 2) / x * x = c0 at *
  refine runJ ?_
  (first | (apply w_seqB; exact rfl; apply w_block; exact rfl) | skip)
  apply (w_loop (σ := (Nat × Nat) × List Nat × Value) rfl (fun j => [(1, U x), (2, N count), (8, j.2.2), (9, U least), (10, U j.1.2)])
    (fun j h' => Ext h h' ∧ srchF least x count j.1.1 j.1.2 j.2.1 = some r ∧ j.1.2 ≤ 2 * least - 1 ∧ OwnF h' h.size 22 U j.2.2 j.2.1 ∧ j.2.1.length ≤ count) (fun j => j.1.1) ((fuel, c0 + 1), [], .slice none 0 0))
  · exact (Sub.cons rfl (Sub.cons rfl (Sub.cons rfl (Sub.cons rfl (Sub.cons rfl (Sub.nil _))))))
  · exact ⟨Ext.refl _, hr, by dsimp only; omega, OwnF.nil _ _ _ _, Nat.zero_le _⟩
  clear hr
  rintro ⟨⟨k, c⟩, out, v⟩ h1 ⟨e1, hr, c1, o1, l1⟩
  dsimp only at e1 hr c1 o1 l1 ⊢
  rcases k with _ | k
  · exact absurd hr (by unfold srchF; exact fun e => by cases e)
  unfold srchF at hr
  refine runJ ?_
  (apply w_condD; exact rfl; exact rfl) <;> intro hlt
  · rw [if_pos hlt] at hr
    refine runJ ?_
    (apply w_condD; exact rfl; exact rfl) <;> intro hcl
    · rw [if_pos hcl] at hr
      cases hr
      refine runJ ?_
      exact fin2 rfl rfl rfl ⟨e1, 7, rfl⟩
    rw [if_neg hcl] at hr
    refine runJ ?_
    apply (s_call Tryd_ent63 rfl rfl rfl)
    refine (refIs_spec c h1 (by omega)).mono ?_
    rintro _ h2 ⟨rfl, e2⟩
    refine ⟨(by first | exact trivial | exact trivial), ?_⟩
    have e12 := e1.trans e2
    have o2 := o1.ext e2
    refine runJ ?_
    apply (w_tcut (σ := List Nat × Value) (fun j => [(1, U x), (2, N count), (8, j.2), (9, U least), (10, U c)]) (fun j h' => Ext h h' ∧ OwnF h' h.size 22 U j.2 j.1 ∧ j.1.length ≤ count ∧ j.1 = if isR c then out ++ [c] else out))
    · (apply w_cond; exact rfl; exact rfl) <;> intro hi
      · have hi : isR c = true := by simpa using hi
        refine runJ ?_
        (refine s_app1 (bytes := 8) (c) o2 e12 rfl rfl rfl rfl rfl rfl rfl rfl rfl (by first | exact rfl | exact congrArg some (congrArg I (by omega))) (fun _ => rfl) rfl rfl (fun _ _ => trivial) (by omega) (by simp only [maxLen]; omega) ?_)
        intro v3 h3 o3 e3 k3 b3
        refine runJ ?_
        apply cut_normal (out ++ [c], v3)
        · exact (Sub.cons rfl (Sub.cons rfl (Sub.cons rfl (Sub.cons rfl (Sub.cons rfl (Sub.nil _))))))
        · exact ⟨e3, o3, by rw [List.length_append]; simp; omega, by rw [if_pos hi]⟩
      · have hi : ¬ isR c = true := by simpa using hi
        refine runJ ?_
        apply cut_normal (out, v)
        · exact (Sub.cons rfl (Sub.cons rfl (Sub.cons rfl (Sub.cons rfl (Sub.cons rfl (Sub.nil _))))))
        · exact ⟨e12, o2, l1, by rw [if_neg hi]⟩
    rintro ⟨out', v'⟩ h3 ⟨e3, o3, l3, q3⟩
    dsimp only at e3 o3 l3 q3 ⊢
    refine runJ ?_
    (apply w_condD; exact rfl; exact rfl) <;> intro hcx
    · rw [if_pos hcx] at hr
      cases hr
      refine runJ ?_
      exact fin2 rfl rfl rfl ⟨e3, 7, rfl⟩
    · rw [if_neg hcx, ← q3] at hr
      refine runJ ?_
      apply again_normal ((k, c - x), out', v')
      · exact (Sub.cons rfl (Sub.cons rfl (Sub.cons rfl (Sub.cons rfl (Sub.cons rfl (Sub.nil _))))))
      · exact ⟨e3, hr, by dsimp only; omega, o3, l3⟩
      · dsimp only; omega
  · rw [if_neg hlt] at hr
    cases hr
    refine runJ ?_
    exact fin2 rfl rfl rfl ⟨e1, v, rfl, o1⟩
end Go.Proofs.YtfcmdefigldpnaaDoor

/- Bytes: quotients, words cut to bytes. No condition. -/
namespace Go.Den
set_option linter.unusedVariables false
set_option maxRecDepth 8000
open Go Go.RowKit

/-- A byte. -/
abbrev Y (x : Nat) : Value := .int .u8 ((x : Nat) : Int)
section rules
variable {P : Program} {n : Nat} {Q : Post} {l : Fr} {h : Hp} {ops : List Oper} {Ch : Hp → Prop} {E : Nat → Bool} {i d : Nat} {x y : Operand}
theorem s_quoU8 {a b : Nat} {t yt : TypeId} (hx : IsK (ev l x) .u8 a) (hy : IsK (ev l y) .u8 b) (hb : Nat.blt d n = true) (hn : 0 < b ∧ a < 256)
    (q : S P n ops Ch E Q (i + 1) ((d, .int .u8 ((a / b : Nat) : Int)) :: l) h) : O P n ops Ch E Q i d (.binOp .quo t x y yt) l h :=
  s_bin hx.h hy.h hb (fun w' => by
    show (Op.intDiv .quo .u8 (a : Int) (b : Int)).run P w' = _
    unfold Op.intDiv
    rw [if_neg (by omega)]
    show Result.ok (Value.int .u8 (IntKind.u8.wrap ((a : Int).tdiv b))) w' = _
    rw [← Int.ofNat_tdiv]
    have h1 : a / b ≤ a := Nat.div_le_self _ _
    have h2 : IntKind.u8.wrap ((a / b : Nat) : Int) = ((a / b : Nat) : Int) := by
      generalize a / b = c at *
      show ((c : Int) % 256) = _
      exact Int.emod_eq_of_lt (by omega) (by omega)
    rw [h2]) q
theorem s_convY {src dst : TypeId} {k0 : IntKind} {a : Nat} {u : TypeDesc} (hx : IsK (ev l x) k0 a) (hs : P.underlying src = some u) (hd : P.underlying dst = some (.int .u8)) (hb : Nat.blt d n = true)
    (k : S P n ops Ch E Q (i + 1) ((d, Y (a % 256)) :: l) h) : O P n ops Ch E Q i d (.convert src dst x) l h :=
  s_conv hx.h hs hd hb (by
    have h2 : IntKind.u8.wrap (a : Int) = ((a % 256 : Nat) : Int) := by
      show ((a : Int) % 256) = _
      rw [Int.natCast_emod]; rfl
    rw [h2]; exact k)
end rules
/-- A function without results. -/
theorem fin0n {P : Program} {n : Nat} {fn : Func} {R : Value → Hp → Prop} {l : Fr} {h : Hp} (hr : fn.results = #[]) (k : R (.tuple #[]) h) : At (Fin P n fn R) .normal l h :=
  ⟨⟨_, fun a w hf _ => by simp [results, hr], k⟩⟩
theorem fin0r {P : Program} {n : Nat} {fn : Func} {R : Value → Hp → Prop} {l : Fr} {h : Hp} (hr : fn.results = #[]) (k : R (.tuple #[]) h) : At (Fin P n fn R) .ret l h :=
  ⟨⟨_, fun a w hf _ => by simp [results, hr], k⟩⟩
end Go.Den

/- The parameters that are made of two small numbers: their primes, by the kernel; contract of arrasmake.Params. No condition. -/
namespace Go.Proofs.YtfcmdefigldpnaaDoor
set_option linter.unusedVariables false
set_option maxRecDepth 8000
open Go Go.Den Go.RowKit Go.Mth Go.Dig

theorem spl_le : ∀ (k d s : Nat), (spl k d s).1 ≤ d
  | 0, d, s => Nat.le_refl _
  | k + 1, d, s => by
    unfold spl
    split
    · have := spl_le k (d / 2) (s + 1); omega
    · exact Nat.le_refl _
def strongRF (n a : Nat) : Bool := fp n 64 a (spl 64 (n - 1) 0).1 == 1 || (fp n 64 a (spl 64 (n - 1) 0).1 == n - 1 || holdsLoop n ((spl 64 (n - 1) 0).2 - 1) (fp n 64 a (spl 64 (n - 1) 0).1))
def isRF (n : Nat) : Bool := if n < 2 then false else if n < 65536 then trialR 300 2 n else basesR.all fun a => !(n % a == 0) && strongRF n a
theorem isR_fast {n : Nat} (hn : n < 18446744073709551616) : isR n = isRF n := by
  unfold isR isRF
  by_cases h0 : n = 0
  · subst h0; rfl
  have : strongR n = strongRF n := by
    funext a
    unfold strongR strongRF
    rw [powm_fp (by have := spl_le 64 (n - 1) 0; omega) h0]
  rw [this]
def srchQ (least step count : Nat) : Nat → Nat → List Nat → Option (Option (List Nat))
  | 0, _, _ => none
  | k + 1, c, out => if out.length < count then (if c ≤ least then some none else if c < step then some none else srchQ least step count k (c - step) (if isRF c then out ++ [c] else out)) else some (some out)
theorem srch_fast {least step count : Nat} : ∀ (k c : Nat) (out : List Nat), c < 18446744073709551616 → srchF least step count k c out = srchQ least step count k c out
  | 0, _, _, _ => rfl
  | k + 1, c, out, hc => by
    unfold srchF srchQ
    rw [isR_fast hc, srch_fast k _ _ (by omega)]

def tT : List (List Nat) := [[113, 449, 4049, 65521], [97, 449, 4001, 65089], [193, 449, 3457, 65089]]
def qT : List (List (List Nat)) := [[[33554273, 33553969, 33553697, 33553649, 33553633], [1073741441, 1073741329, 1073740609, 1073740529, 1073740177], [68719476577, 68719476433, 68719476257, 68719476209, 68719475809], [562949953421201, 562949953420609, 562949953420369, 562949953420097, 562949953419793]],
  [[33554273, 33553697, 33553633, 33553537, 33553313], [1073741441, 1073740609, 1073739937, 1073739649, 1073739617], [68719476577, 68719476257, 68719475809, 68719474849, 68719474529], [562949953420609, 562949953420097, 562949953418689, 562949953418401, 562949953417729]],
  [[33553537, 33553153, 33552641, 33551873, 33551041], [1073741441, 1073740609, 1073739649, 1073738753, 1073737537], [68719474049, 68719473793, 68719473281, 68719473217, 68719473089], [562949953420609, 562949953420097, 562949953418689, 562949953417729, 562949953416001]]]
def tOf (i j : Nat) : Nat := (tT.getD i []).getD j 0
def qOf (i j : Nat) : List Nat := (qT.getD i []).getD j []
def bT : List Nat := [7, 9, 12, 16]
def bQ : List Nat := [25, 30, 36, 49]
def startC (b m : Nat) : Nat := (2 * 2 ^ (b - 1) - 2) / 2 ^ m * 2 ^ m + 1
def tRes (i j : Nat) : Option (List Nat) := if i = 2 ∧ j = 0 then none else some [tOf i j]
def chkT9 (i j : Nat) : Bool := srchQ (2 ^ (bT.getD j 0 - 1)) (2 ^ (i + 4)) 1 200 (startC (bT.getD j 0) (i + 4)) [] == some (tRes i j)
def chkQ9 (i j c : Nat) : Bool := srchQ (2 ^ (bQ.getD j 0 - 1)) (2 ^ (i + 4)) c 200 (startC (bQ.getD j 0) (i + 4)) [] == some (some ((qOf i j).take c))
theorem chkT_all : ∀ i, i < 3 → ∀ j, j < 4 → chkT9 i j = true := by decide +kernel
theorem chkQ_0 : ∀ j, j < 4 → ∀ c, c < 4 → chkQ9 0 j (c + 2) = true := by decide +kernel
theorem chkQ_1 : ∀ j, j < 4 → ∀ c, c < 4 → chkQ9 1 j (c + 2) = true := by decide +kernel
theorem chkQ_2 : ∀ j, j < 4 → ∀ c, c < 4 → chkQ9 2 j (c + 2) = true := by decide +kernel
theorem chkQ_all {i j c : Nat} (hi : i < 3) (hj : j < 4) (hc : c < 4) : chkQ9 i j (c + 2) = true := by
  have : i = 0 ∨ i = 1 ∨ i = 2 := by omega
  rcases this with rfl | rfl | rfl
  · exact chkQ_0 j hj c hc
  · exact chkQ_1 j hj c hc
  · exact chkQ_2 j hj c hc

/-- A prime that serves, with a root. -/
def primOk (L x : Nat) : Bool := Nat.blt x 1125899906842624 && (Nat.blt 1 x && (Nat.beq (x % (2 * 2 ^ L)) 1 && (isF x && (List.range 60).any fun i => Nat.beq (fp x 64 (fp x 64 (i + 2) ((x - 1) / 2 ^ (L + 1))) (2 ^ (L + 1) / 2)) (x - 1))))
theorem primOk_spec {L x : Nat} (hL : L ≤ 9) (h : primOk L x = true) : x < 1125899906842624 ∧ QOk L x := by
  unfold primOk at h
  rw [Bool.and_eq_true, Bool.and_eq_true, Bool.and_eq_true, Bool.and_eq_true] at h
  obtain ⟨h1, h2, h3, h4, h5⟩ := h
  have h1 : x < 1125899906842624 := Eq.mp Nat.blt_eq h1
  have h2 : 1 < x := Eq.mp Nat.blt_eq h2
  obtain ⟨i, hi, h5⟩ := List.any_eq_true.1 h5
  have hi := List.mem_range.1 hi
  have h5 := Nat.eq_of_beq_eq_true h5
  have hp : 2 ^ (L + 1) ≤ 2 ^ 10 := Nat.pow_le_pow_right (by decide) (by omega)
  have e10 : (2 : Nat) ^ 10 = 1024 := by decide
  refine ⟨h1, by omega, Nat.eq_of_beq_eq_true h3, h2, by rw [isB_fast (by omega) (by omega)]; exact h4, i + 2, by omega, by omega, ?_⟩
  have hd : (x - 1) / 2 ^ (L + 1) ≤ x - 1 := Nat.div_le_self _ _
  have hd2 : 2 ^ (L + 1) / 2 ≤ 2 ^ (L + 1) := Nat.div_le_self _ _
  generalize (x - 1) / 2 ^ (L + 1) = e at *
  generalize 2 ^ (L + 1) / 2 = e2 at *
  rw [powm_fp (by omega) (by omega), powm_fp (by omega) (by omega)]
  exact h5
def rowOk (i j : Nat) : Bool := (qOf i j).all (primOk (i + 3)) && ((qOf i j).length == 5 && ((List.range 6).all fun c => Nat.ble (nb (prodL ((qOf i j).take c))) 420))
theorem rowOk_0 : ∀ j, j < 4 → rowOk 0 j = true := by decide +kernel
theorem rowOk_1 : ∀ j, j < 4 → rowOk 1 j = true := by decide +kernel
theorem rowOk_2 : ∀ j, j < 4 → rowOk 2 j = true := by decide +kernel
theorem rowOk_all {i j : Nat} (hi : i < 3) (hj : j < 4) : rowOk i j = true := by
  have : i = 0 ∨ i = 1 ∨ i = 2 := by omega
  rcases this with rfl | rfl | rfl
  · exact rowOk_0 j hj
  · exact rowOk_1 j hj
  · exact rowOk_2 j hj
theorem q_nodup : ∀ i, i < 3 → ∀ j, j < 4 → (qOf i j).Nodup ∧ (∀ q ∈ qOf i j, 100000 < q) ∧ tOf i j < 100000 ∧ primOk (i + 3) (tOf i j) = true := by decide +kernel
theorem t_isR : ∀ i, i < 3 → ∀ j, j < 4 → isRF (tOf i j) = true := by decide +kernel

/-- What the two numbers tell. -/
def pI (a : Nat) : Nat := a % 3
def pJ (a : Nat) : Nat := a / 3 % 4
def pC (b : Nat) : Nat := 2 + b % 4
def pK (b : Nat) : Nat := b / 4 % 4
def qPar (a b : Nat) : List Nat := (qOf (pI a) (pK b)).take (pC b)
def tPar (a : Nat) : Nat := tOf (pI a) (pJ a)
theorem qPar_facts (a b : Nat) : (qPar a b).length = pC b ∧ (∀ q ∈ qPar a b, 100000 < q ∧ q < 1125899906842624 ∧ QOk (pI a + 3) q) ∧ (qPar a b).Nodup ∧ nb (prodL (qPar a b)) ≤ 420 := by
  have hi : pI a < 3 := Nat.mod_lt _ (by decide)
  have hk : pK b < 4 := Nat.mod_lt _ (by decide)
  have hc : pC b < 6 := by unfold pC; omega
  have hR := rowOk_all hi hk
  unfold rowOk at hR
  rw [Bool.and_eq_true, Bool.and_eq_true] at hR
  obtain ⟨h1, h2, h3⟩ := hR
  have h2 : (qOf (pI a) (pK b)).length = 5 := by simpa using h2
  obtain ⟨n1, n2, -⟩ := q_nodup _ hi _ hk
  unfold qPar
  refine ⟨by rw [List.length_take, h2]; omega, fun q hq => ?_, n1.sublist (List.take_sublist _ _), Nat.le_of_ble_eq_true (List.all_eq_true.1 h3 _ (List.mem_range.2 hc))⟩
  have hq := List.mem_of_mem_take hq
  obtain ⟨g1, g2⟩ := primOk_spec (by omega) (List.all_eq_true.1 h1 q hq)
  exact ⟨n2 q hq, g1, g2⟩
theorem tPar_facts (a : Nat) : tPar a < 100000 ∧ QOk (pI a + 3) (tPar a) := by
  have hi : pI a < 3 := Nat.mod_lt _ (by decide)
  have hk : pJ a < 4 := Nat.mod_lt _ (by decide)
  obtain ⟨-, -, n3, n4⟩ := q_nodup _ hi _ hk
  exact ⟨n3, (primOk_spec (by omega) n4).2⟩
theorem par_made (a b w : Nat) (v : Value) (hw1 : 1 ≤ w) (hw : w ≤ 16) : parP ⟨((2 ^ (pI a + 3) : Nat) : Int), tPar a, v, qPar a b, (w : Int)⟩ := by
  obtain ⟨q1, q2, q3, q4⟩ := qPar_facts a b
  obtain ⟨t1, t2⟩ := tPar_facts a
  have hi : pI a < 3 := Nat.mod_lt _ (by decide)
  have hn : 2 ^ (pI a + 3) = 8 ∨ 2 ^ (pI a + 3) = 16 ∨ 2 ^ (pI a + 3) = 32 := by
    have : pI a = 0 ∨ pI a = 1 ∨ pI a = 2 := by omega
    rcases this with h | h | h <;> rw [h] <;> decide
  have hr : rowF ((2 ^ (pI a + 3) : Nat) : Int) = 420 := by
    unfold rowF
    rw [if_pos]
    unfold rowP; omega
  have hf : ∀ q, QOk (pI a + 3) q → frP ((2 ^ (pI a + 3) : Nat) : Int) q := fun q h => ⟨by rw [Int.toNat_natCast]; exact h.qm, h.is⟩
  refine ⟨⟨by dsimp only; omega, by dsimp only; omega, by dsimp only; omega⟩, ⟨by dsimp only; omega, hf _ t2⟩, ⟨fun q hq => ?_, q3, ?_, ?_⟩, ?_⟩
  · obtain ⟨g1, g2, g3⟩ := q2 q hq
    exact ⟨g2, by dsimp only; omega, hf _ g3⟩
  · show 0 < (qPar a b).length; rw [q1]; unfold pC; omega
  · show (qPar a b).length ≤ 8; rw [q1]; unfold pC; omega
  · show nb (prodL (qPar a b)) ≤ rowF ((2 ^ (pI a + 3) : Nat) : Int); omega

/-- The parameters of two bytes. -/
def parM (a b : Nat) (v : Value) : ParD := ⟨((2 ^ (pI a + 3) : Nat) : Int), tPar a, v, qPar a b, ((1 + b / 16 % 16 : Nat) : Int)⟩
theorem parM_ok (a b : Nat) (v : Value) : parP (parM a b v) := par_made a b _ v (by omega) (by omega)

theorem Tryd_ent20 : Ent Tryd.prog 20 := ent_of Tryd.func20 (by kernel_rfl) rfl
set_option maxHeartbeats 1000000 in
theorem params_spec (a b : Nat) (h : Hp) (ha : a < 256) (hb : b < 256) :
    CallsH Tryd.prog 20 [Y a, Y b] h fun v' h' => Ext h h' ∧ ∃ vq, v' = .agg (parM a b vq).cells.toArray ∧ ParAt h' (parM a b vq) ∧ OwnF h' h.size 22 U vq (qPar a b) := by
  have hi : a % 3 < 3 := Nat.mod_lt _ (by decide)
  have hj : a / 3 % 4 < 4 := Nat.mod_lt _ (by decide)
  have hc : b % 4 < 4 := Nat.mod_lt _ (by decide)
  have hk : b / 4 % 4 < 4 := Nat.mod_lt _ (by decide)
  have hp : 2 ^ (a % 3) ≤ 4 := Nat.pow_le_pow_right (n := 2) (j := 2) (by decide) (by omega)
  have hp0 : 0 < 2 ^ (a % 3) := Nat.pow_pos (by decide)
  have e16 : 2 * (8 * 2 ^ (a % 3)) = 2 ^ (a % 3 + 4) := by rw [Nat.pow_add]; omega
  obtain ⟨bt, hbt⟩ := get_lt (l := bT) (j := a / 3 % 4) hj
  obtain ⟨bq, hbq⟩ := get_lt (l := bQ) (j := b / 4 % 4) hk
  have hbtg : bT.getD (a / 3 % 4) 0 = bt := getD_of hbt
  have hbqg : bQ.getD (b / 4 % 4) 0 = bq := getD_of hbq
  have hbtm : 7 ≤ bt ∧ bt ≤ 16 := (by decide : ∀ x ∈ bT, 7 ≤ x ∧ x ≤ 16) bt (List.mem_of_getElem? hbt)
  have hbqm : 25 ≤ bq ∧ bq ≤ 49 := (by decide : ∀ x ∈ bQ, 25 ≤ x ∧ x ≤ 49) bq (List.mem_of_getElem? hbq)
  have CT := chkT_all _ hi _ hj
  have CQ := chkQ_all hi hk hc
  have ec : b % 4 + 2 = 2 + b % 4 := Nat.add_comm _ _
  rw [ec] at CQ
  unfold chkT9 at CT
  unfold chkQ9 at CQ
  rw [hbtg] at CT
  rw [hbqg] at CQ
  have hst : ∀ bb m, bb ≤ 61 → startC bb m < 18446744073709551616 := fun bb m hbb => by
    unfold startC
    have h1 : 2 ^ (bb - 1) ≤ 2 ^ 60 := Nat.pow_le_pow_right (by decide) (by omega)
    have h2 : (2 * 2 ^ (bb - 1) - 2) / 2 ^ m * 2 ^ m ≤ 2 * 2 ^ (bb - 1) - 2 := Nat.div_mul_le_self _ _
    have h60 : (2 : Nat) ^ 60 = 1152921504606846976 := by decide
    omega
  rw [← srch_fast _ _ _ (hst _ _ (by omega))] at CT CQ
  have CT := eq_of_beq CT
  have CQ := eq_of_beq CQ
  have ST := fun h => refSearch_spec bt (a % 3 + 4) 1 200 _ h (by omega) (by omega) (by omega) (by omega) (by omega) (by omega) CT
  have SQ := fun h => refSearch_spec bq (a % 3 + 4) (2 + b % 4) 200 _ h (by omega) (by omega) (by omega) (by omega) (by omega) (by omega) CQ
  clear CT CQ
  have hq3 : ([7, 9, 12, 16] : List Int)[a / 3 % 4]? = some (bt : Int) := by
    have := congrArg (Option.map Int.ofNat) hbt
    rw [← List.getElem?_map] at this
    exact this
  have hq4 : ([25, 30, 36, 49] : List Int)[b / 4 % 4]? = some (bq : Int) := by
    have := congrArg (Option.map Int.ofNat) hbq
    rw [← List.getElem?_map] at this
    exact this
  have e8 : 8 * 2 ^ (a % 3) = 2 ^ (pI a + 3) := by unfold pI; rw [Nat.pow_add]; omega
  (apply enter Tryd.func20 rfl Tryd.ntmps20 rfl)
  refine runJ ?_
  (apply s_alloc; exact rfl; exact rfl; exact rfl)
  intro p4 h1 x1 e1 b1
  (try dsimp only [Value.cells, List.toList_toArray] at x1)
  refine ⟨(by first | exact trivial | exact Ext.refl _ | assumption | exact Ext.trans (by assumption) (by assumption)), ?_⟩
  refine runJ ?_
  apply s_remU8 (isK_t rfl) isK_c rfl (by decide)
  refine runJ ?_
  rw [e16]
  generalize hM : 2 ^ (a % 3 + 4) = M at *
  refine runJ ?_
  (apply (s_litF (f := I) [7, 9, 12, 16] (fun _ => rfl)); exact rfl; exact rfl; exact rfl; exact rfl; exact rfl; exact rfl; exact rfl; exact rfl; omega)
  intro w2 h2 o2 e2 b2
  refine ⟨(by first | exact trivial | exact Ext.refl _ | assumption | exact Ext.trans (by assumption) (by assumption)), ?_⟩
  have s2 := o2.sl
  refine runJ ?_
  apply s_quoU8 (isK_t rfl) isK_c rfl (by omega)
  refine runJ ?_
  apply s_remU8 (isK_t rfl) isK_c rfl (by decide)
  refine runJ ?_
  apply (s_call Tryd_ent38 rfl rfl rfl)
  refine (ST h2).mono ?_
  rintro r3 h3 ⟨e3, R3⟩
  refine ⟨(by first | exact trivial | exact trivial), ?_⟩
  have x3 := (x1.ext e2).ext e3
  have E3 := (e1.trans e2).trans e3
  have hT : ∃ w c l, r3 = .tuple #[w, N c] ∧ SlF h3 U w l ∧ (l = [] ∧ tPar a = 193 ∨ l = [tPar a]) := by
    unfold tRes at R3
    by_cases hz : a % 3 = 2 ∧ a / 3 % 4 = 0
    · rw [if_pos hz] at R3
      obtain ⟨e, q1⟩ := R3
      exact ⟨_, e, [], q1, (OwnF.nil h3 0 22 U).sl, .inl ⟨rfl, by unfold tPar pI pJ; rw [hz.1, hz.2]; rfl⟩⟩
    · rw [if_neg hz] at R3
      obtain ⟨w, q1, q2⟩ := R3
      exact ⟨w, 0, [tPar a], q1, q2.sl, .inr rfl⟩
  obtain ⟨wt, ct, lt_, rfl, s3, hlt⟩ := hT
  have hpar : qPar a b = (qOf (a % 3) (b / 4 % 4)).take (2 + b % 4) := rfl
  rw [← hpar] at SQ
  obtain ⟨hql, hqf, hqn, -⟩ := qPar_facts a b
  have htf := (tPar_facts a).1
  refine runJ ?_
  apply (w_tcut (σ := Value) (fun w => [(1, Y b), (4, p4), (5, N (8 * 2 ^ (a % 3))), (6, U M), (7, w)]) (fun w h' => Ext h1 h' ∧ SlF h' U w [tPar a]))
  · (apply w_condD; exact rfl; exact rfl) <;> intro hl0
    · have h193 : tPar a = 193 := by
        rcases hlt with ⟨-, h⟩ | h
        · exact h
        · rw [h] at hl0; cases hl0
      refine runJ ?_
      (apply (s_litF (f := U) [193] (fun _ => rfl)); exact rfl; exact rfl; exact rfl; exact rfl; exact rfl; exact rfl; exact rfl; exact rfl; omega)
      intro w4 h4 o4 e4 b4
      refine ⟨(by first | exact trivial | exact Ext.refl _ | assumption | exact Ext.trans (by assumption) (by assumption)), ?_⟩
      rw [← h193] at o4
      refine runJ ?_
      apply cut_normal w4
      · exact (Sub.cons rfl (Sub.cons rfl (Sub.cons rfl (Sub.cons rfl (Sub.cons rfl (Sub.nil _))))))
      · exact ⟨(e2.trans e3).trans e4, o4.sl⟩
    · obtain rfl : lt_ = [tPar a] := by
        rcases hlt with ⟨h, -⟩ | h
        · rw [h] at hl0; exact absurd rfl hl0
        · exact h
      refine runJ ?_
      apply cut_normal wt
      · exact (Sub.cons rfl (Sub.cons rfl (Sub.cons rfl (Sub.cons rfl (Sub.cons rfl (Sub.nil _))))))
      · exact ⟨e2.trans e3, s3⟩
  clear x3 s3 hlt
  rintro w h4 ⟨e4, s4⟩
  have hw0 : [tPar a][0]? = some (tPar a) := rfl
  have hw1 : 0 < [tPar a].length := Nat.zero_lt_one
  refine runJ ?_
  apply s_remU8 (isK_t rfl) isK_c rfl (by decide)
  refine runJ ?_
  (apply (s_litF (f := I) [25, 30, 36, 49] (fun _ => rfl)); exact rfl; exact rfl; exact rfl; exact rfl; exact rfl; exact rfl; exact rfl; exact rfl; omega)
  intro w5 h5 o5 e5 b5
  refine ⟨(by first | exact trivial | exact Ext.refl _ | assumption | exact Ext.trans (by assumption) (by assumption)), ?_⟩
  have s5 := o5.sl
  refine runJ ?_
  apply s_quoU8 (isK_t rfl) isK_c rfl (by omega)
  refine runJ ?_
  apply s_remU8 (isK_t rfl) isK_c rfl (by decide)
  refine runJ ?_
  apply (s_call Tryd_ent38 rfl rfl rfl)
  refine (SQ h5).mono ?_
  rintro _ h6 ⟨e6, vq, rfl, o6⟩
  refine ⟨(by first | exact trivial | exact trivial), ?_⟩
  have E46 := (e4.trans e5).trans e6
  have x6 := x1.ext E46
  have s6 := (s4.ext e5).ext e6
  have s6q := o6.sl
  refine runJ ?_
  apply s_quoU8 (isK_t rfl) isK_c rfl (by omega)
  have hb16 : b / 16 < 16 := by omega
  refine runJ ?_
  generalize hn8 : 8 * 2 ^ (a % 3) = n8 at *
  generalize hwd : 1 + b / 16 % 16 = wd
  (apply (s_build ([N n8, U (tPar a), vq, N wd])); exact rfl; exact rfl; exact rfl; (repeat (first | exact CellsAll.nil | (apply CellsAll.cons; (first | exact oneL (by assumption) | exact oneL (SlF.one (by assumption)) | exact oneL (SlF.one (OwnF.sl (by assumption))) | exact oneL (Var.one (by assumption)) | exact rfl)))); exact rfl; exact rfl)
  refine runJ ?_
  (apply s_storeV; exact rfl; exact rfl; exact rfl; (repeat (first | exact OneAll.nil | (apply OneAll.cons; (first | exact rfl | exact SlF.one (by assumption) | exact SlF.one (OwnF.sl (by assumption)) | exact Var.one (by assumption))))); exact rfl; exact rfl; exact x6; exact rfl)
  intro h7 x7 k7
  (try dsimp only [Value.cells, List.toList_toArray] at x7)
  refine ⟨(by first | exact trivial | exact Ext.refl _ | assumption | exact Ext.only (by assumption) _ | exact Only.trans (Ext.only (by assumption) _) (by assumption)), ?_⟩
  have e7 : Ext h h7 := k7.oldV (e1.trans E46) b1 (Nat.le_refl _)
  rw [b1] at k7
  have hnq : vq.ownBlock = none ∨ vq.ownBlock ≠ some h.size := by
    cases hv : vq.ownBlock with
    | none => exact .inl rfl
    | some j =>
      refine .inr fun e => ?_
      cases e
      have h1 := (o6.blk _ hv).1
      have h2 := e1.1
      obtain ⟨k3, hk3, h3⟩ := x1.blk
      rw [b1] at hk3
      cases hk3
      have h4' := (e4.trans e5).1
      omega
  have o7 := o6.only k7 hnq
  have hcell : [N n8, U (tPar a), vq, N wd] = (parM a b vq).cells := by rw [e8, ← hwd]; rfl
  rw [hcell] at x7
  refine runJ ?_
  refine finC rfl rfl x7 rfl rfl ⟨e7, vq, rfl, ⟨o7.sl, fun q hq => by have := (hqf q hq).2.1; omega, by show tPar a < _; omega, by show (qPar a b).length ≤ _; rw [hql]; unfold pC; omega⟩, o7.base (Nat.le_trans e1.1 (e4.trans e5).1)⟩
end Go.Proofs.YtfcmdefigldpnaaDoor

/- Package pack: numbers as bytes, and what a writer holds. No condition. -/
namespace Go.Proofs.YtfcmdefigldpnaaDoor
set_option linter.unusedVariables false
set_option maxRecDepth 8000
open Go Go.Den Go.RowKit Go.Dig

/-- A number as n bytes, the highest first; the number of bytes. -/
def numB (v n : Nat) : List Nat := (List.range n).map fun i => v / 2 ^ (8 * (n - 1 - i)) % 256
def vB (bs : List Nat) : Nat := bs.foldl (fun v c => v * 256 + c) 0
theorem vB_snoc (bs : List Nat) (c : Nat) : vB (bs ++ [c]) = vB bs * 256 + c := by unfold vB; rw [List.foldl_append]; rfl
theorem numB_len (v n : Nat) : (numB v n).length = n := by unfold numB; simp
theorem numB_get {v n i : Nat} (h : i < n) : (numB v n)[i]? = some (v / 2 ^ (8 * (n - 1 - i)) % 256) := by unfold numB; simp [h]
theorem numB_lt (v n : Nat) : ∀ b ∈ numB v n, b < 256 := fun b hb => by
  unfold numB at hb
  obtain ⟨i, -, rfl⟩ := List.mem_map.1 hb
  exact Nat.mod_lt _ (by decide)
theorem numB_succ (v n : Nat) : numB v (n + 1) = numB (v / 256) n ++ [v % 256] := by
  unfold numB
  rw [List.range_succ, List.map_append]
  congr 1
  · refine List.map_congr_left fun i hi => ?_
    have hi := List.mem_range.1 hi
    rw [show n + 1 - 1 - i = (n - 1 - i) + 1 by omega, Nat.mul_add, Nat.mul_one, Nat.add_comm, Nat.pow_add, ← Nat.div_div_eq_div_mul]
  · simp
theorem vB_num : ∀ (n v : Nat), vB (numB v n) = v % 2 ^ (8 * n)
  | 0, v => by simp [numB, vB, Nat.mod_one]
  | n + 1, v => by
    rw [numB_succ, vB_snoc, vB_num n, Nat.mul_add, Nat.mul_one, Nat.add_comm (8 * n) 8, Nat.pow_add, Nat.mod_mul, Nat.mul_comm, Nat.add_comm]
theorem vB_lt : ∀ (k : Nat) (bs : List Nat), bs.length = k → (∀ b ∈ bs, b < 256) → vB bs < 256 ^ k := by
  intro k
  induction k with
  | zero =>
    intro bs hl _
    obtain rfl : bs = [] := List.eq_nil_of_length_eq_zero hl
    decide
  | succ k ih =>
    intro bs hl hb
    obtain ⟨ys, x, rfl⟩ : ∃ ys x, bs = ys ++ [x] := ⟨bs.dropLast, bs.getLast (by intro e; subst e; cases hl), (List.dropLast_concat_getLast _).symm⟩
    have h1 := ih ys (by simpa using hl) (fun b hb' => hb b (List.mem_append_left _ hb'))
    have h2 := hb x (List.mem_append_right _ (List.mem_singleton.2 rfl))
    rw [vB_snoc, Nat.pow_succ]
    omega
def wordsB (l : List Nat) : List Nat := l.flatMap fun v => numB v 8
theorem wordsB_cons (v : Nat) (l : List Nat) : wordsB (v :: l) = numB v 8 ++ wordsB l := by unfold wordsB; rw [List.flatMap_cons]
theorem wordsB_snoc (v : Nat) (l : List Nat) : wordsB (l ++ [v]) = wordsB l ++ numB v 8 := by unfold wordsB; rw [List.flatMap_append]; simp
theorem wordsB_len (l : List Nat) : (wordsB l).length = 8 * l.length := by
  induction l with
  | nil => rfl
  | cons v l ih => rw [wordsB_cons, List.length_append, numB_len, ih, List.length_cons]; omega
def polyB (rows : List (List Nat)) : List Nat := rows.flatMap wordsB
theorem polyB_snoc (l : List Nat) (rows : List (List Nat)) : polyB (rows ++ [l]) = polyB rows ++ wordsB l := by unfold polyB; rw [List.flatMap_append]; simp
theorem polyB_cons (l : List Nat) (rows : List (List Nat)) : polyB (l :: rows) = wordsB l ++ polyB rows := by unfold polyB; rw [List.flatMap_cons]

/-- Changed are two blocks at most. -/
def Two (r1 r2 : Option Nat) (h h' : Hp) : Prop := h.size ≤ h'.size ∧ ∀ i, i < h.size → some i ≠ r1 → some i ≠ r2 → h'[i]? = h[i]?
theorem only_two1 {h h' : Hp} {r1 r2 : Option Nat} (k : Only r1 h h') : Two r1 r2 h h' := ⟨k.1, fun i hi h1 _ => k.2 i hi h1⟩
theorem only_two2 {h h' : Hp} {r1 r2 : Option Nat} (k : Only r2 h h') : Two r1 r2 h h' := ⟨k.1, fun i hi _ h2 => k.2 i hi h2⟩
theorem Two.ext {h0 h h' : Hp} {r1 r2 : Option Nat} (k : Two r1 r2 h h') (e : Ext h0 h) (h1 : ∀ j, r1 = some j → h0.size ≤ j) (h2 : ∀ j, r2 = some j → h0.size ≤ j) : Ext h0 h' :=
  ⟨Nat.le_trans e.1 k.1, fun i hi => (k.2 i (Nat.lt_of_lt_of_le hi e.1) (fun q => by have := h1 i q.symm; omega) (fun q => by have := h2 i q.symm; omega)).trans (e.2 i hi)⟩
theorem Two.split {h h' : Hp} {j : Nat} {r2 : Option Nat} (k : Two (some j) r2 h h') (hj : j < h.size) : ∃ hm, Only (some j) h hm ∧ Only r2 hm h' := by
  have hj' : j < h'.size := Nat.lt_of_lt_of_le hj k.1
  refine ⟨h.set j h'[j] hj, ⟨by simp, fun i hi hne => ?_⟩, ⟨by simpa using k.1, fun i hi hne => ?_⟩⟩
  · rw [Array.getElem?_set_ne]
    exact fun e => hne (by rw [e])
  · rw [Array.size_set] at hi
    by_cases e : j = i
    · subst e
      rw [Array.getElem?_set_self, Array.getElem?_eq_getElem hj']
    · rw [Array.getElem?_set_ne _ e]
      exact k.2 i hi (fun q => e (Option.some.inj q).symm) hne
theorem sl_two {α : Type} {f : α → Value} {h h' : Hp} {v : Value} {xs : List α} {j : Nat} {r2 : Option Nat} (s : SlF h f v xs) (k : Two (some j) r2 h h') (hj : j < h.size) (n1 : v.ownBlock = none ∨ v.ownBlock ≠ some j) (n2 : v.ownBlock = none ∨ v.ownBlock ≠ r2) : SlF h' f v xs := by
  obtain ⟨hm, k1, k2⟩ := k.split hj
  exact (s.only k1 n1).only k2 n2
theorem var_two {h h' : Hp} {p : Value} {e : TypeId} {cs : List Value} {j : Nat} {r2 : Option Nat} (s : Var h p e cs) (k : Two (some j) r2 h h') (hj : j < h.size) (n1 : pblk p ≠ some j) (n2 : pblk p ≠ r2) : Var h' p e cs := by
  obtain ⟨hm, k1, k2⟩ := k.split hj
  exact (s.only k1 n1).only k2 n2

theorem Tryd_ent87 : Ent Tryd.prog 87 := ent_of Tryd.func87 (by kernel_rfl) rfl
theorem number_spec (b : Value) (bs : List Nat) (v n B0 : Nat) (h : Hp) (s : OwnF h B0 5 Y b bs) (hB : B0 ≤ h.size) (hv : v < 18446744073709551616) (hn : n ≤ 8) (hl : bs.length ≤ 1000000) :
    CallsH Tryd.prog 87 [b, U v, N n] h fun v' h' => Only b.ownBlock h h' ∧ OwnF h' B0 5 Y v' (bs ++ numB v n) ∧ (v'.ownBlock = b.ownBlock ∨ ∃ j, v'.ownBlock = some j ∧ h.size ≤ j) := by
  (apply enter Tryd.func87 rfl Tryd.ntmps87 rfl)
  refine runJ ?_
  (first | (apply w_seqB; exact rfl; apply w_block; exact rfl) | skip)
  apply (w_loop (σ := Nat × Value) rfl (fun j => [(0, j.2), (1, U v), (7, I ((n : Int) - 1 - (j.1 : Int)))])
    (fun j h' => Only b.ownBlock h h' ∧ j.1 ≤ n ∧ OwnF h' B0 5 Y j.2 (bs ++ (numB v n).take j.1) ∧ (j.2.ownBlock = b.ownBlock ∨ ∃ i, j.2.ownBlock = some i ∧ h.size ≤ i)) (fun j => n - j.1) (0, b))
  · exact (Sub.consE rfl (by first | rfl | (refine congrArg I ?_; (try dsimp only); omega) | (refine congrArg Value.bool ?_; simp [*])) (Sub.consE rfl (by first | rfl | (refine congrArg I ?_; (try dsimp only); omega) | (refine congrArg Value.bool ?_; simp [*])) (Sub.consE rfl (by first | rfl | (refine congrArg I ?_; (try dsimp only); omega) | (refine congrArg Value.bool ?_; simp [*])) (Sub.nil _))))
  · refine ⟨Only.refl _ _, Nat.zero_le _, ?_, .inl rfl⟩
    dsimp only
    rw [List.take_zero, List.append_nil]
    exact s
  rintro ⟨k, vb⟩ h1 ⟨d1, k1, o1, b1⟩
  dsimp only at d1 k1 o1 b1 ⊢
  refine runJ ?_
  (apply w_condD; exact rfl; exact rfl) <;> intro hk
  · have hkn : k < n := by omega
    have hg := numB_get (v := v) hkn
    have htl : ((numB v n).take k).length = k := by rw [List.length_take, numB_len]; omega
    obtain ⟨hsz, ex1⟩ := cutH_ext (Nat.le_trans hB d1.1)
    rw [← hsz] at o1
    (apply w_know (t := 7) (u := N (n - 1 - k)) rfl (congrArg I (by omega)))
    have hle : n - 1 - k ≤ 7 := by omega
    refine runJ ?_
    apply s_convY (isK_t rfl) rfl rfl rfl
    refine runJ ?_
    have hby : v / 2 ^ (8 * (n - 1 - k)) % 256 < 256 := Nat.mod_lt _ (by decide)
    generalize v / 2 ^ (8 * (n - 1 - k)) % 256 = y at *
    have hlx : (bs ++ (numB v n).take k).length ≤ 1000008 := by rw [List.length_append, htl]; omega
    (refine s_app1 (bytes := 1) (y) o1 ex1 rfl rfl rfl rfl rfl rfl rfl rfl rfl (by first | exact rfl | exact congrArg some (congrArg I (by omega))) (fun _ => rfl) rfl rfl (fun _ _ => trivial) (by omega) (by simp only [maxLen]; omega) ?_)
    intro v3 h3 o3 e3 k3 b3
    rw [hsz] at o3 o1
    rw [List.append_assoc, ← take_snoc hg] at o3
    have d3 : Only b.ownBlock h h3 := by
      rcases b1 with b1 | ⟨i, hi, hil⟩
      · rw [b1] at k3; exact d1.trans k3
      · exact only_own d1 k3 fun j hj => by rw [hi] at hj; cases hj; exact hil
    have b3' : v3.ownBlock = b.ownBlock ∨ ∃ i, v3.ownBlock = some i ∧ h.size ≤ i := by
      rcases b3 with b3 | ⟨i, hi, hil⟩
      · rw [b3]; exact b1
      · exact .inr ⟨i, hi, Nat.le_trans d1.1 hil⟩
    refine runJ ?_
    apply again_normal (k + 1, v3)
    · exact (Sub.consE rfl (by first | rfl | (refine congrArg I ?_; (try dsimp only); omega) | (refine congrArg Value.bool ?_; simp [*])) (Sub.consE rfl (by first | rfl | (refine congrArg I ?_; (try dsimp only); omega) | (refine congrArg Value.bool ?_; simp [*])) (Sub.consE rfl (by first | rfl | (refine congrArg I ?_; (try dsimp only); omega) | (refine congrArg Value.bool ?_; simp [*])) (Sub.nil _))))
    · exact ⟨d3, hkn, o3, b3'⟩
    · dsimp only; omega
  · obtain rfl : k = n := by omega
    rw [List.take_of_length_le (by rw [numB_len]; exact Nat.le_refl _)] at o1
    refine runJ ?_
    exact fin1 rfl rfl ⟨d1, o1, b1⟩

/-- A writer and its bytes. -/
structure WrAt (h : Hp) (w : Value) (k : Nat) (vb : Value) (bs : List Nat) : Prop where mk ::
  pw : pblk w = some k
  var : Var h w 96 [vb]
  own : OwnF h (k + 1) 5 Y vb bs
def Grw (h h' : Hp) (k : Nat) (vb vb' : Value) : Prop := Two (some k) vb.ownBlock h h' ∧ (vb'.ownBlock = vb.ownBlock ∨ ∃ j, vb'.ownBlock = some j ∧ h.size ≤ j)
theorem Grw.refl (h : Hp) (k : Nat) (vb : Value) : Grw h h k vb vb := ⟨⟨Nat.le_refl _, fun _ _ _ _ => rfl⟩, .inl rfl⟩
theorem Grw.trans {h h1 h2 : Hp} {k : Nat} {vb vb1 vb2 : Value} (a : Grw h h1 k vb vb1) (b : Grw h1 h2 k vb1 vb2) : Grw h h2 k vb vb2 := by
  refine ⟨⟨Nat.le_trans a.1.1 b.1.1, fun i hi h1 h2 => ?_⟩, ?_⟩
  · rw [b.1.2 i (Nat.lt_of_lt_of_le hi a.1.1) h1 (fun e => by
      rcases a.2 with q | ⟨j, hj, hjl⟩
      · exact h2 (e.trans q)
      · rw [hj] at e; cases e; omega)]
    exact a.1.2 i hi h1 h2
  · rcases b.2 with q | ⟨j, hj, hjl⟩
    · rw [q]; exact a.2
    · exact .inr ⟨j, hj, Nat.le_trans a.1.1 hjl⟩
theorem Grw.ext {h0 h h' : Hp} {k : Nat} {vb vb' : Value} (g : Grw h h' k vb vb') (e : Ext h0 h) (hk : h0.size ≤ k) (hv : ∀ j, vb.ownBlock = some j → k + 1 ≤ j) : Ext h0 h' :=
  g.1.ext e (fun j hj => by cases hj; exact hk) (fun j hj => by have := hv j hj; omega)
theorem WrAt.lt {h : Hp} {w vb : Value} {k : Nat} {bs : List Nat} (W : WrAt h w k vb bs) : k < h.size := by
  obtain ⟨j, hj, hl⟩ := W.var.blk
  rw [W.pw] at hj; cases hj; exact hl
theorem WrAt.up {h : Hp} {w vb : Value} {k : Nat} {bs : List Nat} (W : WrAt h w k vb bs) : ∀ j, vb.ownBlock = some j → k + 1 ≤ j := fun j hj => (W.own.blk j hj).1
theorem sl_grw {α : Type} {f : α → Value} {h h' : Hp} {w v vb vb' : Value} {k : Nat} {bs : List Nat} {xs : List α} (s : SlF h f v xs) (W : WrAt h w k vb bs) (g : Grw h h' k vb vb') (lo : ∀ j, v.ownBlock = some j → j < k) : SlF h' f v xs := by
  refine sl_two s g.1 W.lt ?_ ?_
  · cases hv : v.ownBlock with
    | none => exact .inl rfl
    | some j => exact .inr fun e => by cases e; have := lo _ hv; omega
  · cases hv : v.ownBlock with
    | none => exact .inl rfl
    | some j => exact .inr fun e => by have := lo _ hv; have := W.up j e.symm; omega

theorem Tryd_ent69 : Ent Tryd.prog 69 := ent_of Tryd.func69 (by kernel_rfl) rfl
theorem words_spec (w vb vl : Value) (k : Nat) (bs l : List Nat) (h : Hp) (W : WrAt h w k vb bs) (s : SlF h U vl l) (lo : ∀ j, vl.ownBlock = some j → j < k) (hl : ∀ x ∈ l, x < 18446744073709551616) (hb : bs.length + 8 * l.length ≤ 1000000) :
    CallsH Tryd.prog 69 [w, vl] h fun v' h' => ∃ vb', WrAt h' w k vb' (bs ++ wordsB l) ∧ Grw h h' k vb vb' := by
  (apply enter Tryd.func69 rfl Tryd.ntmps69 rfl)
  refine runJ ?_
  (first | (apply w_seqB; exact rfl; apply w_block; exact rfl) | skip)
  apply (w_loop (σ := Nat × Value) rfl (fun j => [(0, w), (6, vl), (7, N l.length), (8, N j.1)])
    (fun j h' => j.1 ≤ l.length ∧ WrAt h' w k j.2 (bs ++ wordsB (l.take j.1)) ∧ Grw h h' k vb j.2) (fun j => l.length - j.1) (0, vb))
  · exact (Sub.cons rfl (Sub.cons rfl (Sub.cons rfl (Sub.cons rfl (Sub.nil _)))))
  · refine ⟨Nat.zero_le _, ?_, Grw.refl _ _ _⟩
    dsimp only
    rw [List.take_zero]
    show WrAt h w k vb (bs ++ [])
    rw [List.append_nil]; exact W
  rintro ⟨j, v1⟩ h1 ⟨j1, W1, G1⟩
  dsimp only at j1 W1 G1 ⊢
  have s1 := sl_grw s W G1 lo
  have x1 := W1.var
  refine runJ ?_
  (apply w_condD; exact rfl; exact rfl) <;> intro hj
  · obtain ⟨x, hxj⟩ := get_lt hj
    have hxb := hl x (List.mem_of_getElem? hxj)
    have htl : (l.take j).length = j := by rw [List.length_take]; omega
    have hlen : (bs ++ wordsB (l.take j)).length ≤ 1000000 := by rw [List.length_append, wordsB_len, htl]; omega
    refine runJ ?_
    apply (s_call Tryd_ent87 rfl rfl rfl)
    refine (number_spec v1 _ x 8 (k + 1) h1 W1.own W1.lt hxb (by decide) hlen).mono ?_
    rintro v2 h2 ⟨k2, o2, b2⟩
    refine ⟨(by first | exact trivial | exact trivial), ?_⟩
    have hne : pblk w ≠ v1.ownBlock := by rw [W1.pw]; intro e; have := W1.up k e.symm; omega
    have x2 := x1.only k2 hne
    have o2one := o2.sl.one
    refine runJ ?_
    (apply s_storeC; exact rfl; exact rfl; (first | exact rfl | exact SlF.one (by assumption) | exact SlF.one (OwnF.sl (by assumption)) | exact Var.one (by assumption)); exact rfl; exact rfl; exact x2; exact rfl)
    intro h3 x3 k3
    refine ⟨(by first | exact trivial | exact Ext.refl _ | assumption | exact Ext.only (by assumption) _ | exact Only.trans (Ext.only (by assumption) _) (by assumption)), ?_⟩
    rw [W1.pw] at k3
    have hv2 : v2.ownBlock = none ∨ v2.ownBlock ≠ some k := by
      cases hv : v2.ownBlock with
      | none => exact .inl rfl
      | some j => exact .inr fun e => by cases e; have := (o2.blk _ hv).1; omega
    have o3 := o2.only k3 hv2
    have G2 : Grw h1 h3 k v1 v2 := ⟨⟨Nat.le_trans k2.1 k3.1, fun i hi q1 q2 => (k3.2 i (Nat.lt_of_lt_of_le hi k2.1) q1).trans (k2.2 i hi q2)⟩, b2⟩
    rw [List.append_assoc, ← wordsB_snoc, ← take_snoc hxj] at o3
    refine runJ ?_
    apply again_normal (j + 1, v2)
    · exact (Sub.cons rfl (Sub.cons rfl (Sub.cons rfl (Sub.cons rfl (Sub.nil _)))))
    · exact ⟨hj, ⟨W1.pw, x3, o3⟩, G1.trans G2⟩
    · dsimp only; omega
  · obtain rfl : j = l.length := by omega
    rw [List.take_length] at W1
    refine runJ ?_
    exact fin0n rfl ⟨v1, W1, G1⟩
end Go.Proofs.YtfcmdefigldpnaaDoor
