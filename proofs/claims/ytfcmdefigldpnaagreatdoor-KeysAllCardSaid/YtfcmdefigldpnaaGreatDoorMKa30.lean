/- Texts SrcC to RkyE of this work, joined, without what the law does not lean on. -/
import Derived.Test.YtfcmdefigldpnaaGreatDoorMKa29
namespace Go.Proofs.YtfcmdefigldpnaaGreatDoor
set_option linter.unusedVariables false
set_option maxRecDepth 8000
open Go Go.Den Go.RowKit Go.Mth Go.Dig

theorem spl_le : ∀ (k d s : Nat), (spl k d s).1 ≤ d
  | 0, d, s => Nat.le_refl _
  | k + 1, d, s => by
    unfold spl
    split
    · have := spl_le k (d / 2) (s + 1); omega
    · exact Nat.le_refl _
def strongRF (n a : Nat) : Bool := fp n 64 a (spl 64 (n - 1) 0).1 == 1 || (fp n 64 a (spl 64 (n - 1) 0).1 == n - 1 || holdsLoop n ((spl 64 (n - 1) 0).2 - 1) (fp n 64 a (spl 64 (n - 1) 0).1))
def isRF (n : Nat) : Bool := if n < 2 then false else if n < 65536 then trialR 300 2 n else basesR.all fun a => !(n % a == 0) && strongRF n a
theorem isR_fast {n : Nat} (hn : n < 18446744073709551616) : isR n = isRF n := by
  unfold isR isRF
  by_cases h0 : n = 0
  · subst h0; rfl
  have : strongR n = strongRF n := by
    funext a
    unfold strongR strongRF
    rw [powm_fp (by have := spl_le 64 (n - 1) 0; omega) h0]
  rw [this]
def srchQ (least step count : Nat) : Nat → Nat → List Nat → Option (Option (List Nat))
  | 0, _, _ => none
  | k + 1, c, out => if out.length < count then (if c ≤ least then some none else if c < step then some none else srchQ least step count k (c - step) (if isRF c then out ++ [c] else out)) else some (some out)
theorem srch_fast {least step count : Nat} : ∀ (k c : Nat) (out : List Nat), c < 18446744073709551616 → srchF least step count k c out = srchQ least step count k c out
  | 0, _, _, _ => rfl
  | k + 1, c, out, hc => by
    unfold srchF srchQ
    rw [isR_fast hc, srch_fast k _ _ (by omega)]

def tT : List (List Nat) := [[113, 449, 4049, 65521], [97, 449, 4001, 65089], [193, 449, 3457, 65089]]
def qT : List (List (List Nat)) := [[[33554273, 33553969, 33553697, 33553649, 33553633], [1073741441, 1073741329, 1073740609, 1073740529, 1073740177], [68719476577, 68719476433, 68719476257, 68719476209, 68719475809], [562949953421201, 562949953420609, 562949953420369, 562949953420097, 562949953419793]],
  [[33554273, 33553697, 33553633, 33553537, 33553313], [1073741441, 1073740609, 1073739937, 1073739649, 1073739617], [68719476577, 68719476257, 68719475809, 68719474849, 68719474529], [562949953420609, 562949953420097, 562949953418689, 562949953418401, 562949953417729]],
  [[33553537, 33553153, 33552641, 33551873, 33551041], [1073741441, 1073740609, 1073739649, 1073738753, 1073737537], [68719474049, 68719473793, 68719473281, 68719473217, 68719473089], [562949953420609, 562949953420097, 562949953418689, 562949953417729, 562949953416001]]]
def tOf (i j : Nat) : Nat := (tT.getD i []).getD j 0
def qOf (i j : Nat) : List Nat := (qT.getD i []).getD j []
def bT : List Nat := [7, 9, 12, 16]
def bQ : List Nat := [25, 30, 36, 49]
def startC (b m : Nat) : Nat := (2 * 2 ^ (b - 1) - 2) / 2 ^ m * 2 ^ m + 1
def tRes (i j : Nat) : Option (List Nat) := if i = 2 ∧ j = 0 then none else some [tOf i j]
def chkT9 (i j : Nat) : Bool := srchQ (2 ^ (bT.getD j 0 - 1)) (2 ^ (i + 4)) 1 200 (startC (bT.getD j 0) (i + 4)) [] == some (tRes i j)
def chkQ9 (i j c : Nat) : Bool := srchQ (2 ^ (bQ.getD j 0 - 1)) (2 ^ (i + 4)) c 200 (startC (bQ.getD j 0) (i + 4)) [] == some (some ((qOf i j).take c))
theorem chkT_all : ∀ i, i < 3 → ∀ j, j < 4 → chkT9 i j = true := by decide +kernel
theorem chkQ_0 : ∀ j, j < 4 → ∀ c, c < 4 → chkQ9 0 j (c + 2) = true := by decide +kernel
theorem chkQ_1 : ∀ j, j < 4 → ∀ c, c < 4 → chkQ9 1 j (c + 2) = true := by decide +kernel
theorem chkQ_2 : ∀ j, j < 4 → ∀ c, c < 4 → chkQ9 2 j (c + 2) = true := by decide +kernel
theorem chkQ_all {i j c : Nat} (hi : i < 3) (hj : j < 4) (hc : c < 4) : chkQ9 i j (c + 2) = true := by
  have : i = 0 ∨ i = 1 ∨ i = 2 := by omega
  rcases this with rfl | rfl | rfl
  · exact chkQ_0 j hj c hc
  · exact chkQ_1 j hj c hc
  · exact chkQ_2 j hj c hc

/-- A prime that serves, with a root. -/
def primOk (L x : Nat) : Bool := Nat.blt x 1125899906842624 && (Nat.blt 1 x && (Nat.beq (x % (2 * 2 ^ L)) 1 && (isF x && (List.range 60).any fun i => Nat.beq (fp x 64 (fp x 64 (i + 2) ((x - 1) / 2 ^ (L + 1))) (2 ^ (L + 1) / 2)) (x - 1))))
theorem primOk_spec {L x : Nat} (hL : L ≤ 9) (h : primOk L x = true) : x < 1125899906842624 ∧ QOk L x := by
  unfold primOk at h
  rw [Bool.and_eq_true, Bool.and_eq_true, Bool.and_eq_true, Bool.and_eq_true] at h
  obtain ⟨h1, h2, h3, h4, h5⟩ := h
  have h1 : x < 1125899906842624 := Eq.mp Nat.blt_eq h1
  have h2 : 1 < x := Eq.mp Nat.blt_eq h2
  obtain ⟨i, hi, h5⟩ := List.any_eq_true.1 h5
  have hi := List.mem_range.1 hi
  have h5 := Nat.eq_of_beq_eq_true h5
  have hp : 2 ^ (L + 1) ≤ 2 ^ 10 := Nat.pow_le_pow_right (by decide) (by omega)
  have e10 : (2 : Nat) ^ 10 = 1024 := by decide
  refine ⟨h1, by omega, Nat.eq_of_beq_eq_true h3, h2, by rw [isB_fast (by omega) (by omega)]; exact h4, i + 2, by omega, by omega, ?_⟩
  have hd : (x - 1) / 2 ^ (L + 1) ≤ x - 1 := Nat.div_le_self _ _
  have hd2 : 2 ^ (L + 1) / 2 ≤ 2 ^ (L + 1) := Nat.div_le_self _ _
  generalize (x - 1) / 2 ^ (L + 1) = e at *
  generalize 2 ^ (L + 1) / 2 = e2 at *
  rw [powm_fp (by omega) (by omega), powm_fp (by omega) (by omega)]
  exact h5
def rowOk (i j : Nat) : Bool := (qOf i j).all (primOk (i + 3)) && ((qOf i j).length == 5 && ((List.range 6).all fun c => Nat.ble (nb (prodL ((qOf i j).take c))) 420))
theorem rowOk_0 : ∀ j, j < 4 → rowOk 0 j = true := by decide +kernel
theorem rowOk_1 : ∀ j, j < 4 → rowOk 1 j = true := by decide +kernel
theorem rowOk_2 : ∀ j, j < 4 → rowOk 2 j = true := by decide +kernel
theorem rowOk_all {i j : Nat} (hi : i < 3) (hj : j < 4) : rowOk i j = true := by
  have : i = 0 ∨ i = 1 ∨ i = 2 := by omega
  rcases this with rfl | rfl | rfl
  · exact rowOk_0 j hj
  · exact rowOk_1 j hj
  · exact rowOk_2 j hj
theorem q_nodup : ∀ i, i < 3 → ∀ j, j < 4 → (qOf i j).Nodup ∧ (∀ q ∈ qOf i j, 100000 < q) ∧ tOf i j < 100000 ∧ primOk (i + 3) (tOf i j) = true := by decide +kernel
theorem t_isR : ∀ i, i < 3 → ∀ j, j < 4 → isRF (tOf i j) = true := by decide +kernel

/-- What the two numbers tell. -/
def pI (a : Nat) : Nat := a % 3
def pJ (a : Nat) : Nat := a / 3 % 4
def pC (b : Nat) : Nat := 2 + b % 4
def pK (b : Nat) : Nat := b / 4 % 4
def qPar (a b : Nat) : List Nat := (qOf (pI a) (pK b)).take (pC b)
def tPar (a : Nat) : Nat := tOf (pI a) (pJ a)
theorem qPar_facts (a b : Nat) : (qPar a b).length = pC b ∧ (∀ q ∈ qPar a b, 100000 < q ∧ q < 1125899906842624 ∧ QOk (pI a + 3) q) ∧ (qPar a b).Nodup ∧ nb (prodL (qPar a b)) ≤ 420 := by
  have hi : pI a < 3 := Nat.mod_lt _ (by decide)
  have hk : pK b < 4 := Nat.mod_lt _ (by decide)
  have hc : pC b < 6 := by unfold pC; omega
  have hR := rowOk_all hi hk
  unfold rowOk at hR
  rw [Bool.and_eq_true, Bool.and_eq_true] at hR
  obtain ⟨h1, h2, h3⟩ := hR
  have h2 : (qOf (pI a) (pK b)).length = 5 := by simpa using h2
  obtain ⟨n1, n2, -⟩ := q_nodup _ hi _ hk
  unfold qPar
  refine ⟨by rw [List.length_take, h2]; omega, fun q hq => ?_, n1.sublist (List.take_sublist _ _), Nat.le_of_ble_eq_true (List.all_eq_true.1 h3 _ (List.mem_range.2 hc))⟩
  have hq := List.mem_of_mem_take hq
  obtain ⟨g1, g2⟩ := primOk_spec (by omega) (List.all_eq_true.1 h1 q hq)
  exact ⟨n2 q hq, g1, g2⟩
theorem tPar_facts (a : Nat) : tPar a < 100000 ∧ QOk (pI a + 3) (tPar a) := by
  have hi : pI a < 3 := Nat.mod_lt _ (by decide)
  have hk : pJ a < 4 := Nat.mod_lt _ (by decide)
  obtain ⟨-, -, n3, n4⟩ := q_nodup _ hi _ hk
  exact ⟨n3, (primOk_spec (by omega) n4).2⟩
theorem par_made (a b w : Nat) (v : Value) (hw1 : 1 ≤ w) (hw : w ≤ 16) : parP ⟨((2 ^ (pI a + 3) : Nat) : Int), tPar a, v, qPar a b, (w : Int)⟩ := by
  obtain ⟨q1, q2, q3, q4⟩ := qPar_facts a b
  obtain ⟨t1, t2⟩ := tPar_facts a
  have hi : pI a < 3 := Nat.mod_lt _ (by decide)
  have hn : 2 ^ (pI a + 3) = 8 ∨ 2 ^ (pI a + 3) = 16 ∨ 2 ^ (pI a + 3) = 32 := by
    have : pI a = 0 ∨ pI a = 1 ∨ pI a = 2 := by omega
    rcases this with h | h | h <;> rw [h] <;> decide
  have hr : rowF ((2 ^ (pI a + 3) : Nat) : Int) = 420 := by
    unfold rowF
    rw [if_pos]
    unfold rowP; omega
  have hf : ∀ q, QOk (pI a + 3) q → frP ((2 ^ (pI a + 3) : Nat) : Int) q := fun q h => ⟨by rw [Int.toNat_natCast]; exact h.qm, h.is⟩
  refine ⟨⟨by dsimp only; omega, by dsimp only; omega, by dsimp only; omega⟩, ⟨by dsimp only; omega, hf _ t2⟩, ⟨fun q hq => ?_, q3, ?_, ?_⟩, ?_⟩
  · obtain ⟨g1, g2, g3⟩ := q2 q hq
    exact ⟨g2, by dsimp only; omega, hf _ g3⟩
  · show 0 < (qPar a b).length; rw [q1]; unfold pC; omega
  · show (qPar a b).length ≤ 8; rw [q1]; unfold pC; omega
  · show nb (prodL (qPar a b)) ≤ rowF ((2 ^ (pI a + 3) : Nat) : Int); omega

/-- The parameters of two bytes. -/
def parM (a b : Nat) (v : Value) : ParD := ⟨((2 ^ (pI a + 3) : Nat) : Int), tPar a, v, qPar a b, ((1 + b / 16 % 16 : Nat) : Int)⟩
theorem parM_ok (a b : Nat) (v : Value) : parP (parM a b v) := par_made a b _ v (by omega) (by omega)

theorem Tryz_ent7 : Ent Tryz.prog 7 := ent_of Tryz.func7 (by kernel_rfl) rfl
set_option maxHeartbeats 1000000 in
theorem params_spec (a b : Nat) (h : Hp) (ha : a < 256) (hb : b < 256) :
    CallsH Tryz.prog 7 [Y a, Y b] h fun v' h' => Ext h h' ∧ ∃ vq, v' = .agg (parM a b vq).cells.toArray ∧ ParAt h' (parM a b vq) ∧ OwnF h' h.size 26 U vq (qPar a b) := by
  have hi : a % 3 < 3 := Nat.mod_lt _ (by decide)
  have hj : a / 3 % 4 < 4 := Nat.mod_lt _ (by decide)
  have hc : b % 4 < 4 := Nat.mod_lt _ (by decide)
  have hk : b / 4 % 4 < 4 := Nat.mod_lt _ (by decide)
  have hp : 2 ^ (a % 3) ≤ 4 := Nat.pow_le_pow_right (n := 2) (j := 2) (by decide) (by omega)
  have hp0 : 0 < 2 ^ (a % 3) := Nat.pow_pos (by decide)
  have e16 : 2 * (8 * 2 ^ (a % 3)) = 2 ^ (a % 3 + 4) := by rw [Nat.pow_add]; omega
  obtain ⟨bt, hbt⟩ := get_lt (l := bT) (j := a / 3 % 4) hj
  obtain ⟨bq, hbq⟩ := get_lt (l := bQ) (j := b / 4 % 4) hk
  have hbtg : bT.getD (a / 3 % 4) 0 = bt := getD_of hbt
  have hbqg : bQ.getD (b / 4 % 4) 0 = bq := getD_of hbq
  have hbtm : 7 ≤ bt ∧ bt ≤ 16 := (by decide : ∀ x ∈ bT, 7 ≤ x ∧ x ≤ 16) bt (List.mem_of_getElem? hbt)
  have hbqm : 25 ≤ bq ∧ bq ≤ 49 := (by decide : ∀ x ∈ bQ, 25 ≤ x ∧ x ≤ 49) bq (List.mem_of_getElem? hbq)
  have CT := chkT_all _ hi _ hj
  have CQ := chkQ_all hi hk hc
  have ec : b % 4 + 2 = 2 + b % 4 := Nat.add_comm _ _
  rw [ec] at CQ
  unfold chkT9 at CT
  unfold chkQ9 at CQ
  rw [hbtg] at CT
  rw [hbqg] at CQ
  have hst : ∀ bb m, bb ≤ 61 → startC bb m < 18446744073709551616 := fun bb m hbb => by
    unfold startC
    have h1 : 2 ^ (bb - 1) ≤ 2 ^ 60 := Nat.pow_le_pow_right (by decide) (by omega)
    have h2 : (2 * 2 ^ (bb - 1) - 2) / 2 ^ m * 2 ^ m ≤ 2 * 2 ^ (bb - 1) - 2 := Nat.div_mul_le_self _ _
    have h60 : (2 : Nat) ^ 60 = 1152921504606846976 := by decide
    omega
  rw [← srch_fast _ _ _ (hst _ _ (by omega))] at CT CQ
  have CT := eq_of_beq CT
  have CQ := eq_of_beq CQ
  have ST := fun h => refSearch_spec bt (a % 3 + 4) 1 200 _ h (by omega) (by omega) (by omega) (by omega) (by omega) (by omega) CT
  have SQ := fun h => refSearch_spec bq (a % 3 + 4) (2 + b % 4) 200 _ h (by omega) (by omega) (by omega) (by omega) (by omega) (by omega) CQ
  clear CT CQ
  have hq3 : ([7, 9, 12, 16] : List Int)[a / 3 % 4]? = some (bt : Int) := by
    have := congrArg (Option.map Int.ofNat) hbt
    rw [← List.getElem?_map] at this
    exact this
  have hq4 : ([25, 30, 36, 49] : List Int)[b / 4 % 4]? = some (bq : Int) := by
    have := congrArg (Option.map Int.ofNat) hbq
    rw [← List.getElem?_map] at this
    exact this
  have e8 : 8 * 2 ^ (a % 3) = 2 ^ (pI a + 3) := by unfold pI; rw [Nat.pow_add]; omega
  (apply enter Tryz.func7 rfl Tryz.ntmps7 rfl)
  refine runJ ?_
  (apply s_alloc; exact rfl; exact rfl; exact rfl)
  intro p4 h1 x1 e1 b1
  (try dsimp only [Value.cells, List.toList_toArray] at x1)
  refine ⟨(by first | exact trivial | exact Ext.refl _ | assumption | exact Ext.trans (by assumption) (by assumption)), ?_⟩
  refine runJ ?_
  apply s_remU8 (isK_t rfl) isK_c rfl (by decide)
  refine runJ ?_
  rw [e16]
  generalize hM : 2 ^ (a % 3 + 4) = M at *
  refine runJ ?_
  (apply (s_litF (f := I) [7, 9, 12, 16] (fun _ => rfl)); exact rfl; exact rfl; exact rfl; exact rfl; exact rfl; exact rfl; exact rfl; exact rfl; omega)
  intro w2 h2 o2 e2 b2
  refine ⟨(by first | exact trivial | exact Ext.refl _ | assumption | exact Ext.trans (by assumption) (by assumption)), ?_⟩
  have s2 := o2.sl
  refine runJ ?_
  apply s_quoU8 (isK_t rfl) isK_c rfl (by omega)
  refine runJ ?_
  apply s_remU8 (isK_t rfl) isK_c rfl (by decide)
  refine runJ ?_
  apply (s_call Tryz_ent32 rfl rfl rfl)
  refine (ST h2).mono ?_
  rintro r3 h3 ⟨e3, R3⟩
  refine ⟨(by first | exact trivial | exact trivial), ?_⟩
  have x3 := (x1.ext e2).ext e3
  have E3 := (e1.trans e2).trans e3
  have hT : ∃ w c l, r3 = .tuple #[w, N c] ∧ SlF h3 U w l ∧ (l = [] ∧ tPar a = 193 ∨ l = [tPar a]) := by
    unfold tRes at R3
    by_cases hz : a % 3 = 2 ∧ a / 3 % 4 = 0
    · rw [if_pos hz] at R3
      obtain ⟨e, q1⟩ := R3
      exact ⟨_, e, [], q1, (OwnF.nil h3 0 26 U).sl, .inl ⟨rfl, by unfold tPar pI pJ; rw [hz.1, hz.2]; rfl⟩⟩
    · rw [if_neg hz] at R3
      obtain ⟨w, q1, q2⟩ := R3
      exact ⟨w, 0, [tPar a], q1, q2.sl, .inr rfl⟩
  obtain ⟨wt, ct, lt_, rfl, s3, hlt⟩ := hT
  have hpar : qPar a b = (qOf (a % 3) (b / 4 % 4)).take (2 + b % 4) := rfl
  rw [← hpar] at SQ
  obtain ⟨hql, hqf, hqn, -⟩ := qPar_facts a b
  have htf := (tPar_facts a).1
  refine runJ ?_
  apply (w_tcut (σ := Value) (fun w => [(1, Y b), (4, p4), (5, N (8 * 2 ^ (a % 3))), (6, U M), (7, w)]) (fun w h' => Ext h1 h' ∧ SlF h' U w [tPar a]))
  · (apply w_condD; exact rfl; exact rfl) <;> intro hl0
    · have h193 : tPar a = 193 := by
        rcases hlt with ⟨-, h⟩ | h
        · exact h
        · rw [h] at hl0; cases hl0
      refine runJ ?_
      (apply (s_litF (f := U) [193] (fun _ => rfl)); exact rfl; exact rfl; exact rfl; exact rfl; exact rfl; exact rfl; exact rfl; exact rfl; omega)
      intro w4 h4 o4 e4 b4
      refine ⟨(by first | exact trivial | exact Ext.refl _ | assumption | exact Ext.trans (by assumption) (by assumption)), ?_⟩
      rw [← h193] at o4
      refine runJ ?_
      apply cut_normal w4
      · exact (Sub.cons rfl (Sub.cons rfl (Sub.cons rfl (Sub.cons rfl (Sub.cons rfl (Sub.nil _))))))
      · exact ⟨(e2.trans e3).trans e4, o4.sl⟩
    · obtain rfl : lt_ = [tPar a] := by
        rcases hlt with ⟨h, -⟩ | h
        · rw [h] at hl0; exact absurd rfl hl0
        · exact h
      refine runJ ?_
      apply cut_normal wt
      · exact (Sub.cons rfl (Sub.cons rfl (Sub.cons rfl (Sub.cons rfl (Sub.cons rfl (Sub.nil _))))))
      · exact ⟨e2.trans e3, s3⟩
  clear x3 s3 hlt
  rintro w h4 ⟨e4, s4⟩
  have hw0 : [tPar a][0]? = some (tPar a) := rfl
  have hw1 : 0 < [tPar a].length := Nat.zero_lt_one
  refine runJ ?_
  apply s_remU8 (isK_t rfl) isK_c rfl (by decide)
  refine runJ ?_
  (apply (s_litF (f := I) [25, 30, 36, 49] (fun _ => rfl)); exact rfl; exact rfl; exact rfl; exact rfl; exact rfl; exact rfl; exact rfl; exact rfl; omega)
  intro w5 h5 o5 e5 b5
  refine ⟨(by first | exact trivial | exact Ext.refl _ | assumption | exact Ext.trans (by assumption) (by assumption)), ?_⟩
  have s5 := o5.sl
  refine runJ ?_
  apply s_quoU8 (isK_t rfl) isK_c rfl (by omega)
  refine runJ ?_
  apply s_remU8 (isK_t rfl) isK_c rfl (by decide)
  refine runJ ?_
  apply (s_call Tryz_ent32 rfl rfl rfl)
  refine (SQ h5).mono ?_
  rintro _ h6 ⟨e6, vq, rfl, o6⟩
  refine ⟨(by first | exact trivial | exact trivial), ?_⟩
  have E46 := (e4.trans e5).trans e6
  have x6 := x1.ext E46
  have s6 := (s4.ext e5).ext e6
  have s6q := o6.sl
  refine runJ ?_
  apply s_quoU8 (isK_t rfl) isK_c rfl (by omega)
  have hb16 : b / 16 < 16 := by omega
  refine runJ ?_
  generalize hn8 : 8 * 2 ^ (a % 3) = n8 at *
  generalize hwd : 1 + b / 16 % 16 = wd
  (apply (s_build ([N n8, U (tPar a), vq, N wd])); exact rfl; exact rfl; exact rfl; (repeat (first | exact CellsAll.nil | (apply CellsAll.cons; (first | exact oneL (by assumption) | exact oneL (SlF.one (by assumption)) | exact oneL (SlF.one (OwnF.sl (by assumption))) | exact oneL (Var.one (by assumption)) | exact rfl)))); exact rfl; exact rfl)
  refine runJ ?_
  (apply s_storeV; exact rfl; exact rfl; exact rfl; (repeat (first | exact OneAll.nil | (apply OneAll.cons; (first | exact rfl | exact SlF.one (by assumption) | exact SlF.one (OwnF.sl (by assumption)) | exact Var.one (by assumption))))); exact rfl; exact rfl; exact x6; exact rfl)
  intro h7 x7 k7
  (try dsimp only [Value.cells, List.toList_toArray] at x7)
  refine ⟨(by first | exact trivial | exact Ext.refl _ | assumption | exact Ext.only (by assumption) _ | exact Only.trans (Ext.only (by assumption) _) (by assumption)), ?_⟩
  have e7 : Ext h h7 := k7.oldV (e1.trans E46) b1 (Nat.le_refl _)
  rw [b1] at k7
  have hnq : vq.ownBlock = none ∨ vq.ownBlock ≠ some h.size := by
    cases hv : vq.ownBlock with
    | none => exact .inl rfl
    | some j =>
      refine .inr fun e => ?_
      cases e
      have h1 := (o6.blk _ hv).1
      have h2 := e1.1
      obtain ⟨k3, hk3, h3⟩ := x1.blk
      rw [b1] at hk3
      cases hk3
      have h4' := (e4.trans e5).1
      omega
  have o7 := o6.only k7 hnq
  have hcell : [N n8, U (tPar a), vq, N wd] = (parM a b vq).cells := by rw [e8, ← hwd]; rfl
  rw [hcell] at x7
  refine runJ ?_
  refine finC rfl rfl x7 rfl rfl ⟨e7, vq, rfl, ⟨o7.sl, fun q hq => by have := (hqf q hq).2.1; omega, by show tPar a < _; omega, by show (qPar a b).length ≤ _; rw [hql]; unfold pC; omega⟩, o7.base (Nat.le_trans e1.1 (e4.trans e5).1)⟩
end Go.Proofs.YtfcmdefigldpnaaGreatDoor


namespace Go.Proofs.YtfcmdefigldpnaaGreatDoor
set_option linter.unusedVariables false
set_option maxRecDepth 8000
open Go Go.Den Go.RowKit Go.Dig

theorem Tryz_ent87 : Ent Tryz.prog 87 := ent_of Tryz.func87 (by kernel_rfl) rfl
theorem refRow_spec (n : Int) (h : Hp) : CallsH Tryz.prog 87 [I n] h fun v' h' => v' = N (rowF n) ∧ h = h' := by
  (apply enter Tryz.func87 rfl Tryz.ntmps87 rfl)
  refine runJ ?_
  (apply w_condD; exact rfl; exact rfl) <;> intro h1
  · refine runJ ?_
    (apply w_condT; exact rfl; exact rfl; exact h1)
    refine runJ ?_
    exact fin1 rfl rfl ⟨by unfold rowF; rw [if_pos (show rowP n by unfold rowP; omega)], rfl⟩
  refine runJ ?_
  (apply w_condD; exact rfl; exact rfl) <;> intro h2
  · refine runJ ?_
    (apply w_condT; exact rfl; exact rfl; exact h2)
    refine runJ ?_
    exact fin1 rfl rfl ⟨by unfold rowF; rw [if_pos (show rowP n by unfold rowP; omega)], rfl⟩
  refine runJ ?_
  (apply w_condD; exact rfl; exact rfl) <;> intro h3
  · refine runJ ?_
    (apply w_condT; exact rfl; exact rfl; exact h3)
    refine runJ ?_
    exact fin1 rfl rfl ⟨by unfold rowF; rw [if_pos (show rowP n by unfold rowP; omega)], rfl⟩
  refine runJ ?_
  (apply w_condD; exact rfl; exact rfl) <;> intro h4
  · refine runJ ?_
    (apply w_condT; exact rfl; exact rfl; exact h4)
    refine runJ ?_
    exact fin1 rfl rfl ⟨by unfold rowF; rw [if_pos (show rowP n by unfold rowP; omega)], rfl⟩
  refine runJ ?_
  (apply w_condD; exact rfl; exact rfl) <;> intro h5
  · refine runJ ?_
    (apply w_condT; exact rfl; exact rfl; exact h5)
    refine runJ ?_
    exact fin1 rfl rfl ⟨by unfold rowF; rw [if_pos (show rowP n by unfold rowP; omega)], rfl⟩
  refine runJ ?_
  (apply w_condD; exact rfl; exact rfl) <;> intro h6
  · refine runJ ?_
    exact fin1 rfl rfl ⟨by unfold rowF; rw [if_pos (show rowP n by unfold rowP; omega)], rfl⟩
  have hR : ¬ rowP n := by unfold rowP; omega
  refine runJ ?_
  (apply w_condD; exact rfl; exact rfl) <;> intro h7
  · refine runJ ?_
    exact fin1 rfl rfl ⟨by unfold rowF; rw [if_neg hR, if_pos (by omega)], rfl⟩
  refine runJ ?_
  (apply w_condD; exact rfl; exact rfl) <;> intro h8
  · refine runJ ?_
    exact fin1 rfl rfl ⟨by unfold rowF; rw [if_neg hR, if_neg (by omega), if_pos (by omega)], rfl⟩
  refine runJ ?_
  (apply w_condD; exact rfl; exact rfl) <;> intro h9
  · refine runJ ?_
    exact fin1 rfl rfl ⟨by unfold rowF; rw [if_neg hR, if_neg (by omega), if_neg (by omega), if_pos (by omega)], rfl⟩
  refine runJ ?_
  exact fin1 rfl rfl ⟨by unfold rowF; rw [if_neg hR, if_neg (by omega), if_neg (by omega), if_neg (by omega)], rfl⟩

theorem Tryz_ent89 : Ent Tryz.prog 89 := ent_of Tryz.func89 (by kernel_rfl) rfl
theorem refProduct_spec (v : Value) (row : List Nat) (h : Hp) (s : SlF h U v row) (hal : Al 18446744073709551616 row) (hl : row.length < 1000000) :
    CallsH Tryz.prog 89 [v] h fun v' h' => Ext h h' ∧ OwnF h' h.size 26 U v' (if row = [] then [1] else dg 18446744073709551616 (prodL row)) := by
  (apply enter Tryz.func89 rfl Tryz.ntmps89 rfl)
  refine runJ ?_
  (apply (s_litF (f := U) [1] (fun _ => rfl)); exact rfl; exact rfl; exact rfl; exact rfl; exact rfl; exact rfl; exact rfl; exact rfl; omega)
  intro w h1 o1 e1 b1
  refine ⟨(by first | exact trivial | exact Ext.refl _ | assumption | exact Ext.trans (by assumption) (by assumption)), ?_⟩
  have s1 := s.ext e1
  refine runJ ?_
  (first | (apply w_seqB; exact rfl; apply w_block; exact rfl) | skip)
  apply (w_loop (σ := Nat × Value) rfl (fun j => [(3, j.2), (7, v), (8, N row.length), (9, N j.1)])
    (fun j h' => Ext h h' ∧ OwnF h' h.size 26 U j.2 (if j.1 = 0 then [1] else dg 18446744073709551616 (prodL (row.take j.1))) ∧ j.1 ≤ row.length) (fun j => row.length - j.1) (0, w))
  · exact (Sub.cons rfl (Sub.cons rfl (Sub.cons rfl (Sub.cons rfl (Sub.nil _)))))
  · exact ⟨e1, o1, Nat.zero_le _⟩
  rintro ⟨j, u⟩ h3 ⟨e3, o3, j1⟩
  dsimp only at e3 o3 j1 ⊢
  have s3 := s.ext e3
  refine runJ ?_
  (apply w_condD; exact rfl; exact rfl) <;> intro hj
  · obtain ⟨q, hq⟩ := get_lt hj
    have hq64 := hal q (List.mem_of_getElem? hq)
    have hv : vl 18446744073709551616 (if j = 0 then [1] else dg 18446744073709551616 (prodL (row.take j))) = prodL (row.take j) := by
      split
      · rename_i h0; subst h0; rfl
      · rw [vl_dg (by decide)]
    have ha : Al 18446744073709551616 (if j = 0 then [1] else dg 18446744073709551616 (prodL (row.take j))) := by
      split
      · intro x hx; simp at hx; omega
      · exact al_dg (by decide) _
    have hln : (if j = 0 then [1] else dg 18446744073709551616 (prodL (row.take j))).length < 68719476736 := by
      split
      · decide
      · have := dg_len (b := 18446744073709551616) (by decide) (prodL_lt (fun x hx => hal x (List.mem_of_mem_take hx) : Al 18446744073709551616 (row.take j)))
        have h2 : (row.take j).length ≤ row.length := by simp; omega
        omega
    refine runJ ?_
    (apply (s_litF (f := U) [q] (fun _ => rfl)); exact rfl; exact rfl; exact rfl; exact rfl; exact rfl; exact rfl; exact rfl; exact rfl; omega)
    intro w2 h4 o4 e4 b4
    refine ⟨(by first | exact trivial | exact Ext.refl _ | assumption | exact Ext.trans (by assumption) (by assumption)), ?_⟩
    have hqa : Al 18446744073709551616 [q] := fun x hx => by simp only [List.mem_singleton] at hx; subst hx; exact hq64
    refine runJ ?_
    apply (s_call Tryz_ent141 rfl rfl rfl)
    refine (rmul_spec u w2 _ [q] h4 (o3.sl.ext e4) o4.sl ha hqa hln (by simp)).mono ?_
    rintro u' h5 ⟨e5, o5⟩
    refine ⟨(by first | exact trivial | exact trivial), ?_⟩
    have e35 := (e3.trans e4).trans e5
    rw [hv] at o5
    have hq1 : vl 18446744073709551616 [q] = q := by simp [vl]
    rw [hq1, ← prodL_snoc, ← take_snoc hq] at o5
    refine runJ ?_
    apply again_normal (j + 1, u')
    · exact (Sub.cons rfl (Sub.cons rfl (Sub.cons rfl (Sub.cons rfl (Sub.nil _)))))
    · refine ⟨e35, ?_, hj⟩
      rw [if_neg (by omega)]
      exact o5.base (Nat.le_trans e3.1 e4.1)
    · dsimp only; omega
  · have hjl : j = row.length := by omega
    subst hjl
    rw [List.take_of_length_le (Nat.le_refl _)] at o3
    refine runJ ?_
    refine fin1 rfl rfl ⟨e3, ?_⟩
    simpa [List.length_eq_zero_iff] using o3

theorem Tryz_ent39 : Ent Tryz.prog 39 := ent_of Tryz.func39 (by kernel_rfl) rfl
set_option maxHeartbeats 2000000 in
theorem refCheck8_ok (n t w : Nat) (vq : Value) (qs : List Nat) (h : Hp) (sq : SlF h U vq qs) (hr : 0 < rowF (n : Int)) (hw : 1 ≤ w) (hw16 : w ≤ 16) (h0 : 0 < qs.length) (h8 : qs.length ≤ 8) (ht : t < 1073741824) (ht1 : t % (2 * n) = 1) (htR : isR t = true) (hq : ∀ q ∈ qs, q < 1125899906842624 ∧ q % (2 * n) = 1 ∧ q ≠ t ∧ isR q = true) (hnd : qs.Nodup) (hb : nb (prodL qs) ≤ rowF (n : Int)) :
    CallsH Tryz.prog 39 [.agg #[N n, U t, vq, N w]] h fun v' h' => v' = N 0 ∧ Ext h h' := by
  obtain ⟨hn8, hn4⟩ := rowF_pos hr
  have hm : ¬ 2 * n = 0 := by omega
  (apply enter Tryz.func39 rfl Tryz.ntmps39 rfl)
  refine runJ ?_
  (apply s_box; exact rfl; exact rfl; exact rfl; exact rfl)
  intro p1 h1 x1 e1 b1
  (try dsimp only [Value.cells, List.toList_toArray] at x1)
  refine ⟨(by first | exact trivial | exact Ext.refl _ | assumption | exact Ext.trans (by assumption) (by assumption)), ?_⟩
  have s1 := sq.ext e1
  refine runJ ?_
  apply (s_call Tryz_ent87 rfl rfl rfl)
  refine (refRow_spec (n : Int) h1).mono ?_
  rintro _ _ ⟨rfl, rfl⟩
  refine ⟨(by first | exact trivial | exact trivial), ?_⟩
  refine runJ ?_
  (apply s_splitG; exact rfl; exact rfl; exact rfl; exact rfl) <;> intro g1
  · exfalso; omega
  refine runJ ?_
  (apply s_splitG; exact rfl; exact rfl; exact rfl; exact rfl) <;> intro g2
  · exfalso; omega
  refine runJ ?_
  (apply s_splitG; exact rfl; exact rfl; exact rfl; exact rfl) <;> intro g3
  · exfalso; omega
  refine runJ ?_
  (apply s_splitG; exact rfl; exact rfl; exact rfl; exact rfl) <;> intro g4
  · exfalso; omega
  refine runJ ?_
  (apply w_condD; exact rfl; exact rfl) <;> intro g5
  · exfalso; omega
  refine runJ ?_
  (apply s_splitG; exact rfl; exact rfl; exact rfl; exact rfl) <;> intro g6
  · exfalso; omega
  refine runJ ?_
  (apply s_splitG; exact rfl; exact rfl; exact rfl; exact rfl) <;> intro g7
  · exfalso; omega
  refine runJ ?_
  apply (s_call Tryz_ent81 rfl rfl rfl)
  refine (refIs_spec t h1 (by omega)).mono ?_
  rintro _ h2 ⟨rfl, e2⟩
  refine ⟨(by first | exact trivial | exact trivial), ?_⟩
  have E2 := e1.trans e2
  have x2 := x1.ext e2
  have s2 := s1.ext e2
  rw [htR]
  refine runJ ?_
  (first | (apply w_seqB; exact rfl; apply w_block; exact rfl) | skip)
  apply (w_loop (σ := Nat) rfl (fun j => [(1, p1), (3, U (2 * n)), (55, vq), (56, N qs.length), (57, N j)])
    (fun j h' => Ext h2 h' ∧ j ≤ qs.length) (fun j => qs.length - j) 0)
  · exact (Sub.cons rfl (Sub.cons rfl (Sub.cons rfl (Sub.cons rfl (Sub.cons rfl (Sub.nil _))))))
  · exact ⟨Ext.refl _, Nat.zero_le _⟩
  rintro j h3 ⟨e3, j1⟩
  have s3 := s2.ext e3
  have x3 := x2.ext e3
  refine runJ ?_
  (apply w_condD; exact rfl; exact rfl) <;> intro hj
  · obtain ⟨q, hqj⟩ := get_lt hj
    have hqm := List.mem_of_getElem? hqj
    obtain ⟨q1, q2, q3, q4⟩ := hq q hqm
    refine runJ ?_
    (apply s_splitG; exact rfl; exact rfl; exact rfl; exact rfl) <;> intro g1
    · exfalso; omega
    refine runJ ?_
    (apply s_splitG; exact rfl; exact rfl; exact rfl; exact rfl) <;> intro g2
    · exfalso; omega
    refine runJ ?_
    (apply s_splitG; exact rfl; exact rfl; exact rfl; exact rfl) <;> intro g3
    · exact absurd g3 q3
    refine runJ ?_
    apply (s_call Tryz_ent81 rfl rfl rfl)
    refine (refIs_spec q h3 (by omega)).mono ?_
    rintro _ h4 ⟨rfl, e4⟩
    refine ⟨(by first | exact trivial | exact trivial), ?_⟩
    rw [q4]
    have s4 := s3.ext e4
    have x4 := x3.ext e4
    have c1 := s4.cut (lo := 0) (hi := j) (Nat.zero_le _) j1
    rw [List.drop_zero, Nat.sub_zero] at c1
    have hll : (qs.take j).length = j := by rw [List.length_take]; omega
    refine runJ ?_
    (first | (apply w_seqB; exact rfl; apply w_block; exact rfl) | skip)
    apply (w_loop (σ := Nat) rfl (fun k => [(1, p1), (3, U (2 * n)), (5, U q), (55, vq), (56, N qs.length), (57, N j), (84, cutV 1 vq 0 j), (85, N (qs.take j).length), (86, N k)])
      (fun k h' => h4 = h' ∧ k ≤ j) (fun k => j - k) 0)
    · exact (Sub.cons rfl (Sub.cons rfl (Sub.cons rfl (Sub.cons rfl (Sub.cons rfl (Sub.cons rfl (Sub.cons rfl (Sub.cons rfl (Sub.cons rfl (Sub.nil _))))))))))
    · exact ⟨rfl, Nat.zero_le _⟩
    rintro k h' ⟨rfl, k1⟩
    refine runJ ?_
    (apply w_condD; exact rfl; exact rfl) <;> intro hk
    · obtain ⟨c, hc⟩ := get_lt (l := qs.take j) (j := k) (by omega)
      have hcq : ¬ c = q := fun e => by
        rw [e, List.getElem?_take, if_pos (by omega)] at hc
        have h1 := (List.getElem?_eq_some_iff.1 hc)
        have h2 := (List.getElem?_eq_some_iff.1 hqj)
        obtain ⟨h1, h1'⟩ := h1
        obtain ⟨h2, h2'⟩ := h2
        have := (List.getElem_inj hnd).1 (h1'.trans h2'.symm)
        omega
      refine runJ ?_
      (apply w_condF; exact rfl; exact rfl; exact hcq)
      refine runJ ?_
      apply again_normal (k + 1)
      · exact (Sub.cons rfl (Sub.cons rfl (Sub.cons rfl (Sub.cons rfl (Sub.cons rfl (Sub.cons rfl (Sub.cons rfl (Sub.cons rfl (Sub.cons rfl (Sub.nil _))))))))))
      · exact ⟨rfl, by omega⟩
      · omega
    · refine runJ ?_
      apply again_normal (j + 1)
      · exact (Sub.cons rfl (Sub.cons rfl (Sub.cons rfl (Sub.cons rfl (Sub.cons rfl (Sub.nil _))))))
      · exact ⟨e3.trans e4, hj⟩
      · omega
  · refine runJ ?_
    apply (s_call Tryz_ent89 rfl rfl rfl)
    refine (refProduct_spec vq qs h3 s3 (fun q h => by have := (hq q h).1; omega) (by omega)).mono ?_
    rintro vp h4 ⟨e4, o4⟩
    refine ⟨(by first | exact trivial | exact e4), ?_⟩
    rw [if_neg (fun e => by rw [e] at h0; exact absurd h0 (by decide))] at o4
    have hlb : (dg 18446744073709551616 (prodL qs)).length < 68719476736 := by
      have := dg_len (b := 18446744073709551616) (by decide) (prodL_lt (fun x hx => by have := (hq x hx).1; omega : Al 18446744073709551616 qs))
      omega
    have RB := rbits_spec vp _ h4 o4.sl (al_dg (by decide) _) hlb
    rw [vl_dg (by decide)] at RB
    refine runJ ?_
    apply (s_call Tryz_ent88 rfl rfl rfl)
    refine (RB).mono ?_
    rintro _ h5 ⟨rfl, e5⟩
    refine ⟨(by first | exact trivial | exact e4.trans e5), ?_⟩
    refine runJ ?_
    apply (s_call Tryz_ent87 rfl rfl rfl)
    refine (refRow_spec (n : Int) h5).mono ?_
    rintro _ _ ⟨rfl, rfl⟩
    refine ⟨(by first | exact trivial | exact e4.trans e5), ?_⟩
    refine runJ ?_
    (apply w_condF; exact rfl; exact rfl; exact (show ¬ rowF (n : Int) < nb (prodL qs) by omega))
    refine runJ ?_
    exact fin1 rfl rfl ⟨rfl, E2.trans (e3.trans (e4.trans e5))⟩
end Go.Proofs.YtfcmdefigldpnaaGreatDoor


namespace Go.Den
set_option linter.unusedVariables false
set_option maxRecDepth 8000
open Go Go.RowKit

variable {P : Program} {n : Nat} {Q : Post} {l : Fr} {ops : List Oper} {Ch : Hp → Prop} {E : Nat → Bool} {i d : Nat} {h : Hp} {t : TypeId} {x y : Operand}
/-- A part of a struct that lies anywhere is loaded. -/
theorem s_loadCA {p : Value} {off : Nat} {cs : List Value} (ds : List Value) (hx : ev l x = some (ptrOff p off)) (ht : aggTy P t = true) (hs : Rd Ch E i h (fun h' => Cells h' p cs)) (hd : (cs.drop off).take ds.length = ds) (hz : (P.info? t).map (·.size) = some ds.length) (hb : Nat.blt d n = true)
    (k : S P n ops Ch E Q (i + 1) ((d, .agg ds.toArray) :: l) h) : O P n ops Ch E Q i d (.load t x) l h :=
  s_read hb _ hs (fun a w' hf hs => by
    obtain ⟨b, o, rfl, hc⟩ := hs
    have hl := run_loadAgg (P := P) (t := t) (a := (⟨b, o, none⟩ : Addr).add off) (w := w') (ds := ds) ht hz (fun j u hu => by
      rw [Addr.add_lit, Addr.add_lit, cell?_cellH, Nat.add_assoc]
      refine hc _ _ ?_
      rw [← hd, List.getElem?_take] at hu
      split at hu
      · rwa [List.getElem?_drop] at hu
      · cases hu)
    simp only [execOp, hf.ev hx, ptrOff, Instr.loadAt, Instr.sureAddr, Sem.run_bind, Sem.run_pure, Result.andThen_ok, hl]) k
end Go.Den


namespace Go.Proofs.YtfcmdefigldpnaaGreatDoor
set_option linter.unusedVariables false
set_option maxRecDepth 8000
open Go Go.Den Go.RowKit Go.Mth Go.Dig

theorem Tryz_ent12 : Ent Tryz.prog 12 := ent_of Tryz.func12 (by kernel_rfl) rfl
set_option maxHeartbeats 1000000 in
theorem refCheck11_spec (n t w : Nat) (vq vs vk : Value) (qs : List Nat) (ss ks : List Int) (h : Hp) (sq : SlF h U vq qs) (hr : 0 < rowF (n : Int)) (hw : 1 ≤ w) (hw16 : w ≤ 16) (h0 : 0 < qs.length) (h8 : qs.length ≤ 8) (ht : t < 1073741824) (ht1 : t % (2 * n) = 1) (htR : isR t = true) (hq : ∀ q ∈ qs, q < 1125899906842624 ∧ q % (2 * n) = 1 ∧ q ≠ t ∧ isR q = true) (hnd : qs.Nodup) (hb : nb (prodL qs) ≤ rowF (n : Int))
    (s : SlF h I vs ss) (hl : ss.length < 9223372036854775808) (sk : SlF h I vk ks) (hlk : ks.length < 1048576) (hkb : ∀ x ∈ ks, -9223372036854775808 ≤ x ∧ x < 9223372036854775808) :
    CallsH Tryz.prog 12 [.agg #[N n, U t, vq, N w], vs, vk, .bool false] h fun v' h' => v' = N (if SecP (n : Int) ss then (if stepsB ((n / 2 : Nat) : Int) 0 ks = true then 0 else 5) else 3) ∧ Ext h h' := by
  have SR := fun h s => isSecR_spec ⟨(n : Int), t, vq, qs, (w : Int)⟩ vs ss h s hl
  obtain ⟨hn8, hn4⟩ := rowF_pos hr
  (apply enter Tryz.func12 rfl Tryz.ntmps12 rfl)
  refine runJ ?_
  (apply s_box; exact rfl; exact rfl; exact rfl; exact rfl)
  intro p4 h1 x1 e1 b1
  (try dsimp only [Value.cells, List.toList_toArray] at x1)
  refine ⟨(by first | exact trivial | exact Ext.refl _ | assumption | exact Ext.trans (by assumption) (by assumption)), ?_⟩
  refine runJ ?_
  apply (s_call Tryz_ent39 rfl rfl rfl)
  refine (refCheck8_ok n t w vq qs h1 (sq.ext e1) hr hw hw16 h0 h8 ht ht1 htR hq hnd hb).mono ?_
  rintro _ h2 ⟨rfl, e2⟩
  refine ⟨(by first | exact trivial | exact trivial), ?_⟩
  have E2 := e1.trans e2
  have x12 := x1.ext e2
  refine runJ ?_
  apply (s_call Tryz_ent25 rfl rfl rfl)
  refine (SR h2 (s.ext E2)).mono ?_
  rintro _ h3 ⟨rfl, e3⟩
  refine ⟨(by first | exact trivial | exact trivial), ?_⟩
  have E3 := E2.trans e3
  have x13 := x12.ext e3
  have sk3 := sk.ext E3
  dsimp only
  obtain ⟨bS, hbS⟩ : ∃ b : Bool, decide (SecP (n : Int) ss) = b := ⟨_, rfl⟩
  rw [hbS]
  refine runJ ?_
  cases bS with
  | false =>
    rw [if_neg (of_decide_eq_false hbS)]
    refine runJ ?_
    exact fin1 rfl rfl ⟨rfl, E3⟩
  | true =>
    rw [if_pos (of_decide_eq_true hbS)]
    refine runJ ?_
    (first | (apply w_seqB; exact rfl; apply w_block; exact rfl) | skip)
    apply (w_loop (σ := Nat × Int) rfl (fun s => [(3, .bool false), (4, p4), (10, I s.2), (22, vk), (23, N ks.length), (24, N s.1)])
      (fun s h' => h3 = h' ∧ s.1 ≤ ks.length ∧ stepsB ((n / 2 : Nat) : Int) 0 ks = stepsB ((n / 2 : Nat) : Int) s.2 (ks.drop s.1)) (fun s => ks.length - s.1) (0, 0))
    · exact (Sub.cons rfl (Sub.cons rfl (Sub.cons rfl (Sub.cons rfl (Sub.cons rfl (Sub.cons rfl (Sub.nil _)))))))
    · exact ⟨rfl, Nat.zero_le _, by simp⟩
    rintro ⟨i, a⟩ h' ⟨rfl, i1, i2⟩
    dsimp only at i1 i2 ⊢
    refine runJ ?_
    (apply w_condD; exact rfl; exact rfl) <;> intro hj
    · obtain ⟨x, hx⟩ := get_lt hj
      have hxb := hkb x (List.mem_of_getElem? hx)
      have hdr : ks.drop i = x :: ks.drop (i + 1) := by
        have := List.getElem?_eq_some_iff.1 hx
        obtain ⟨h1, h2⟩ := this
        rw [List.drop_eq_getElem_cons h1, h2]
      refine runJ ?_
      (apply s_splitG; exact rfl; exact rfl; exact rfl; exact rfl) <;> intro g1
      · refine runJ ?_
        rw [i2, hdr, stepsB, if_pos (Or.inl (by omega)), if_neg (by simp)]
        exact fin1 rfl rfl ⟨rfl, E3⟩
      refine runJ ?_
      (apply w_condD; exact rfl; exact rfl) <;> intro g2
      · refine runJ ?_
        rw [i2, hdr, stepsB, if_pos (Or.inr (by omega)), if_neg (by simp)]
        exact fin1 rfl rfl ⟨rfl, E3⟩
      · refine runJ ?_
        apply again_normal (i + 1, x)
        · exact (Sub.cons rfl (Sub.cons rfl (Sub.cons rfl (Sub.cons rfl (Sub.cons rfl (Sub.cons rfl (Sub.nil _)))))))
        · refine ⟨rfl, hj, ?_⟩
          dsimp only
          rw [i2, hdr, stepsB, if_neg (by omega)]
        · dsimp only; omega
    · have hT : stepsB ((n / 2 : Nat) : Int) 0 ks = true := by
        rw [i2, show i = ks.length by omega, List.drop_length]; rfl
      rw [hT]
      refine runJ ?_
      exact fin1 rfl rfl ⟨rfl, E3⟩

theorem sla_of_slf {α : Type} {h : Hp} {v : Value} {xs : List (Value × α)} (s : SlF h Prod.fst v xs) : SlA h (fun x : Value × α => [x.1]) 1 v xs := by
  refine ⟨fun _ => rfl, ?_⟩
  have e : ∀ xs : List (Value × α), xs.flatMap (fun x => [x.1]) = xs.map Prod.fst := fun xs => by
    induction xs with
    | nil => rfl
    | cons x xs ih => rw [List.flatMap_cons, ih]; rfl
  rw [e]
  exact s
theorem Tryz_ent43 : Ent Tryz.prog 43 := ent_of Tryz.func43 (by kernel_rfl) rfl
set_option maxHeartbeats 1000000 in
theorem sameSw_spec (vB vA vB' vA' : Value) (pB pA pB' pA' : List (Value × List (Value × List Nat))) (B1 B2 B3 B4 : Nat) (h : Hp) (SB : SwAt h B1 vB pB) (SA : SwAt h B2 vA pA) (SB' : SwAt h B3 vB' pB') (SA' : SwAt h B4 vA' pA') (eB : polysL pB = polysL pB') (eA : polysL pA = polysL pA') (lB : ∀ p ∈ polysL pB, p.length < 1000 ∧ ∀ l ∈ p, l.length < 1000000) (lA : ∀ p ∈ polysL pA, p.length < 1000 ∧ ∀ l ∈ p, l.length < 1000000) (hlB : pB.length < 1000000) (hlA : pA.length < 1000000) :
    CallsH Tryz.prog 43 [.agg #[vB, vA], .agg #[vB', vA']] h fun v' h' => v' = .bool true ∧ Ext h h' := by
  have lenB : pB.length = pB'.length := by have := congrArg List.length eB; unfold polysL at this; simpa using this
  have lenA : pA.length = pA'.length := by have := congrArg List.length eA; unfold polysL at this; simpa using this
  have key : ∀ (p p' : List (Value × List (Value × List Nat))), polysL p = polysL p' → (∀ x ∈ polysL p, x.length < 1000 ∧ ∀ l ∈ x, l.length < 1000000) → ∀ (v v' : Value) (B B' : Nat) (h : Hp) (i : Nat) (x y : Value × List (Value × List Nat)), SwAt h B v p → SwAt h B' v' p' → p[i]? = some x → p'[i]? = some y → CallsH Tryz.prog 67 [.agg #[x.1], .agg #[y.1]] h fun v' h' => v' = .bool true ∧ Ext h h' := by
    intro p p' e l v v' B B' h i x y s s' hx hy
    obtain ⟨p1, r1⟩ := s.el x (List.mem_of_getElem? hx)
    obtain ⟨p2, r2⟩ := s'.el y (List.mem_of_getElem? hy)
    have he := congrArg (fun l => l[i]?) e
    unfold polysL at he
    simp only [List.getElem?_map, hx, hy, Option.map_some, Option.some.injEq] at he
    have hl := l (x.2.map (·.2)) (by unfold polysL; exact List.mem_map.2 ⟨x, List.mem_of_getElem? hx, rfl⟩)
    refine same5_spec x.1 y.1 x.2 y.2 h r1.pol r2.pol (by have := congrArg List.length he; simpa using this) (fun j a b ha hb => ?_) (by simpa using hl.1) (fun a ha => hl.2 _ (List.mem_map.2 ⟨a, ha, rfl⟩))
    have := congrArg (fun l => l[j]?) he
    simpa only [List.getElem?_map, ha, hb, Option.map_some, Option.some.injEq] using this
  (apply enter Tryz.func43 rfl Tryz.ntmps43 rfl)
  refine runJ ?_
  (apply s_box; exact rfl; exact rfl; exact rfl; exact rfl)
  intro p2 h1 x1 e1 b1
  (try dsimp only [Value.cells, List.toList_toArray] at x1)
  refine ⟨(by first | exact trivial | exact Ext.refl _ | assumption | exact Ext.trans (by assumption) (by assumption)), ?_⟩
  have x1 : Var h1 p2 42 [vB, vA] := x1
  refine runJ ?_
  (apply s_box; exact rfl; exact rfl; exact rfl; exact rfl)
  intro p3 h2 x2 e2 b2
  (try dsimp only [Value.cells, List.toList_toArray] at x2)
  refine ⟨(by first | exact trivial | exact Ext.refl _ | assumption | exact Ext.trans (by assumption) (by assumption)), ?_⟩
  have x2 : Var h2 p3 42 [vB', vA'] := x2
  have E2 := e1.trans e2
  have x12 := x1.ext e2
  have SB2 := SB.ext E2
  have SA2 := SA.ext E2
  have SB2' := SB'.ext E2
  have SA2' := SA'.ext E2
  have lA2 := sla_of_slf SA2.own.sl
  have lB2 := sla_of_slf SB2.own.sl
  have lA2' := sla_of_slf SA2'.own.sl
  have lB2' := sla_of_slf SB2'.own.sl
  refine runJ ?_
  (apply s_splitG; exact rfl; exact rfl; exact rfl; exact rfl) <;> intro g1
  · exact absurd lenA g1
  refine runJ ?_
  (apply w_condF; exact rfl; exact rfl; exact (fun h : ¬ _ => h lenB))
  refine runJ ?_
  (first | (apply w_seqB; exact rfl; apply w_block; exact rfl) | skip)
  apply (w_loop (σ := Nat) rfl (fun j => [(2, p2), (3, p3), (25, N pA.length), (26, N j)])
    (fun j h' => Ext h2 h' ∧ j ≤ pA.length) (fun j => pA.length - j) 0)
  · exact (Sub.cons rfl (Sub.cons rfl (Sub.cons rfl (Sub.cons rfl (Sub.nil _)))))
  · exact ⟨Ext.refl _, Nat.zero_le _⟩
  rintro j h3 ⟨e3, j1⟩
  have x13 := x12.ext e3
  have x23 := x2.ext e3
  have lA3 := lA2.ext e3
  have lA3' := lA2'.ext e3
  refine runJ ?_
  (apply w_condD; exact rfl; exact rfl) <;> intro hj
  · obtain ⟨x, hx⟩ := get_lt hj
    obtain ⟨y, hy⟩ := get_lt (l := pA') (j := j) (by omega)
    refine runJ ?_
    apply (s_call Tryz_ent67 rfl rfl rfl)
    refine (key pA pA' eA lA vA vA' B2 B4 h3 j x y (SA2.ext e3) (SA2'.ext e3) hx hy).mono ?_
    rintro _ h4 ⟨rfl, e4⟩
    refine ⟨(by first | exact trivial | exact e4), ?_⟩
    refine runJ ?_
    apply again_normal (j + 1)
    · exact (Sub.cons rfl (Sub.cons rfl (Sub.cons rfl (Sub.cons rfl (Sub.nil _)))))
    · exact ⟨e3.trans e4, hj⟩
    · omega
  refine runJ ?_
  (first | (apply w_seqB; exact rfl; apply w_block; exact rfl) | skip)
  have lB3 := lB2.ext e3
  have lB3' := lB2'.ext e3
  apply (w_loop (σ := Nat) rfl (fun j => [(2, p2), (3, p3), (44, N pB.length), (45, N j)])
    (fun j h' => Ext h3 h' ∧ j ≤ pB.length) (fun j => pB.length - j) 0)
  · exact (Sub.cons rfl (Sub.cons rfl (Sub.cons rfl (Sub.cons rfl (Sub.nil _)))))
  · exact ⟨Ext.refl _, Nat.zero_le _⟩
  rintro i h4 ⟨e4, i1⟩
  have x14 := x13.ext e4
  have x24 := x23.ext e4
  have lB4 := lB3.ext e4
  have lB4' := lB3'.ext e4
  refine runJ ?_
  (apply w_condD; exact rfl; exact rfl) <;> intro hj
  · obtain ⟨x, hx⟩ := get_lt hj
    obtain ⟨y, hy⟩ := get_lt (l := pB') (j := i) (by omega)
    refine runJ ?_
    apply (s_call Tryz_ent67 rfl rfl rfl)
    refine (key pB pB' eB lB vB vB' B1 B3 h4 i x y (SB2.ext (e3.trans e4)) (SB2'.ext (e3.trans e4)) hx hy).mono ?_
    rintro _ h5 ⟨rfl, e5⟩
    refine ⟨(by first | exact trivial | exact e5), ?_⟩
    refine runJ ?_
    apply again_normal (i + 1)
    · exact (Sub.cons rfl (Sub.cons rfl (Sub.cons rfl (Sub.cons rfl (Sub.nil _)))))
    · exact ⟨e4.trans e5, hj⟩
    · omega
  refine runJ ?_
  exact fin1 rfl rfl ⟨rfl, E2.trans (e3.trans e4)⟩

theorem Tryz_ent15 : Ent Tryz.prog 15 := ent_of Tryz.func15 (by kernel_rfl) rfl
set_option maxHeartbeats 1000000 in
theorem sameKeys_spec (vB vA vT vB' vA' vT' : Value) (pB pA pB' pA' : List (Value × List (Value × List Nat))) (ts ts' : List TurnV) (B1 B2 B3 B4 B5 B6 : Nat) (h : Hp) (SB : SwAt h B1 vB pB) (SA : SwAt h B2 vA pA) (ST : TurnsAt h B5 vT ts) (SB' : SwAt h B3 vB' pB') (SA' : SwAt h B4 vA' pA') (ST' : TurnsAt h B6 vT' ts') (eB : polysL pB = polysL pB') (eA : polysL pA = polysL pA') (eT : turnsL ts = turnsL ts')
    (lB : ∀ p ∈ polysL pB, p.length < 1000 ∧ ∀ l ∈ p, l.length < 1000000) (lA : ∀ p ∈ polysL pA, p.length < 1000 ∧ ∀ l ∈ p, l.length < 1000000) (hlB : pB.length < 1000000) (hlA : pA.length < 1000000)
    (lT : ∀ t ∈ turnsL ts, (∀ p ∈ t.2.1, p.length < 1000 ∧ ∀ l ∈ p, l.length < 1000000) ∧ (∀ p ∈ t.2.2, p.length < 1000 ∧ ∀ l ∈ p, l.length < 1000000) ∧ t.2.1.length < 1000000 ∧ t.2.2.length < 1000000) (hlT : ts.length < 1000000) :
    CallsH Tryz.prog 15 [.agg #[vB, vA, vT], .agg #[vB', vA', vT']] h fun v' h' => v' = .bool true ∧ Ext h h' := by
  have lenT : ts.length = ts'.length := by have := congrArg List.length eT; unfold turnsL at this; simpa using this
  have key : ∀ (i : Nat) (x y : TurnV), ts[i]? = some x → ts'[i]? = some y → x.1 = y.1 ∧ ∀ g, Ext h g → CallsH Tryz.prog 43 [.agg #[x.2.1.1, x.2.2.1], .agg #[y.2.1.1, y.2.2.1]] g fun v' h' => v' = .bool true ∧ Ext g h' := by
    intro i x y hx hy
    have he := congrArg (fun l => l[i]?) eT
    unfold turnsL at he
    simp only [List.getElem?_map, hx, hy, Option.map_some, Option.some.injEq, Prod.mk.injEq] at he
    obtain ⟨he1, he2, he3⟩ := he
    have sx := ST.el x (List.mem_of_getElem? hx)
    have sy := ST'.el y (List.mem_of_getElem? hy)
    obtain ⟨l1, l2, l3, l4⟩ := lT (x.1, polysL x.2.1.2, polysL x.2.2.2) (by unfold turnsL; exact List.mem_map.2 ⟨x, List.mem_of_getElem? hx, rfl⟩)
    have p1 : x.2.1.2.length < 1000000 := by unfold polysL at l3; simpa using l3
    have p2 : x.2.2.2.length < 1000000 := by unfold polysL at l4; simpa using l4
    exact ⟨he1, fun g e => sameSw_spec _ _ _ _ _ _ _ _ _ _ _ _ g (sx.1.ext e) (sx.2.ext e) (sy.1.ext e) (sy.2.ext e) he2 he3 l1 l2 p1 p2⟩
  (apply enter Tryz.func15 rfl Tryz.ntmps15 rfl)
  refine runJ ?_
  (apply s_box; exact rfl; exact rfl; exact rfl; exact rfl)
  intro p2 h1 x1 e1 b1
  (try dsimp only [Value.cells, List.toList_toArray] at x1)
  refine ⟨(by first | exact trivial | exact Ext.refl _ | assumption | exact Ext.trans (by assumption) (by assumption)), ?_⟩
  have x1 : Var h1 p2 45 [vB, vA, vT] := x1
  refine runJ ?_
  (apply s_box; exact rfl; exact rfl; exact rfl; exact rfl)
  intro p3 h2 x2 e2 b2
  (try dsimp only [Value.cells, List.toList_toArray] at x2)
  refine ⟨(by first | exact trivial | exact Ext.refl _ | assumption | exact Ext.trans (by assumption) (by assumption)), ?_⟩
  have x2 : Var h2 p3 45 [vB', vA', vT'] := x2
  have E2 := e1.trans e2
  have x12 := x1.ext e2
  have lT2 : SlA h2 turnCells 3 vT ts := ⟨fun _ => rfl, (ST.own.sl).ext E2⟩
  have lT2' : SlA h2 turnCells 3 vT' ts' := ⟨fun _ => rfl, (ST'.own.sl).ext E2⟩
  refine runJ ?_
  refine s_loadA [vB, vA] rfl rfl (rd_varP x12) rfl rfl rfl ?_
  refine runJ ?_
  refine s_loadA [vB', vA'] rfl rfl (rd_varP x2) rfl rfl rfl ?_
  refine runJ ?_
  apply (s_call Tryz_ent43 rfl rfl rfl)
  refine (sameSw_spec vB vA vB' vA' pB pA pB' pA' B1 B2 B3 B4 h2 (SB.ext E2) (SA.ext E2) (SB'.ext E2) (SA'.ext E2) eB eA lB lA hlB hlA).mono ?_
  rintro _ h3 ⟨rfl, e3⟩
  refine ⟨(by first | exact trivial | exact trivial), ?_⟩
  have x13 := x12.ext e3
  have x23 := x2.ext e3
  have lT3 := lT2.ext e3
  have lT3' := lT2'.ext e3
  refine runJ ?_
  (apply w_condF; exact rfl; exact rfl; exact (fun h : ¬ _ => h lenT))
  refine runJ ?_
  (first | (apply w_seqB; exact rfl; apply w_block; exact rfl) | skip)
  apply (w_loop (σ := Nat) rfl (fun j => [(2, p2), (3, p3), (23, N ts.length), (24, N j)])
    (fun j h' => Ext h3 h' ∧ j ≤ ts.length) (fun j => ts.length - j) 0)
  · exact (Sub.cons rfl (Sub.cons rfl (Sub.cons rfl (Sub.cons rfl (Sub.nil _)))))
  · exact ⟨Ext.refl _, Nat.zero_le _⟩
  rintro j h4 ⟨e4, j1⟩
  have x14 := x13.ext e4
  have x24 := x23.ext e4
  have lT4 := lT3.ext e4
  have lT4' := lT3'.ext e4
  refine runJ ?_
  (apply w_condD; exact rfl; exact rfl) <;> intro hj
  · obtain ⟨x, hx⟩ := get_lt hj
    obtain ⟨y, hy⟩ := get_lt (l := ts') (j := j) (by omega)
    obtain ⟨hk, K⟩ := key j x y hx hy
    refine runJ ?_
    (apply s_splitG; exact rfl; exact rfl; exact rfl; exact rfl) <;> intro g1
    · exact absurd hk g1
    refine runJ ?_
    refine s_loadCA [x.2.1.1, x.2.2.1] rfl rfl (rd_cellX (lT4.cells hx)) rfl rfl rfl ?_
    refine runJ ?_
    refine s_loadCA [y.2.1.1, y.2.2.1] rfl rfl (rd_cellX (lT4'.cells hy)) rfl rfl rfl ?_
    refine runJ ?_
    apply (s_call Tryz_ent43 rfl rfl rfl)
    refine (K h4 (E2.trans (e3.trans e4))).mono ?_
    rintro _ h5 ⟨rfl, e5⟩
    refine ⟨(by first | exact trivial | exact e5), ?_⟩
    refine runJ ?_
    apply again_normal (j + 1)
    · exact (Sub.cons rfl (Sub.cons rfl (Sub.cons rfl (Sub.cons rfl (Sub.nil _)))))
    · exact ⟨e4.trans e5, hj⟩
    · omega
  refine runJ ?_
  exact fin1 rfl rfl ⟨rfl, E2.trans (e3.trans e4)⟩
end Go.Proofs.YtfcmdefigldpnaaGreatDoor

