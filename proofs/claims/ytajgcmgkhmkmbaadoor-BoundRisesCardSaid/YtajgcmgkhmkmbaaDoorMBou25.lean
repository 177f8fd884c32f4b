/- Texts BouG to BouG of this work, joined: each says in its own head what it proves, and of which condition. -/
import Derived.Test.YtajgcmgkhmkmbaaDoorMBou24
/- Package bound: products. Condition of what tests primes: the table of math/bits reads as it is laid. -/
namespace Go.Proofs.YtajgcmgkhmkmbaaDoor
set_option linter.unusedVariables false
set_option maxRecDepth 8000
open Go Go.Den Go.RowKit Go.Dig

theorem mul_pow {B x y a b : Nat} (hx : x < B ^ a) (hy : y < B ^ b) : x * y < B ^ (a + b) := by
  rw [Nat.pow_add]
  exact Nat.mul_lt_mul'' hx hy
theorem len_of {n k : Nat} (h : n < 18446744073709551616 ^ k) (hk : k ≤ 5000) : (dg 18446744073709551616 n).length < 10000 := by
  have := dg_len (b := 18446744073709551616) (n := n) (k := k) (by decide) h
  omega
theorem ceil_le {x y : Nat} (hy : 0 < y) : (x + y - 1) / y ≤ x := by
  rcases Nat.eq_zero_or_pos x with h0 | h0
  · rw [h0, Nat.div_eq_of_lt (by omega)]; exact Nat.le_refl _
  · refine Nat.le_of_lt_succ ((Nat.div_lt_iff_lt_mul hy).2 ?_)
    have := Nat.le_mul_of_pos_right x hy
    rw [Nat.succ_mul]; omega

theorem prodL_pos {row : List Nat} (h : ∀ q ∈ row, 1 ≤ q) : 0 < prodL row := by
  have key : ∀ (row : List Nat) (n : Nat), 0 < n → (∀ q ∈ row, 1 ≤ q) → 0 < row.foldl (· * ·) n := by
    intro row
    induction row with
    | nil => intro n hn _; exact hn
    | cons q row ih =>
      intro n hn h
      exact ih (n * q) (Nat.mul_pos hn (h q (by simp))) fun x hx => h x (by simp [hx])
  exact key row 1 (by decide) h

/-- What a product's bound is made of. -/
def mulS1 (n t rr : Nat) : Nat := rr * (n / 2) * t + rr + rr * n * (n / 2 + 1) * t
def mulS2 (n t both : Nat) : Nat := n / 2 * t * both + n * t * (n / 2 + 1) * both
def mulS (p : ParD) (l : Int) (A B : Nat) : Nat :=
  mulS1 p.n.toNat p.t (levM p l % p.t) + mulS2 p.n.toNat p.t (A + B) + (p.n.toNat * p.t * A * B + levM p l - 1) / levM p l + (p.n.toNat * p.n.toNat + p.n.toNat + 2) / 2

theorem Tryd_ent29 : Ent Tryd.prog 29 := ent_of Tryd.func29 (by kernel_rfl) rfl
set_option maxHeartbeats 8000000 in
theorem bmul_spec (p : ParD) (l : Int) (va vb : Value) (xs ys : List Nat) (h : Hp) (T : TB h) (A : ParAt h p) (sa : SlF h U va xs) (sb : SlF h U vb ys) (ha : Al 18446744073709551616 xs) (hb : Al 18446744073709551616 ys) (la : xs.length < 1000) (lb : ys.length < 1000) (hlo : -9223372036854775808 ≤ l) (hhi : l < 9223372036854775808) :
    CallsH Tryd.prog 29 [.agg p.cells.toArray, I l, va, vb] h fun v' h' => Ext h h' ∧ ∃ r, v' = .tuple #[r, N (levE p l)] ∧ OwnF h' h.size 31 U r (if levE p l = 0 then dg 18446744073709551616 (mulS p l (vl 18446744073709551616 xs) (vl 18446744073709551616 ys)) else []) ∧ (if levE p l = 0 then dg 18446744073709551616 (mulS p l (vl 18446744073709551616 xs) (vl 18446744073709551616 ys)) else []).length < 10000000 := by
  have F := fun h T A => bat_spec p l h T A hlo hhi
  unfold ParD.cells at F ⊢
  (apply enter Tryd.func29 rfl Tryd.ntmps29 rfl)
  refine runJ ?_
  (apply s_box; exact rfl; exact rfl; exact rfl; exact rfl)
  intro p1 h1 x1 e1 b1
  (try dsimp only [Value.cells, List.toList_toArray] at x1)
  refine ⟨(by first | exact trivial | exact Ext.refl _ | assumption | exact Ext.trans (by assumption) (by assumption)), ?_⟩
  refine runJ ?_
  apply (s_call Tryd_ent57 rfl rfl rfl)
  refine (F h1 (T.ext e1) (A.ext e1)).mono ?_
  rintro _ h2 ⟨e2, g, rfl, hg⟩
  refine ⟨(by first | exact trivial | exact trivial), ?_⟩
  have e12 := e1.trans e2
  have x2 := x1.ext e2
  by_cases hE : levE p l = 0
  · obtain ⟨q, G, sq, nq, gb, hgb, hgl⟩ := hg hE
    clear hg F
    obtain ⟨hp, hl0, hl1⟩ := levE_par hE
    have hn := rowF_pos hp.1.1
    have ht := hp.2.1.1
    have htp := par_t hp
    have hrr : levM p l % p.t < p.t := Nat.mod_lt _ htp
    have hML : 0 < levM p l := prodL_pos fun q hq => (par_q hp (List.mem_of_mem_take hq)).1
    have hMl := levM_len (l := l) hp A.al
    have sa2 := sa.ext e12
    have ea := el_old sa hgb (Nat.le_trans e1.1 hgl)
    have sb2 := sb.ext e12
    have eb := el_old sb hgb (Nat.le_trans e1.1 hgl)
    have nx := x1.ne_new hgb hgl
    have eq0 : El g q (dg 18446744073709551616 (levM p l)).length := .inr nq
    obtain ⟨n, hnn⟩ : ∃ n : Nat, p.n = (n : Int) := ⟨p.n.toNat, by omega⟩
    have hn1 : 8 ≤ n ∧ n ≤ 4096 := by omega
    rw [if_pos hE, hE]
    unfold mulS
    rw [hnn, Int.toNat_natCast]
    rw [hnn] at x2 G
    obtain ⟨z, hz⟩ : ∃ z : Nat, z = 1000 := ⟨_, rfl⟩
    have hA := vl_bound (k := z) ha (by omega)
    have hB := vl_bound (k := z) hb (by omega)
    have AB := nadd_spec va vb xs ys h2 sa2 sb2 ha hb (by omega) (by omega)
    generalize hX : vl 18446744073709551616 xs = X at *
    generalize hY : vl 18446744073709551616 ys = Y at *
    generalize levM p l % p.t = rr at *
    generalize levM p l = M at *
    clear hl0 hl1 hE
    have hAB := two_sum (k := z) (by decide) hA hB (Nat.le_refl _) (Nat.le_refl _)
    have lAB := len_of hAB (by omega)
    -- what is added, step by step
    obtain ⟨S1, hS1⟩ : ∃ S, rr * (n / 2) * p.t = S := ⟨_, rfl⟩
    obtain ⟨S3, hS3⟩ : ∃ S, rr * n * (n / 2 + 1) * p.t = S := ⟨_, rfl⟩
    obtain ⟨S4, hS4⟩ : ∃ S, n / 2 * p.t * (X + Y) = S := ⟨_, rfl⟩
    obtain ⟨S5, hS5⟩ : ∃ S, n * p.t * (n / 2 + 1) * (X + Y) = S := ⟨_, rfl⟩
    obtain ⟨S6, hS6⟩ : ∃ S, n * p.t * X * Y = S := ⟨_, rfl⟩
    obtain ⟨S7, hS7⟩ : ∃ S, (S6 + M - 1) / M = S := ⟨_, rfl⟩
    obtain ⟨S8, hS8⟩ : ∃ S, (n * n + n + 2) / 2 = S := ⟨_, rfl⟩
    have b1' : S1 ≤ 1073741824 * 2048 * 1073741824 := by rw [← hS1]; exact Nat.mul_le_mul (Nat.mul_le_mul (by omega) (by omega)) (by omega)
    have b3' : S3 ≤ 1073741824 * 4096 * 2049 * 1073741824 := by rw [← hS3]; exact Nat.mul_le_mul (Nat.mul_le_mul (Nat.mul_le_mul (by omega) (by omega)) (by omega)) (by omega)
    have hc4 : n / 2 * p.t ≤ 18446744073709551616 := Nat.le_trans (Nat.mul_le_mul (show n / 2 ≤ 2048 by omega) (Nat.le_of_lt ht)) (by decide)
    have hc5 : n * p.t * (n / 2 + 1) ≤ 18446744073709551616 := Nat.le_trans (Nat.mul_le_mul (Nat.mul_le_mul hn1.2 (Nat.le_of_lt ht)) (show n / 2 + 1 ≤ 2049 by omega)) (by decide)
    have hc6 : n * p.t ≤ 18446744073709551616 := Nat.le_trans (Nat.mul_le_mul hn1.2 (Nat.le_of_lt ht)) (by decide)
    have hnm : n * n ≤ 4096 * 4096 := Nat.mul_le_mul hn1.2 hn1.2
    have b8' : S8 ≤ 16777216 := by omega
    have b123 : S1 + rr + S3 < 18446744073709551616 ^ 2 := Nat.lt_of_le_of_lt (show S1 + rr + S3 ≤ 18446744073709551616 * 18446744073709551615 by omega) (by decide)
    have b4' : S4 < 18446744073709551616 ^ (z + 1 + 1) := Nat.lt_of_le_of_lt (Nat.le_of_eq hS4.symm) (mul_bound (B := 18446744073709551616) (x := X + Y) (y := z + 1) (k := z + 1) hAB (Nat.le_refl _) hc4)
    have b5' : S5 < 18446744073709551616 ^ (z + 1 + 1) := Nat.lt_of_le_of_lt (Nat.le_of_eq hS5.symm) (mul_bound (B := 18446744073709551616) (x := X + Y) (y := z + 1) (k := z + 1) hAB (Nat.le_refl _) hc5)
    have b6' : S6 < 18446744073709551616 ^ (z + 1 + z) := Nat.lt_of_le_of_lt (Nat.le_of_eq hS6.symm) (mul_pow (mul_bound (k := z) hA (Nat.le_refl _) hc6) hB)
    have b7' : S7 < 18446744073709551616 ^ (z + 1 + z) := Nat.lt_of_le_of_lt (Nat.le_trans (Nat.le_of_eq hS7.symm) (ceil_le hML)) b6'
    have s4 := two_sum (k := z + 1 + 1) (by decide) b123 b4' (by omega) (Nat.le_refl _)
    have s5 := two_sum (k := z + 1 + 1 + 1) (by decide) s4 b5' (Nat.le_refl _) (by omega)
    have s7 := two_sum (k := z + 1 + z) (by decide) s5 b7' (by omega) (Nat.le_refl _)
    have s8 := two_sum (y := S8) (b := 1) (k := z + 1 + z + 1) (by decide) s7 (Nat.lt_of_le_of_lt b8' (by decide)) (Nat.le_refl _) (by omega)
    have l1 : (dg 18446744073709551616 S1).length < 10000 := len_of (k := 2) (Nat.lt_of_le_of_lt b1' (by decide)) (by decide)
    have l2 : (dg 18446744073709551616 (S1 + rr)).length < 10000 := len_of (k := 2) (Nat.lt_of_le_of_lt (Nat.le_add_right _ S3) b123) (by decide)
    have l3 := len_of b123 (by decide)
    have l4 := len_of s4 (by omega)
    have l5 := len_of s5 (by omega)
    have l6 := len_of b6' (by omega)
    have l7 := len_of s7 (by omega)
    have l7' := len_of b7' (by omega)
    have l8 := len_of s8 (by omega)
    clear hA hB hAB b4' b5' b6' b7' b123 s4 s5 s7 s8
    have hfin : mulS1 n p.t rr + mulS2 n p.t (X + Y) + (n * p.t * X * Y + M - 1) / M + (n * n + n + 2) / 2 = S1 + rr + S3 + S4 + S5 + S7 + S8 := by
      unfold mulS1 mulS2
      rw [hS1, hS3, hS4, hS5, hS6, hS7, hS8]; omega
    rw [hfin]
    have G0 := G
    refine runJ ?_
    apply (s_call Tryd_ent58 rfl rfl rfl)
    refine (AB).mono ?_
    rintro vo h3 ⟨e3, o3⟩
    refine ⟨(by first | exact trivial | exact trivial), ?_⟩
    have e23 : Only (pblk g) h2 h3 := e3.only _
    have G := G.ext e3
    have x3 := x2.ext e3
    have so := o3.sl
    have eo : El g vo (dg 18446744073709551616 (X + Y)).length := .inr (o3.neV hgb (by obtain ⟨j, hj, hlt⟩ := G0.blk; rw [hgb] at hj; cases hj; exact hlt))
    have hal0 := al_dg (b := 18446744073709551616) (by decide) (X + Y)
    have sa3 := sa2.ext e3
    have sb3 := sb2.ext e3
    have sq3 := sq.ext e3
    clear AB
    have PT : ∀ hs h', Only (pblk g) h3 hs → ChP hs g (I n) (U p.t) p.vq (I p.w) q (U rr) h' → ∃ e cs, Var h' p1 e cs ∧ nth cs 1 = some (U p.t) := fun hs h' k hc => ⟨_, _, (x3.only k nx).only hc.only nx, rfl⟩
    have PR : ∀ hs h', ChP hs g (I n) (U p.t) p.vq (I p.w) q (U rr) h' → ∃ e cs, Var h' g e cs ∧ nth cs 5 = some (U rr) := fun hs h' hc => let ⟨vS, hv⟩ := hc.var; ⟨_, _, hv, rfl⟩
    refine runJN ?_
    -- region 7
    refine r_drawnK (ChP h3 g (I n) (U p.t) p.vq (I p.w) q (U rr)) (fun i => Nat.beq i 9 || Nat.beq i 15 || Nat.beq i 25) (Only (pblk g))
      (fun i => match i with | 9 => PhW g [rr, n / 2, p.t] | 15 => PhW g [rr] | _ => PhW g [rr, n, n / 2 + 1, p.t]) rfl mixed (by kernel_rfl) (fun _ _ e => e.only _) ?_ ⟨Only.refl _ _, _, G⟩ ?_
    · intro i v h h' hp k
      split at hp <;> exact PhW.only hp k
    refine k_run (j := 9) h3 rfl rfl (by kernel_rfl) (by kernel_rfl) ?_
    refine runJ ?_
    refine s_loadCell (u := U rr) (off := 5) rfl rfl (rd_cl (PR h3)) rfl ?_
    refine runJ ?_
    refine s_loadCell (u := U p.t) (off := 1) rfl rfl (rd_cl fun h' => PT h3 h' (Only.refl _ _)) rfl ?_
    refine runJ ?_
    refine ⟨⟨rfl, ?_⟩⟩
    refine k_lit (f := U) rfl rfl rfl rfl [rr, n / 2, p.t] rfl rfl rfl rfl rfl rfl (fun u hu => by obtain ⟨y, -, rfl⟩ := List.mem_map.1 (show u ∈ List.map U [rr, n / 2, p.t] from hu); rfl) rfl (by omega) (fun h' v h'' hC _ o e _ => phW_lit hgb hC o e) (fun v9 => ?_)
    refine k_call rfl rfl rfl rfl Tryd_ent59 rfl ?_
    intro h4 hC4 hD4 hT4
    have P4 : PhW g [rr, n / 2, p.t] v9 h4 := hT4 (9, v9) (by simp)
    have WD := pwords_spec g (.slice none 0 0) v9 _ _ _ _ _ _ 0 [rr, n / 2, p.t] h4 (G.ext hD4) (SlF.nil _ _) P4.1 (by intro x hx; simp only [List.mem_cons, List.not_mem_nil, or_false] at hx; rcases hx with rfl | rfl | rfl <;> omega) (by simp) (by decide)
    rw [show prodL [rr, n / 2, p.t] = S1 by rw [← hS1]; simp [prodL], Nat.zero_add] at WD
    refine WD.mono ?_
    rintro g1 h5 ⟨rfl, k5, w5, G5, o5⟩
    refine ⟨⟨hC4.only.trans k5, _, G5⟩, .inl ⟨k5, ?_⟩⟩
    have o5 := o5.sl
    clear WD hT4
    refine k_run (j := 15) h5 rfl rfl (by kernel_rfl) (by kernel_rfl) ?_
    refine runJ ?_
    refine s_loadCell (u := U rr) (off := 5) rfl rfl (rd_cl (PR h3)) rfl ?_
    refine runJ ?_
    refine ⟨⟨rfl, ?_⟩⟩
    refine k_lit (f := U) rfl rfl rfl rfl [rr] rfl rfl rfl rfl rfl rfl (fun u hu => by obtain ⟨y, -, rfl⟩ := List.mem_map.1 (show u ∈ List.map U [rr] from hu); rfl) rfl (by omega) (fun h' v h'' hC _ o e _ => phW_lit hgb hC o e) (fun v15 => ?_)
    refine k_call rfl rfl rfl rfl Tryd_ent59 rfl ?_
    intro h6 hC6 hD6 hT6
    have P6 : PhW g1 [rr] v15 h6 := hT6 (15, v15) (by simp)
    have WD := pwords_spec g1 w5 v15 _ _ _ _ _ _ S1 [rr] h6 (G5.ext hD6) (o5.ext hD6) P6.1 (by intro x hx; simp only [List.mem_singleton] at hx; omega) (by simp) (by omega)
    rw [show prodL [rr] = rr by simp [prodL]] at WD
    refine WD.mono ?_
    rintro g2 h7 ⟨rfl, k7, w7, G7, o7⟩
    refine ⟨⟨hC6.only.trans k7, _, G7⟩, .inl ⟨k7, ?_⟩⟩
    have o7 := o7.sl
    clear WD hT6
    refine k_run (j := 25) h7 rfl rfl (by kernel_rfl) (by kernel_rfl) ?_
    refine runJ ?_
    refine s_loadCell (u := U rr) (off := 5) rfl rfl (rd_cl (PR h3)) rfl ?_
    refine runJ ?_
    refine s_loadCell (u := U p.t) (off := 1) rfl rfl (rd_cl fun h' => PT h3 h' (Only.refl _ _)) rfl ?_
    refine runJ ?_
    refine ⟨⟨rfl, ?_⟩⟩
    refine k_lit (f := U) rfl rfl rfl rfl [rr, n, n / 2 + 1, p.t] rfl rfl rfl rfl rfl rfl (fun u hu => by obtain ⟨y, -, rfl⟩ := List.mem_map.1 (show u ∈ List.map U [rr, n, n / 2 + 1, p.t] from hu); rfl) rfl (by omega) (fun h' v h'' hC _ o e _ => phW_lit hgb hC o e) (fun v25 => ?_)
    refine k_call rfl rfl rfl rfl Tryd_ent59 rfl ?_
    intro h8 hC8 hD8 hT8
    have P8 : PhW g2 [rr, n, n / 2 + 1, p.t] v25 h8 := hT8 (25, v25) (by simp)
    have WD := pwords_spec g2 w7 v25 _ _ _ _ _ _ (S1 + rr) [rr, n, n / 2 + 1, p.t] h8 (G7.ext hD8) (o7.ext hD8) P8.1 (by intro x hx; simp only [List.mem_cons, List.not_mem_nil, or_false] at hx; rcases hx with rfl | rfl | rfl | rfl <;> omega) (by simp) (by omega)
    rw [show prodL [rr, n, n / 2 + 1, p.t] = S3 by rw [← hS3]; simp [prodL]] at WD
    refine WD.mono ?_
    rintro g3 h9 ⟨rfl, k9, w9, G9, o9⟩
    refine ⟨⟨hC8.only.trans k9, _, G9⟩, .inr ⟨by kernel_rfl, ?_⟩⟩
    have o9 := o9.sl
    clear WD hT8
    refine k_done rfl ?_
    intro h10 hC10 hD10 _
    have G10 := G9.ext hD10
    have o10 := o9.ext hD10
    have k10 : Only (pblk g3) h3 h10 := hC10.only
    clear G5 o5 G7 o7 G9 o9 k5 k7 k9 hC4 hC6 hC8 hC10 hD4 hD6 hD8 hD10 P4 P6 P8
    have x10 := x3.only k10 nx
    have so10 := SlF.keep so k10 eo
    refine runJN ?_
    -- region 8
    refine r_drawnK (ChP h10 g3 (I n) (U p.t) p.vq (I p.w) q (U rr)) (fun i => Nat.beq i 3 || Nat.beq i 6 || Nat.beq i 8 || Nat.beq i 11 || Nat.beq i 14 || Nat.beq i 16 || Nat.beq i 18) (Only (pblk g3))
      (fun i => match i with
        | 3 => PhW g3 (dg 18446744073709551616 (n / 2)) | 6 => PhW g3 (dg 18446744073709551616 p.t) | 11 => PhW g3 (dg 18446744073709551616 n) | 14 => PhW g3 (dg 18446744073709551616 p.t) | 16 => PhW g3 (dg 18446744073709551616 (n / 2 + 1))
        | 8 => fun v h => ∃ u1 u2, PhR g3 [(u1, dg 18446744073709551616 (n / 2)), (u2, dg 18446744073709551616 p.t), (vo, dg 18446744073709551616 (X + Y))] v h
        | _ => fun v h => ∃ u1 u2 u3, PhR g3 [(u1, dg 18446744073709551616 n), (u2, dg 18446744073709551616 p.t), (u3, dg 18446744073709551616 (n / 2 + 1)), (vo, dg 18446744073709551616 (X + Y))] v h) rfl mixed (by kernel_rfl) (fun _ _ e => e.only _) ?_ ⟨Only.refl _ _, _, G10⟩ ?_
    · intro i v h h' hp k
      split at hp
      · exact PhW.only hp k
      · exact PhW.only hp k
      · exact PhW.only hp k
      · exact PhW.only hp k
      · exact PhW.only hp k
      · obtain ⟨u1, u2, hp⟩ := hp
        exact ⟨u1, u2, PhR.only hp k⟩
      · obtain ⟨u1, u2, u3, hp⟩ := hp
        exact ⟨u1, u2, u3, PhR.only hp k⟩
    refine k_run (j := 3) h10 rfl rfl (by kernel_rfl) (by kernel_rfl) ?_
    refine runJ ?_
    refine ⟨⟨rfl, ?_⟩⟩
    refine k_fcallX rfl rfl rfl rfl Tryd_ent43 rfl (fun h hC _ => (of_spec (n / 2) h (by omega)).mono fun v h' ⟨e, o⟩ => ⟨e, hC.ext e, o.sl, el_new o hgb (hC.lt hgb)⟩) (fun v3 hxv3 => ?_)
    have onev3 : v3.oneCell' = true := by obtain ⟨_, _, p⟩ := hxv3; exact p.1.one
    clear hxv3
    refine k_run (j := 6) h10 rfl rfl (by kernel_rfl) (by kernel_rfl) ?_
    refine runJ ?_
    refine s_loadCell (u := U p.t) (off := 1) rfl rfl (rd_cl fun h' => PT h10 h' k10) rfl ?_
    refine runJ ?_
    refine ⟨⟨rfl, ?_⟩⟩
    refine k_fcallX rfl rfl rfl rfl Tryd_ent43 rfl (fun h hC _ => (of_spec p.t h (by omega)).mono fun v h' ⟨e, o⟩ => ⟨e, hC.ext e, o.sl, el_new o hgb (hC.lt hgb)⟩) (fun v6 hxv6 => ?_)
    have onev6 : v6.oneCell' = true := by obtain ⟨_, _, p⟩ := hxv6; exact p.1.one
    clear hxv6
    refine k_run (j := 8) h10 rfl rfl (by kernel_rfl) (by kernel_rfl) ?_
    refine runJ ?_
    refine ⟨⟨rfl, ?_⟩⟩
    refine k_lit (f := Prod.fst) rfl rfl rfl rfl [(v3, dg 18446744073709551616 (n / 2)), (v6, dg 18446744073709551616 p.t), (vo, dg 18446744073709551616 (X + Y))] rfl rfl rfl rfl rfl rfl (List.forall_mem_cons.2 ⟨onev3, List.forall_mem_cons.2 ⟨onev6, List.forall_mem_cons.2 ⟨so.one, fun _ h => nomatch h⟩⟩⟩) rfl (by decide) (fun h' v h'' hC hT o e _ => ?_) (fun v8 => ?_)
    · have P3 : PhW g3 (dg 18446744073709551616 (n / 2)) v3 h' := hT (3, v3) (by simp) (by kernel_rfl)
      have P6 : PhW g3 (dg 18446744073709551616 p.t) v6 h' := hT (6, v6) (by simp) (by kernel_rfl)
      have := phR_lit hgb hC o e fun x hx => by
        simp only [List.mem_cons, List.not_mem_nil, or_false] at hx
        rcases hx with rfl | rfl | rfl
        · exact ⟨P3.1, P3.2, al_dg (by decide) _, one_len (by omega)⟩
        · exact ⟨P6.1, P6.2, al_dg (by decide) _, one_len (by omega)⟩
        · exact ⟨hC.row so10 eo, eo, hal0, lAB⟩
      exact ⟨this.1, _, _, this.2⟩
    refine k_call rfl rfl rfl rfl Tryd_ent60 rfl ?_
    intro h11 hC11 hD11 hT11
    obtain ⟨u1, u2, P8⟩ : ∃ u1 u2, PhR g3 [(u1, dg 18446744073709551616 (n / 2)), (u2, dg 18446744073709551616 p.t), (vo, dg 18446744073709551616 (X + Y))] v8 h11 := hT11 (8, v8) (by simp)
    have AD := padd_spec g3 w9 v8 _ _ _ _ _ _ (S1 + rr + S3) _ h11 (G10.ext hD11) (o10.ext hD11) P8.1 (by simp) (by omega)
    rw [show prodR [(u1, dg 18446744073709551616 (n / 2)), (u2, dg 18446744073709551616 p.t), (vo, dg 18446744073709551616 (X + Y))] = S4 by rw [← hS4]; simp [prodR, vl_of]] at AD
    refine AD.mono ?_
    rintro g4 h12 ⟨rfl, k12, w12, G12, o12⟩
    refine ⟨⟨hC11.only.trans k12, _, G12⟩, .inl ⟨k12, ?_⟩⟩
    have o12 := o12.sl
    clear AD hT11 P8
    refine k_run (j := 11) h12 rfl rfl (by kernel_rfl) (by kernel_rfl) ?_
    refine runJ ?_
    refine ⟨⟨rfl, ?_⟩⟩
    refine k_fcallX rfl rfl rfl rfl Tryd_ent43 rfl (fun h hC _ => (of_spec n h (by omega)).mono fun v h' ⟨e, o⟩ => ⟨e, hC.ext e, o.sl, el_new o hgb (hC.lt hgb)⟩) (fun v11 hxv11 => ?_)
    have onev11 : v11.oneCell' = true := by obtain ⟨_, _, p⟩ := hxv11; exact p.1.one
    clear hxv11
    refine k_run (j := 14) h12 rfl rfl (by kernel_rfl) (by kernel_rfl) ?_
    refine runJ ?_
    refine s_loadCell (u := U p.t) (off := 1) rfl rfl (rd_cl fun h' => PT h10 h' k10) rfl ?_
    refine runJ ?_
    refine ⟨⟨rfl, ?_⟩⟩
    refine k_fcallX rfl rfl rfl rfl Tryd_ent43 rfl (fun h hC _ => (of_spec p.t h (by omega)).mono fun v h' ⟨e, o⟩ => ⟨e, hC.ext e, o.sl, el_new o hgb (hC.lt hgb)⟩) (fun v14 hxv14 => ?_)
    have onev14 : v14.oneCell' = true := by obtain ⟨_, _, p⟩ := hxv14; exact p.1.one
    clear hxv14
    refine k_run (j := 16) h12 rfl rfl (by kernel_rfl) (by kernel_rfl) ?_
    refine runJ ?_
    refine ⟨⟨rfl, ?_⟩⟩
    refine k_fcallX rfl rfl rfl rfl Tryd_ent43 rfl (fun h hC _ => (of_spec (n / 2 + 1) h (by omega)).mono fun v h' ⟨e, o⟩ => ⟨e, hC.ext e, o.sl, el_new o hgb (hC.lt hgb)⟩) (fun v16 hxv16 => ?_)
    have onev16 : v16.oneCell' = true := by obtain ⟨_, _, p⟩ := hxv16; exact p.1.one
    clear hxv16
    refine k_run (j := 18) h12 rfl rfl (by kernel_rfl) (by kernel_rfl) ?_
    refine runJ ?_
    refine ⟨⟨rfl, ?_⟩⟩
    refine k_lit (f := Prod.fst) rfl rfl rfl rfl [(v11, dg 18446744073709551616 n), (v14, dg 18446744073709551616 p.t), (v16, dg 18446744073709551616 (n / 2 + 1)), (vo, dg 18446744073709551616 (X + Y))] rfl rfl rfl rfl rfl rfl (List.forall_mem_cons.2 ⟨onev11, List.forall_mem_cons.2 ⟨onev14, List.forall_mem_cons.2 ⟨onev16, List.forall_mem_cons.2 ⟨so.one, fun _ h => nomatch h⟩⟩⟩⟩) rfl (by decide) (fun h' v h'' hC hT o e _ => ?_) (fun v18 => ?_)
    · have P3 : PhW g4 (dg 18446744073709551616 n) v11 h' := hT (11, v11) (by simp) (by kernel_rfl)
      have P6 : PhW g4 (dg 18446744073709551616 p.t) v14 h' := hT (14, v14) (by simp) (by kernel_rfl)
      have P7 : PhW g4 (dg 18446744073709551616 (n / 2 + 1)) v16 h' := hT (16, v16) (by simp) (by kernel_rfl)
      have := phR_lit hgb hC o e fun x hx => by
        simp only [List.mem_cons, List.not_mem_nil, or_false] at hx
        rcases hx with rfl | rfl | rfl | rfl
        · exact ⟨P3.1, P3.2, al_dg (by decide) _, one_len (by omega)⟩
        · exact ⟨P6.1, P6.2, al_dg (by decide) _, one_len (by omega)⟩
        · exact ⟨P7.1, P7.2, al_dg (by decide) _, one_len (by omega)⟩
        · exact ⟨hC.row so10 eo, eo, hal0, lAB⟩
      exact ⟨this.1, _, _, _, this.2⟩
    refine k_call rfl rfl rfl rfl Tryd_ent60 rfl ?_
    intro h13 hC13 hD13 hT13
    obtain ⟨t1, t2, t3, P18⟩ : ∃ u1 u2 u3, PhR g4 [(u1, dg 18446744073709551616 n), (u2, dg 18446744073709551616 p.t), (u3, dg 18446744073709551616 (n / 2 + 1)), (vo, dg 18446744073709551616 (X + Y))] v18 h13 := hT13 (18, v18) (by simp)
    have AD := padd_spec g4 w12 v18 _ _ _ _ _ _ (S1 + rr + S3 + S4) _ h13 (G12.ext hD13) (o12.ext hD13) P18.1 (by simp) (by omega)
    rw [show prodR [(t1, dg 18446744073709551616 n), (t2, dg 18446744073709551616 p.t), (t3, dg 18446744073709551616 (n / 2 + 1)), (vo, dg 18446744073709551616 (X + Y))] = S5 by rw [← hS5]; simp [prodR, vl_of]] at AD
    refine AD.mono ?_
    rintro g5 h14 ⟨rfl, k14, w14, G14, o14⟩
    refine ⟨⟨hC13.only.trans k14, _, G14⟩, .inr ⟨by kernel_rfl, ?_⟩⟩
    have o14 := o14.sl
    clear AD hT13 P18
    refine k_done rfl ?_
    intro h15 hC15 hD15 _
    have G15 := G14.ext hD15
    have o15 := o14.ext hD15
    have k15 : Only (pblk g5) h3 h15 := k10.trans hC15.only
    have x15 := x3.only k15 nx
    have sa15 := SlF.keep sa3 k15 ea
    have sb15 := SlF.keep sb3 k15 eb
    have sq15 := SlF.keep sq3 k15 eq0
    clear G10 o10 G12 o12 G14 o14 k12 k14 hC11 hC13 hC15 hD11 hD13 hD15
    have UP := fun wv qv h s1 s2 => up_spec wv qv (dg 18446744073709551616 S6) (dg 18446744073709551616 M) h s1 s2 (al_dg (by decide) _) (al_dg (by decide) _) (by omega) (by omega) (by rw [vl_of]; exact hML)
    rw [vl_of, vl_of, hS7] at UP
    refine runJN ?_
    -- region 9
    refine r_drawnK (Ext h15) (fun i => Nat.beq i 1 || Nat.beq i 3 || Nat.beq i 6 || Nat.beq i 9) Ext
      (fun i => match i with
        | 1 => fun v h => Var h v 86 [I 0, U 0, .slice none 0 0, I 0, .slice none 0 0, U 0, .slice none 0 0] ∧ ∃ k, pblk v = some k ∧ h15.size ≤ k
        | 3 => fun v h => SlF h U v (dg 18446744073709551616 n)
        | 6 => fun v h => SlF h U v (dg 18446744073709551616 p.t)
        | _ => fun v h => ∃ u1 u2, RowN h v [(u1, dg 18446744073709551616 n), (u2, dg 18446744073709551616 p.t), (va, xs), (vb, ys)]) rfl mixed (by kernel_rfl) (fun _ _ e => e) ?_ (Ext.refl _) ?_
    · intro i v h h' hp k
      split at hp
      · exact ⟨hp.1.ext k, hp.2⟩
      · exact hp.ext k
      · exact hp.ext k
      · obtain ⟨u1, u2, hp⟩ := hp
        exact ⟨u1, u2, hp.ext k⟩
    refine k_run (j := 1) h15 rfl rfl (by kernel_rfl) (by kernel_rfl) ?_
    refine runJ ?_
    (apply (s_build ([I 0, U 0, .slice none 0 0, I 0, .slice none 0 0, U 0, .slice none 0 0])); exact rfl; exact rfl; exact rfl; (repeat (first | exact CellsAll.nil | (apply CellsAll.cons; (first | exact oneL (by assumption) | exact oneL (SlF.one (by assumption)) | exact oneL (SlF.one (OwnF.sl (by assumption))) | exact oneL (Var.one (by assumption)) | exact rfl)))); exact rfl; exact rfl)
    refine runJ ?_
    refine ⟨⟨rfl, ?_⟩⟩
    refine k_box rfl rfl rfl rfl rfl rfl (fun h' v h'' hC _ V e b => ⟨hC.trans e, V, _, b, hC.1⟩) (fun v1 => ?_)
    refine k_run (j := 3) h15 rfl rfl (by kernel_rfl) (by kernel_rfl) ?_
    refine runJ ?_
    refine ⟨⟨rfl, ?_⟩⟩
    refine k_fcallX rfl rfl rfl rfl Tryd_ent43 rfl (fun h hC _ => (of_spec n h (by omega)).mono fun v h' ⟨e, o⟩ => ⟨e, hC.trans e, o.sl⟩) (fun v3 hx3 => ?_)
    have onev3 : v3.oneCell' = true := by obtain ⟨_, _, p⟩ := hx3; exact p.one
    clear hx3
    refine k_run (j := 6) h15 rfl rfl (by kernel_rfl) (by kernel_rfl) ?_
    refine runJ ?_
    refine ⟨⟨rfl, ?_⟩⟩
    refine k_fcallX rfl rfl rfl rfl Tryd_ent43 rfl (fun h hC _ => (of_spec p.t h (by omega)).mono fun v h' ⟨e, o⟩ => ⟨e, hC.trans e, o.sl⟩) (fun v6 hx6 => ?_)
    have onev6 : v6.oneCell' = true := by obtain ⟨_, _, p⟩ := hx6; exact p.one
    clear hx6
    refine k_run (j := 9) h15 rfl rfl (by kernel_rfl) (by kernel_rfl) ?_
    refine runJ ?_
    refine ⟨⟨rfl, ?_⟩⟩
    refine k_lit (f := Prod.fst) rfl rfl rfl rfl [(v3, dg 18446744073709551616 n), (v6, dg 18446744073709551616 p.t), (va, xs), (vb, ys)] rfl rfl rfl rfl rfl rfl (List.forall_mem_cons.2 ⟨onev3, List.forall_mem_cons.2 ⟨onev6, List.forall_mem_cons.2 ⟨sa.one, List.forall_mem_cons.2 ⟨sb.one, fun _ h => nomatch h⟩⟩⟩⟩) rfl (by decide) (fun h' v h'' hC hT o e _ => ?_) (fun v9 => ?_)
    · have P3 : SlF h' U v3 (dg 18446744073709551616 n) := hT (3, v3) (by simp) (by kernel_rfl)
      have P6 : SlF h' U v6 (dg 18446744073709551616 p.t) := hT (6, v6) (by simp) (by kernel_rfl)
      refine ⟨hC.trans e, v3, v6, o.sl, fun x hx => ?_⟩
      simp only [List.mem_cons, List.not_mem_nil, or_false] at hx
      rcases hx with rfl | rfl | rfl | rfl
      · exact ⟨P3.ext e, al_dg (by decide) _, one_len (by omega)⟩
      · exact ⟨P6.ext e, al_dg (by decide) _, one_len (by omega)⟩
      · exact ⟨(sa15.ext hC).ext e, ha, by dsimp only; omega⟩
      · exact ⟨(sb15.ext hC).ext e, hb, by dsimp only; omega⟩
    refine k_call rfl rfl rfl rfl Tryd_ent60 rfl ?_
    intro h16 hC16 hD16 hT16
    obtain ⟨V1, gk, hgk, hgkl⟩ : Var h16 v1 86 [I 0, U 0, .slice none 0 0, I 0, .slice none 0 0, U 0, .slice none 0 0] ∧ ∃ k, pblk v1 = some k ∧ h15.size ≤ k := hT16 (1, v1) (by simp)
    obtain ⟨u1, u2, R9⟩ : ∃ u1 u2, RowN h16 v9 [(u1, dg 18446744073709551616 n), (u2, dg 18446744073709551616 p.t), (va, xs), (vb, ys)] := hT16 (9, v9) (by simp)
    have AD := padd_spec v1 (.slice none 0 0) v9 _ _ _ _ _ _ 0 _ h16 V1 (SlF.nil _ _) R9 (by simp) (by decide)
    rw [show prodR [(u1, dg 18446744073709551616 n), (u2, dg 18446744073709551616 p.t), (va, xs), (vb, ys)] = S6 by rw [← hS6, ← hX, ← hY]; simp [prodR, vl_of], Nat.zero_add] at AD
    refine AD.mono ?_
    rintro ga h17 ⟨rfl, k17, w17, V17, o17⟩
    have e17 : Ext h15 h17 := k17.oldV hC16 hgk hgkl
    refine ⟨e17, .inr ⟨by kernel_rfl, ?_⟩⟩
    have o17o := o17
    have o17 := o17.sl
    have z17 := hC16.1
    clear AD hT16 R9
    refine k_run (j := 12) h17 rfl rfl (by kernel_rfl) (by kernel_rfl) ?_
    refine runJ ?_
    refine ⟨⟨rfl, ?_⟩⟩
    refine k_done rfl ?_
    intro h18 hC18 hD18 _
    have V18 := V17.ext hD18
    have o18 := o17.ext hD18
    have G18 := G15.ext hC18
    have s18 := o15.ext hC18
    have sq18 := sq15.ext hC18
    have k18 : Only (pblk g5) h3 h18 := k15.trans (hC18.only _)
    have z1518 := hC18.1
    clear G15 o15 V17 o17 V1 hC16 hD16 hD18 hC18
    have x18 := x3.only k18 nx
    have hglt : gb < h15.size := by
      obtain ⟨j, hj, hlt⟩ := G.blk
      rw [hgb] at hj; cases hj
      exact Nat.lt_of_lt_of_le hlt k15.1
    have ng : pblk ga ≠ pblk g5 := by rw [hgk, hgb]; intro e; cases e; omega
    have ea17 : El g5 w17 (dg 18446744073709551616 S6).length := .inr (o17o.neV hgb (by omega))
    have PA : ∀ h', ChP h18 g5 (I n) (U p.t) p.vq (I p.w) q (U rr) h' → ∃ e cs, Var h' ga e cs ∧ nth cs 6 = some w17 := fun h' hc => ⟨_, _, V18.only hc.only ng, rfl⟩
    have PQ : ∀ h', ChP h18 g5 (I n) (U p.t) p.vq (I p.w) q (U rr) h' → ∃ e cs, Var h' g5 e cs ∧ nth cs 4 = some q := fun h' hc => let ⟨vS, hv⟩ := hc.var; ⟨_, _, hv, rfl⟩
    refine runJN ?_
    -- region 10
    refine r_drawnKR (ChP h18 g5 (I n) (U p.t) p.vq (I p.w) q (U rr)) (fun i => Nat.beq i 9 || Nat.beq i 10 || Nat.beq i 19) (fun i => Nat.beq i 23) (Only (pblk g5))
      (fun i => match i with | 9 => PhW g5 (dg 18446744073709551616 S7) | 10 => fun v h => ∃ u1, PhR g5 [(u1, dg 18446744073709551616 S7)] v h | _ => PhW g5 [S8]) rfl mixed (by kernel_rfl) (fun _ _ e => e.only _) ?_ ⟨Only.refl _ _, _, G18⟩ ?_
    · intro i v h h' hp k
      split at hp
      · exact PhW.only hp k
      · obtain ⟨u1, hp⟩ := hp
        exact ⟨u1, PhR.only hp k⟩
      · exact PhW.only hp k
    refine k_run (j := 9) h18 rfl rfl (by kernel_rfl) (by kernel_rfl) ?_
    refine runJ ?_
    (try refine s_loadCell (u := w17) (off := 6) rfl rfl (rd_cl PA) rfl ?_)
    refine runJ ?_
    (try refine s_loadCell (u := q) (off := 4) rfl rfl (rd_cl PQ) rfl ?_)
    refine runJ ?_
    refine ⟨⟨rfl, ?_⟩⟩
    refine k_fcallX rfl rfl rfl rfl Tryd_ent61 rfl (fun h' hC hT => (UP w17 q h' (hC.row o18 ea17) (hC.row sq18 eq0)).mono fun v h'' ⟨e, o⟩ => ⟨e, hC.ext e, o.sl, el_new o hgb (hC.lt hgb)⟩) (fun y9 hx9 => ?_)
    have oney9 : y9.oneCell' = true := by obtain ⟨_, _, p⟩ := hx9; exact p.1.one
    clear hx9
    refine k_lit (f := Prod.fst) rfl rfl rfl rfl [(y9, dg 18446744073709551616 S7)] rfl rfl rfl rfl rfl rfl (List.forall_mem_cons.2 ⟨oney9, fun _ h => nomatch h⟩) rfl (by decide) (fun h' v h'' hC hT o e _ => ?_) (fun y10 => ?_)
    · have P8 : PhW g5 (dg 18446744073709551616 S7) y9 h' := hT (9, y9) (by simp) (by kernel_rfl)
      have := phR_lit hgb hC o e fun x hx => by
        simp only [List.mem_singleton] at hx
        subst hx
        exact ⟨P8.1, P8.2, al_dg (by decide) _, l7'⟩
      exact ⟨this.1, _, this.2⟩
    refine k_call rfl rfl rfl rfl Tryd_ent60 rfl ?_
    intro h19 hC19 hD19 hT19
    obtain ⟨z1, P10⟩ : ∃ u1, PhR g5 [(u1, dg 18446744073709551616 S7)] y10 h19 := hT19 (10, y10) (by simp)
    have AD := padd_spec g5 w14 y10 _ _ _ _ _ _ (S1 + rr + S3 + S4 + S5) _ h19 (G18.ext hD19) (s18.ext hD19) P10.1 (by simp) (by omega)
    rw [prodR_one, vl_of] at AD
    refine AD.mono ?_
    rintro g6 h20 ⟨rfl, k20, w20, G20, o20⟩
    refine ⟨⟨hC19.only.trans k20, _, G20⟩, .inl ⟨k20, ?_⟩⟩
    have o20 := o20.sl
    clear AD hT19
    refine k_run (j := 19) h20 rfl rfl (by kernel_rfl) (by kernel_rfl) ?_
    refine runJ ?_
    refine ⟨⟨rfl, ?_⟩⟩
    rw [hS8]
    refine k_lit (f := U) rfl rfl rfl rfl [S8] rfl rfl rfl rfl rfl rfl (fun u hu => by obtain ⟨y, -, rfl⟩ := List.mem_map.1 (show u ∈ List.map U [S8] from hu); rfl) rfl (by omega) (fun h' v h'' hC _ o e _ => phW_lit hgb hC o e) (fun y19 => ?_)
    refine k_call rfl rfl rfl rfl Tryd_ent59 rfl ?_
    intro h21 hC21 hD21 hT21
    have P19 : PhW g6 [S8] y19 h21 := hT21 (19, y19) (by simp)
    have WD := pwords_spec g6 w20 y19 _ _ _ _ _ _ (S1 + rr + S3 + S4 + S5 + S7) [S8] h21 (G20.ext hD21) (o20.ext hD21) P19.1 (by intro x hx; simp only [List.mem_singleton] at hx; omega) (by simp) (by omega)
    rw [show prodL [S8] = S8 by simp [prodL]] at WD
    refine WD.mono ?_
    rintro g7 h22 ⟨rfl, k22, w22, G22, o22⟩
    refine ⟨⟨hC21.only.trans k22, _, G22⟩, .inr ⟨by kernel_rfl, ?_⟩⟩
    clear WD hT21
    refine k_run (j := 23) h22 rfl rfl (by kernel_rfl) (by kernel_rfl) ?_
    refine runJ ?_
    refine ⟨⟨rfl, ?_⟩⟩
    refine k_load (p := g7) (u := w22) (off := 6) rfl rfl rfl rfl rfl rfl (fun _ _ x y => x.trans y) (fun _ => Only.refl _ _) (fun h' _ hD _ => ⟨_, _, G22.ext hD, rfl⟩) ?_
    refine k_run (j := 26) h22 rfl rfl (by kernel_rfl) (by kernel_rfl) ?_
    refine runJ ?_
    refine ⟨⟨rfl, ?_⟩⟩
    refine k_done rfl ?_
    intro h23 hC23 hD23 _
    have k23 : Only (pblk g7) h2 h23 := e23.trans (k18.trans hC23.only)
    refine runJ ?_
    exact fin2 rfl rfl rfl ⟨e1.trans (k23.oldV e2 hgb hgl), _, rfl, (o22.ext hD23).base (Nat.le_trans e12.1 (Nat.le_trans e3.1 (Nat.le_trans k18.1 hC21.only.1))), by omega⟩
  · rw [if_neg hE]
    refine runJ ?_
    (apply w_condT; exact rfl; exact rfl; exact hE)
    refine runJ ?_
    exact fin2 rfl rfl rfl ⟨e12, _, rfl, OwnF.nil _ _ _ _, by decide⟩
end Go.Proofs.YtajgcmgkhmkmbaaDoor
