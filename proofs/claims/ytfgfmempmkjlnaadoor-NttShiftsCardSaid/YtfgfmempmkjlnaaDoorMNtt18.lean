/- Texts ParC to NttI of this work, joined: each says in its own head what it proves, and of which condition. -/
import Derived.Test.YtfgfmempmkjlnaaDoorMNtt17
/- Package param: the fixed calls, and the laws of steps and rows. Condition: the table of math/bits reads as it is laid. -/
namespace Go.Proofs.YtfgfmempmkjlnaaDoor
set_option linter.unusedVariables false
set_option maxRecDepth 8000
open Go Go.Den Go.RowKit Go.Dig

/-- Parameters whose row may be as long as any. -/
structure ParA0 (h : Hp) (p : ParD) : Prop where mk ::
  row : SlF h U p.vq p.q
  al : Al 18446744073709551616 p.q
  t64 : p.t < 18446744073709551616
  ln : p.q.length < 9223372036854775808

theorem par97 (w : Value) : parP ⟨8, 17, w, [97, 193], 2⟩ := (by decide +kernel : parP ⟨8, 17, .bool false, [97, 193], 2⟩)
theorem par0 (w : Value) : ¬ parP ⟨0, 0, w, [], 0⟩ := (by decide +kernel : ¬ parP ⟨0, 0, .bool false, [], 0⟩)
theorem lev97 (w : Value) : levE ⟨8, 17, w, [97, 193], 2⟩ 1 = 0 := by unfold levE; rw [if_pos (par97 w)]; rfl
theorem levM97 (w : Value) : levM ⟨8, 17, w, [97, 193], 2⟩ 1 = 18721 := rfl

theorem levE_par {p : ParD} {l : Int} (h : levE p l = 0) : parP p ∧ 0 ≤ l ∧ l < p.q.length := by
  unfold levE at h
  by_cases hp : parP p
  · rw [if_pos hp] at h
    by_cases hl : l < 0 ∨ (p.q.length : Int) ≤ l
    · rw [if_pos hl] at h; omega
    · exact ⟨hp, by omega, by omega⟩
  · rw [if_neg hp] at h; omega
theorem par_t {p : ParD} (hp : parP p) : 0 < p.t := by
  have := hp.2.1.2.1
  by_cases e : p.t = 0
  · rw [e, Nat.zero_mod] at this; omega
  · omega
theorem levM_len {p : ParD} {l : Int} (hp : parP p) (A : Al 18446744073709551616 p.q) : (dg 18446744073709551616 (levM p l)).length ≤ 9 := by
  have h1 := dg_len (b := 18446744073709551616) (n := levM p l) (k := (p.q.take (l.toNat + 1)).length + 1) (by decide) (prodL_lt (al_take A _))
  have h2 := hp.2.2.1.2.2.2
  rw [List.length_take] at h1
  omega

theorem levE_top {p : ParD} (hp : parP p) {m : Nat} (hm : m < p.q.length) : levE p (m : Int) = 0 := by
  unfold levE
  rw [if_pos hp, if_neg (by omega)]
theorem levM_all {p : ParD} {m : Nat} (hm : m + 1 = p.q.length) : levM p (m : Int) = prodL p.q := by
  unfold levM
  rw [Int.toNat_natCast, hm, List.take_length]
theorem levM_step {p : ParD} {m q : Nat} (hq : p.q[m + 1]? = some q) : levM p ((m + 1 : Nat) : Int) = levM p (m : Int) * q := by
  unfold levM
  rw [Int.toNat_natCast, Int.toNat_natCast, take_snoc hq, prodL_snoc]

end Go.Proofs.YtfgfmempmkjlnaaDoor

/- Package param: parameters compared, and the law of it. Condition of the fixed calls: the table of math/bits reads as it is laid. -/
namespace Go.Proofs.YtfgfmempmkjlnaaDoor
set_option linter.unusedVariables false
set_option maxRecDepth 8000
open Go Go.Den Go.RowKit Go.Dig

/-- What the closure 'rest' makes of parameters. -/
def restL (p : ParD) : List Int := [p.n, IntKind.i64.wrap p.t, p.w]
def sameP (a b : ParD) : Prop := a.n = b.n ∧ a.t = b.t ∧ a.w = b.w ∧ a.q = b.q
instance (a b : ParD) : Decidable (sameP a b) := by unfold sameP; exact inferInstance
theorem wrap_inj {a b : Nat} (ha : a < 18446744073709551616) (hb : b < 18446744073709551616) (h : IntKind.i64.wrap a = IntKind.i64.wrap b) : a = b := by
  rw [IntKind.wrap_i64, IntKind.wrap_i64] at h
  omega
theorem restL_eq {a b : ParD} (ha : a.t < 18446744073709551616) (hb : b.t < 18446744073709551616) : restL a = restL b ↔ (a.n = b.n ∧ a.t = b.t ∧ a.w = b.w) := by
  unfold restL
  constructor
  · intro h
    simp only [List.cons.injEq, and_true] at h
    exact ⟨h.1, wrap_inj ha hb h.2.1, h.2.2⟩
  · rintro ⟨h1, h2, h3⟩
    rw [h1, h2, h3]

theorem sameU9_spec (va vb : Value) (xs ys : List Nat) (h : Hp) (ha : SlF h U va xs) (hb : SlF h U vb ys) (hl : xs.length < 9223372036854775808) (hl2 : ys.length < 9223372036854775808) :
    CallsH Tryd.prog 17 [va, vb] h fun v' h' => v' = .bool (decide (xs = ys)) ∧ h = h' := by
  (apply enter Tryd.func17 rfl Tryd.ntmps17 rfl)
  refine runJ ?_
  (apply w_condD; exact rfl; exact rfl) <;> intro hne
  · refine runJ ?_
    exact fin1 rfl rfl ⟨dec_f (fun e => hne (by rw [e])), rfl⟩
  have hle : xs.length = ys.length := by omega
  refine runJ ?_
  (first | (apply w_seqB; exact rfl; apply w_block; exact rfl) | skip)
  apply (w_loop (σ := Nat) rfl (fun j => [(0, va), (1, vb), (12, N xs.length), (13, N j)])
    (fun j h' => h = h' ∧ j ≤ xs.length ∧ ∀ (i : Nat) (x y : Nat), i < j → xs[i]? = some x → ys[i]? = some y → x = y) (fun j => xs.length - j) 0)
  · exact (Sub.cons rfl (Sub.cons rfl (Sub.cons rfl (Sub.cons rfl (Sub.nil _)))))
  · exact ⟨rfl, Nat.zero_le _, fun i x y hi => by omega⟩
  rintro j h' ⟨rfl, j1, j2⟩
  refine runJ ?_
  (apply w_condD; exact rfl; exact rfl) <;> intro hj
  · obtain ⟨x, hx⟩ := get_lt hj
    obtain ⟨y, hy⟩ := get_lt (l := ys) (j := j) (by omega)
    refine runJ ?_
    (apply w_condD; exact rfl; exact rfl) <;> intro hd
    · refine runJ ?_
      exact fin1 rfl rfl ⟨dec_f (list_ne hx hy hd), rfl⟩
    · refine runJ ?_
      apply again_normal (j + 1)
      · exact (Sub.cons rfl (Sub.cons rfl (Sub.cons rfl (Sub.cons rfl (Sub.nil _)))))
      · refine ⟨rfl, hj, fun i x' y' hi hx' hy' => ?_⟩
        rcases Nat.lt_succ_iff_lt_or_eq.1 hi with hi | rfl
        · exact j2 i x' y' hi hx' hy'
        · rw [hx] at hx'; rw [hy] at hy'; cases hx'; cases hy'; exact Decidable.of_not_not hd
      · omega
  · refine runJ ?_
    exact fin1 rfl rfl ⟨dec_t (list_eq hle fun i x y hx hy => j2 i x y (by have := (List.getElem?_eq_some_iff.1 hx).1; omega) hx hy), rfl⟩

theorem sameP_comm (a b : ParD) : decide (sameP b a) = decide (sameP a b) := by
  rw [decide_eq_decide]
  unfold sameP
  constructor <;> rintro ⟨h1, h2, h3, h4⟩ <;> exact ⟨h1.symm, h2.symm, h3.symm, h4.symm⟩
theorem ParA0.ext {h h' : Hp} {p : ParD} (s : ParA0 h p) (e : Ext h h') : ParA0 h' p := ⟨s.row.ext e, s.al, s.t64, s.ln⟩

end Go.Proofs.YtfgfmempmkjlnaaDoor

/- Package ntt: no table at all; the fixed calls; the law NttNil. Condition: the table of math/bits reads as it is laid. -/
namespace Go.Proofs.YtfgfmempmkjlnaaDoor
set_option linter.unusedVariables false
set_option maxRecDepth 8000
open Go Go.Den Go.RowKit Go.Mth

theorem values_nil (va : Value) (h : Hp) : CallsH Tryd.prog 15 [.pointer none, va] h fun v' h' => v' = .tuple #[.slice none 0 0, N 1] ∧ h = h' := by
  (apply enter Tryd.func15 rfl Tryd.ntmps15 rfl)
  refine runJ ?_
  exact fin2 rfl rfl rfl ⟨rfl, rfl⟩
theorem back_nil (va : Value) (h : Hp) : CallsH Tryd.prog 16 [.pointer none, va] h fun v' h' => v' = .tuple #[.slice none 0 0, N 1] ∧ h = h' := by
  (apply enter Tryd.func16 rfl Tryd.ntmps16 rfl)
  refine runJ ?_
  exact fin2 rfl rfl rfl ⟨rfl, rfl⟩
theorem nttMul_nil (va vb : Value) (h : Hp) : CallsH Tryd.prog 18 [.pointer none, va, vb] h fun v' h' => v' = .tuple #[.slice none 0 0, N 1] ∧ h = h' := by
  (apply enter Tryd.func18 rfl Tryd.ntmps18 rfl)
  refine runJ ?_
  refine s_callV rfl Tryd_ent15 rfl rfl rfl ?_
  refine (values_nil va h).mono ?_
  rintro _ _ ⟨rfl, rfl⟩
  refine ⟨(by first | exact trivial | exact trivial), ?_⟩
  refine runJ ?_
  exact fin2 rfl rfl rfl ⟨rfl, rfl⟩

theorem dft_inj {t : Tbl} (K : TblOk t) {xs ys : List Nat} (hx : Fit (2 ^ t.L) t.q xs) (hy : Fit (2 ^ t.L) t.q ys) (h : ∀ k, k < 2 ^ t.L → Cg t.q (dft (2 ^ t.L) t.w (gt xs) k) (dft (2 ^ t.L) t.w (gt ys) k)) : xs = ys :=
  lists_cg (by rw [hx.1, hy.1]) hx.2 hy.2 fun p hp => by
    have hp' : p < 2 ^ t.L := by rw [← hx.1]; exact hp
    have h1 := idft_dft K.cw K.cuw K.cp (gt xs) hp'
    have h2 := idft_dft K.cw K.cuw K.cp (gt ys) hp'
    exact h1.symm.trans ((idft_cg (fun j hj => h j hj) p).trans h2)
theorem val_eq {t : Tbl} {xs ys zs : List Nat} (h : Val t xs ys) (hz : Fit (2 ^ t.L) t.q zs) (e : ∀ k, k < 2 ^ t.L → Cg t.q (gt zs k) (dft (2 ^ t.L) t.w (gt xs) k)) : ys = zs :=
  lists_cg (by rw [h.1.1, hz.1]) h.1.2 hz.2 fun p hp => (h.2 p (by rw [← h.1.1]; exact hp)).trans (e p (by rw [← h.1.1]; exact hp)).symm
theorem prd_eq {t : Tbl} (K : TblOk t) {xs ys rs zs : List Nat} (h : Prd t xs ys rs) (hz : Fit (2 ^ t.L) t.q zs) (e : ∀ k, k < 2 ^ t.L → Cg t.q (dft (2 ^ t.L) t.w (gt zs) k) (dft (2 ^ t.L) t.w (gt xs) k * dft (2 ^ t.L) t.w (gt ys) k)) : rs = zs :=
  dft_inj K h.1 hz fun k hk => (h.2 k hk).trans (e k hk).symm

theorem root5 {r : Nat} (h : RootR 5 4 r) : r = 2 := by
  obtain ⟨hr, w, hw, hp, ⟨j, hj, rfl⟩, hall⟩ := h
  have h0 := hall 0 (by decide)
  have h1 := hall 1 (by decide)
  have key : ∀ w, w < 5 → powm w (4 / 2) 5 = 5 - 1 → ∀ j, j < 4 / 2 → w ^ (2 * j + 1) % 5 ≤ w ^ (2 * 0 + 1) % 5 → w ^ (2 * j + 1) % 5 ≤ w ^ (2 * 1 + 1) % 5 → w ^ (2 * j + 1) % 5 = 2 := by decide
  exact key w hw hp j hj h0 h1
theorem isB5 : isB 5 = true := by decide +kernel
theorem cgd {q : Nat} {a b : Int} (h : (a - b) % (q : Int) = 0) : Cg q a b := ⟨(a - b) / q, by have := Int.emod_add_mul_ediv (a - b) q; omega⟩

theorem Tryd_ent11 : Ent Tryd.prog 11 := ent_of Tryd.func11 (by kernel_rfl) rfl
set_option maxHeartbeats 1000000 in
theorem fixed04_spec (h : Hp) (T : TB h) : CallsH Tryd.prog 11 [] h fun v' h' => v' = .bool true ∧ Ext h h' := by
  have NW := nttNew_spec 1 5 2 h T (by decide) (by decide) (by decide) (by decide) (by decide) isB5 (by decide) (by decide) (by decide)
  (apply enter Tryd.func11 rfl Tryd.ntmps11 rfl)
  refine runJ ?_
  apply (s_call Tryd_ent12 rfl rfl rfl)
  refine (NW).mono ?_
  rintro _ h1 ⟨e1, g, t, rfl, A, K, hL, hq, hR⟩
  refine ⟨(by first | exact trivial | exact trivial), ?_⟩
  have hw := root5 hR
  obtain ⟨L, q, w, u, p, vr, vu⟩ := t
  dsimp only at hL hq hw
  subst hL hq hw
  refine runJ ?_
  (apply (s_litF (f := U) [1, 1] (fun _ => rfl)); exact rfl; exact rfl; exact rfl; exact rfl; exact rfl; exact rfl; exact rfl; exact rfl; omega)
  intro w2 h2 o2 e2 b2
  refine ⟨(by first | exact trivial | exact Ext.refl _ | assumption | exact Ext.trans (by assumption) (by assumption)), ?_⟩
  have V := fun h s A => values_spec g w2 _ [1, 1] h K A s (by dsimp only; decide)
  refine runJ ?_
  apply (s_call Tryd_ent15 rfl rfl rfl)
  refine (V h2 o2.sl (A.ext e2)).mono ?_
  rintro _ h3 ⟨e3, r3, ys, rfl, o3, V3⟩
  refine ⟨(by first | exact trivial | exact trivial), ?_⟩
  obtain rfl : ys = [3, 4] := val_eq V3 (by dsimp only; decide) (by
    intro k hk
    rcases (show k = 0 ∨ k = 1 by change k < 2 at hk; omega) with rfl | rfl <;> exact cgd (by dsimp only; decide))
  refine runJ ?_
  (apply (s_litF (f := U) [0, 1] (fun _ => rfl)); exact rfl; exact rfl; exact rfl; exact rfl; exact rfl; exact rfl; exact rfl; exact rfl; omega)
  intro w4 h4 o4 e4 b4
  refine ⟨(by first | exact trivial | exact Ext.refl _ | assumption | exact Ext.trans (by assumption) (by assumption)), ?_⟩
  refine runJ ?_
  (apply (s_litF (f := U) [0, 1] (fun _ => rfl)); exact rfl; exact rfl; exact rfl; exact rfl; exact rfl; exact rfl; exact rfl; exact rfl; omega)
  intro w5 h5 o5 e5 b5
  refine ⟨(by first | exact trivial | exact Ext.refl _ | assumption | exact Ext.trans (by assumption) (by assumption)), ?_⟩
  have A5 := ((((A.ext e2).ext e3).ext e4).ext e5)
  have M := nttMul_spec g w4 w5 _ [0, 1] [0, 1] h5 K A5 (o4.sl.ext e5) o5.sl (by dsimp only; decide) (by dsimp only; decide)
  refine runJ ?_
  apply (s_call Tryd_ent18 rfl rfl rfl)
  refine (M).mono ?_
  rintro _ h6 ⟨e6, r6, rs, rfl, o6, P6⟩
  refine ⟨(by first | exact trivial | exact trivial), ?_⟩
  obtain rfl : rs = [4, 0] := prd_eq K P6 (by dsimp only; decide) (by
    intro k hk
    rcases (show k = 0 ∨ k = 1 by change k < 2 at hk; omega) with rfl | rfl <;> exact cgd (by dsimp only; decide))
  have e36 := (e4.trans e5).trans e6
  refine runJ ?_
  (apply (s_litF (f := U) [3, 4] (fun _ => rfl)); exact rfl; exact rfl; exact rfl; exact rfl; exact rfl; exact rfl; exact rfl; exact rfl; omega)
  intro w7 h7 o7 e7 b7
  refine ⟨(by first | exact trivial | exact Ext.refl _ | assumption | exact Ext.trans (by assumption) (by assumption)), ?_⟩
  refine runJ ?_
  apply (s_call Tryd_ent17 rfl rfl rfl)
  refine (sameU9_spec r3 w7 [3, 4] [3, 4] h7 ((o3.sl.ext e36).ext e7) o7.sl (by decide) (by decide)).mono ?_
  rintro _ _ ⟨rfl, rfl⟩
  refine ⟨(by first | exact trivial | exact Ext.refl _ | assumption | exact Ext.trans (by assumption) (by assumption)), ?_⟩
  refine runJ ?_
  (apply (s_litF (f := U) [4, 0] (fun _ => rfl)); exact rfl; exact rfl; exact rfl; exact rfl; exact rfl; exact rfl; exact rfl; exact rfl; omega)
  intro w8 h8 o8 e8 b8
  refine ⟨(by first | exact trivial | exact Ext.refl _ | assumption | exact Ext.trans (by assumption) (by assumption)), ?_⟩
  refine runJ ?_
  apply (s_call Tryd_ent17 rfl rfl rfl)
  refine (sameU9_spec r6 w8 [4, 0] [4, 0] h8 ((o6.sl.ext e7).ext e8) o8.sl (by decide) (by decide)).mono ?_
  rintro _ _ ⟨rfl, rfl⟩
  refine ⟨(by first | exact trivial | exact Ext.refl _ | assumption | exact Ext.trans (by assumption) (by assumption)), ?_⟩
  refine runJ ?_
  exact fin1 rfl rfl ⟨rfl, (((e1.trans e2).trans e3).trans e36).trans (e7.trans e8)⟩

theorem Tryd_ent5 : Ent Tryd.prog 5 := ent_of Tryd.func5 (by kernel_rfl) rfl
theorem nttNil_law (va : Value) (xs : List Nat) (h : Hp) (T : TB h) (s : SlF h U va xs) :
    CallsH Tryd.prog 5 [va] h fun v' h' => v' = .bool true ∧ Ext h h' := by
  (apply enter Tryd.func5 rfl Tryd.ntmps5 rfl)
  refine runJ ?_
  apply (s_call Tryd_ent11 rfl rfl rfl)
  refine (fixed04_spec h T).mono ?_
  rintro _ h1 ⟨rfl, e1⟩
  refine ⟨(by first | exact trivial | exact trivial), ?_⟩
  refine runJ ?_
  apply (s_call Tryd_ent15 rfl rfl rfl)
  refine (values_nil va h1).mono ?_
  rintro _ _ ⟨rfl, rfl⟩
  refine ⟨(by first | exact trivial | exact trivial), ?_⟩
  refine runJ ?_
  apply (s_call Tryd_ent16 rfl rfl rfl)
  refine (back_nil va h1).mono ?_
  rintro _ _ ⟨rfl, rfl⟩
  refine ⟨(by first | exact trivial | exact trivial), ?_⟩
  refine runJ ?_
  apply (s_call Tryd_ent18 rfl rfl rfl)
  refine (nttMul_nil va va h1).mono ?_
  rintro _ _ ⟨rfl, rfl⟩
  refine ⟨(by first | exact trivial | exact trivial), ?_⟩
  have sn := SlF.nil h1 U
  refine runJ ?_
  simp only [List.length_nil]
  refine runJ ?_
  simp only [List.length_nil]
  refine runJ ?_
  exact fin1 rfl rfl ⟨rfl, e1⟩
end Go.Proofs.YtfgfmempmkjlnaaDoor

/- Plain facts for the laws of package ntt: fast powers, the three primes. No condition. -/
namespace Go.Proofs.YtfgfmempmkjlnaaDoor
set_option linter.unusedVariables false
set_option maxRecDepth 8000
open Go Go.Den Go.RowKit Go.Mth

def fp (m : Nat) : Nat → Nat → Nat → Nat
  | 0, _, _ => 1 % m
  | f + 1, a, n => if n = 0 then 1 % m else if n % 2 = 1 then a * fp m f (a * a % m) (n / 2) % m else fp m f (a * a % m) (n / 2)
theorem fp_eq (m : Nat) : ∀ f a n, n < 2 ^ f → fp m f a n = a ^ n % m
  | 0, a, n, h => by
    obtain rfl : n = 0 := by rw [Nat.pow_zero] at h; omega
    rfl
  | f + 1, a, n, h => by
    unfold fp
    by_cases h0 : n = 0
    · rw [if_pos h0, h0, Nat.pow_zero]
    rw [if_neg h0, fp_eq m f _ _ (by rw [Nat.pow_succ] at h; omega)]
    have e : (a * a % m) ^ (n / 2) % m = a ^ (2 * (n / 2)) % m := by rw [← Nat.pow_mod, Nat.pow_mul, Nat.pow_two]
    rw [e]
    by_cases h1 : n % 2 = 1
    · rw [if_pos h1, Nat.mul_mod_mod, ← Nat.pow_succ', show (2 * (n / 2)).succ = n by omega]
    · rw [if_neg h1, show 2 * (n / 2) = n by omega]
theorem powm_fp {a n m : Nat} (hn : n < 18446744073709551616) (hm : m ≠ 0) : powm a n m = fp m 64 a n := by
  unfold powm; rw [if_neg hm, fp_eq m 64 a n hn]

def holdsF (n d s a : Nat) : Bool := a % n == 0 || (fp n 64 (a % n) d == 1 || (fp n 64 (a % n) d == n - 1 || holdsLoop n (s - 1) (fp n 64 (a % n) d)))
def isF (n : Nat) : Bool := if n < 4 ∨ n % 2 = 0 then n == 2 || n == 3 else bases.all (holdsF n ((n - 1) / 2 ^ tz (n - 1)) (tz (n - 1)))
theorem isB_fast {n : Nat} (hn : n < 18446744073709551616) (h0 : n ≠ 0) : isB n = isF n := by
  unfold isB isF
  have hd : (n - 1) / 2 ^ tz (n - 1) < 18446744073709551616 := Nat.lt_of_le_of_lt (Nat.div_le_self _ _) (by omega)
  have : holdsB n ((n - 1) / 2 ^ tz (n - 1)) (tz (n - 1)) = holdsF n ((n - 1) / 2 ^ tz (n - 1)) (tz (n - 1)) := by
    funext a
    unfold holdsB holdsF
    rw [powm_fp hd h0]
  rw [this]

def q3 : List Nat := [12289, 40961, 1152921504606830593]
def x3 : List Nat := [11, 3, 5]
theorem is3 : isB 12289 = true ∧ isB 40961 = true ∧ isB 1152921504606830593 = true :=
  ⟨(isB_fast (by decide) (by decide)).trans (by decide +kernel), (isB_fast (by decide) (by decide)).trans (by decide +kernel), (isB_fast (by decide) (by decide)).trans (by decide +kernel)⟩
def facts (r : Nat) (q X : Nat) : Bool := Nat.beq (q % (2 * 2 ^ (r + 1))) 1 && Nat.beq (fp q 64 (fp q 64 X ((q - 1) / 2 ^ (r + 2))) (2 ^ (r + 2) / 2)) (q - 1)
theorem facts9 : ∀ r, r < 9 → facts r (q3.getD (r % 3) 0) (x3.getD (r % 3) 0) = true := by decide +kernel
theorem prime3 {r : Nat} (hr : r < 9) : ∃ q X, q3[r % 3]? = some q ∧ q < 2305843009213693952 ∧ 1 < q ∧ isB q = true ∧ q % (2 * 2 ^ (r + 1)) = 1 ∧ 2 ≤ X ∧ X < 18446744073709551615 ∧ powm (powm X ((q - 1) / 2 ^ (r + 2)) q) (2 ^ (r + 2) / 2) q = q - 1 := by
  have hf := facts9 r hr
  have h2 : (2 : Nat) ^ (r + 2) ≤ 2 ^ 10 := Nat.pow_le_pow_right (by decide) (by omega)
  obtain ⟨q, hq, X, hX, b⟩ : ∃ q, q3[r % 3]? = some q ∧ ∃ X, x3.getD (r % 3) 0 = X ∧ q < 2305843009213693952 ∧ 1 < q ∧ isB q = true ∧ 2 ≤ X ∧ X < 18446744073709551615 := by
    rcases (show r % 3 = 0 ∨ r % 3 = 1 ∨ r % 3 = 2 by omega) with h | h | h <;> rw [h]
    · exact ⟨_, rfl, _, rfl, by decide, by decide, is3.1, by decide, by decide⟩
    · exact ⟨_, rfl, _, rfl, by decide, by decide, is3.2.1, by decide, by decide⟩
    · exact ⟨_, rfl, _, rfl, by decide, by decide, is3.2.2, by decide, by decide⟩
  rw [getD_of hq, hX] at hf
  obtain ⟨b1, b2, b3, b4, b5⟩ := b
  unfold facts at hf
  simp only [Bool.and_eq_true] at hf
  refine ⟨q, X, hq, b1, b2, b3, Nat.eq_of_beq_eq_true hf.1, b4, b5, ?_⟩
  rw [powm_fp (a := X) (by have := Nat.div_le_self (q - 1) (2 ^ (r + 2)); omega) (by omega), powm_fp (by omega) (by omega)]
  exact Nat.eq_of_beq_eq_true hf.2

/-- There and back. -/
theorem val_bck {t : Tbl} (K : TblOk t) {xs ys zs : List Nat} (hx : Fit (2 ^ t.L) t.q xs) (h1 : Val t xs ys) (h2 : Bck t ys zs) : zs = xs :=
  lists_cg (by rw [h2.1.1, hx.1]) h2.1.2 hx.2 fun p hp => by
    have hp' : p < 2 ^ t.L := by rw [← h2.1.1]; exact hp
    exact (h2.2 p hp').trans ((idft_cg (fun j hj => h1.2 j hj) p).trans (idft_dft K.cw K.cuw K.cp (gt xs) hp'))
theorem bck_val {t : Tbl} (K : TblOk t) {xs ys zs : List Nat} (hx : Fit (2 ^ t.L) t.q xs) (h1 : Bck t xs ys) (h2 : Val t ys zs) : zs = xs :=
  lists_cg (by rw [h2.1.1, hx.1]) h2.1.2 hx.2 fun p hp => by
    have hp' : p < 2 ^ t.L := by rw [← h2.1.1]; exact hp
    exact (h2.2 p hp').trans ((dft_cg (fun j hj => h1.2 j hj) p).trans (dft_idft K.cw K.cuw K.cp (gt xs) hp'))

/-- A row cut to n words below q. -/
def cutL (xs : List Nat) (n q : Nat) : List Nat := (List.range n).map fun i => if i < xs.length then xs.getD i 0 % q else 0
theorem cutL_fit (xs : List Nat) {n q : Nat} (hq : 0 < q) : Fit n q (cutL xs n q) := ⟨by unfold cutL; simp, fun x hx => by
  unfold cutL at hx
  obtain ⟨i, -, rfl⟩ := List.mem_map.1 hx
  split
  · exact Nat.mod_lt _ hq
  · exact hq⟩
theorem cutL_get {xs : List Nat} {n q k : Nat} (hk : k < n) : (cutL xs n q)[k]? = some (if k < xs.length then xs.getD k 0 % q else 0) := by
  unfold cutL; rw [List.getElem?_map, List.getElem?_range hk]; rfl
end Go.Proofs.YtfgfmempmkjlnaaDoor

/- Walking rules: remainders of any kind of number. No condition. -/
namespace Go.Den
set_option linter.unusedVariables false
set_option maxRecDepth 8000
open Go Go.RowKit

section rules
variable {P : Program} {n : Nat} {Q : Post} {l : Fr} {h : Hp} {ops : List Oper} {Ch : Hp → Prop} {E : Nat → Bool} {i d : Nat} {x y : Operand}
theorem s_remU8 {a b : Nat} {t yt : TypeId} (hx : IsK (ev l x) .u8 a) (hy : IsK (ev l y) .u8 b) (hb : Nat.blt d n = true) (hn : 0 < b)
    (q : S P n ops Ch E Q (i + 1) ((d, .int .u8 ((a % b : Nat) : Int)) :: l) h) : O P n ops Ch E Q i d (.binOp .rem t x y yt) l h :=
  s_bin hx.h hy.h hb (fun w' => by
    show (Op.intDiv .rem .u8 (a : Int) (b : Int)).run P w' = _
    unfold Op.intDiv
    rw [if_neg (by omega)]
    show Result.ok (Value.int .u8 ((a : Int).tmod b)) w' = _
    rw [← Int.ofNat_tmod]) q
end rules
end Go.Den

/- The reference's test and check (that they answer at all), rows cut; the laws of package ntt. Condition of the laws: the table of math/bits reads as it is laid. -/
namespace Go.Proofs.YtfgfmempmkjlnaaDoor
set_option linter.unusedVariables false
set_option maxRecDepth 8000
open Go Go.Den Go.RowKit Go.Mth

theorem Tryd_ent75 : Ent Tryd.prog 75 := ent_of Tryd.func75 (by kernel_rfl) rfl
theorem strongW_spec (n a : Nat) (h : Hp) (hn : 2 ≤ n) (hn2 : n < 2305843009213693952) (ha : a < 18446744073709551616) :
    CallsH Tryd.prog 75 [U n, U a] h fun v' h' => (∃ b, v' = .bool b) ∧ h = h' := by
  (apply enter Tryd.func75 rfl Tryd.ntmps75 rfl)
  refine runJ ?_
  (first | (apply w_seqB; exact rfl; apply w_block; exact rfl) | skip)
  apply (w_loop (σ := Nat × Nat) rfl (fun j => [(0, U n), (1, U a), (5, U j.1), (6, N j.2)])
    (fun j h' => h = h' ∧ 1 ≤ j.1 ∧ j.1 + j.2 < n) (fun j => j.1) (n - 1, 0))
  · exact (Sub.cons rfl (Sub.cons rfl (Sub.cons rfl (Sub.cons rfl (Sub.nil _)))))
  · exact ⟨rfl, by dsimp only; omega, by dsimp only; omega⟩
  rintro ⟨d, s⟩ h' ⟨rfl, j1, j2⟩
  dsimp only at j1 j2 ⊢
  refine runJ ?_
  (apply w_condD; exact rfl; exact rfl) <;> intro hd
  · refine runJ ?_
    apply again_normal (d / 2, s + 1)
    · exact (Sub.cons rfl (Sub.cons rfl (Sub.cons rfl (Sub.cons rfl (Sub.nil _)))))
    · exact ⟨rfl, by dsimp only; omega, by dsimp only; omega⟩
    · dsimp only; omega
  refine runJ ?_
  apply (s_call Tryd_ent88 rfl rfl rfl)
  refine (refPow_spec a d n h ha (by omega) (by omega)).mono ?_
  rintro _ _ ⟨rfl, rfl⟩
  refine ⟨(by first | exact trivial | exact Ext.refl _ | assumption | exact Ext.trans (by assumption) (by assumption)), ?_⟩
  have hx : powm a d n < n := by unfold powm; rw [if_neg (by omega)]; exact Nat.mod_lt _ (by omega)
  generalize powm a d n = x at *
  refine runJ ?_
  (apply s_splitG; exact rfl; exact rfl; exact rfl; exact rfl) <;> intro g1
  · refine runJ ?_
    exact fin1 rfl rfl ⟨⟨_, rfl⟩, rfl⟩
  refine runJ ?_
  (apply w_condD; exact rfl; exact rfl) <;> intro g2
  · refine runJ ?_
    exact fin1 rfl rfl ⟨⟨_, rfl⟩, rfl⟩
  refine runJ ?_
  (first | (apply w_seqB; exact rfl; apply w_block; exact rfl) | skip)
  apply (w_loop (σ := Nat × Nat) rfl (fun j => [(0, U n), (6, N s), (7, U j.1), (8, N j.2)])
    (fun j h' => h = h' ∧ j.1 < n) (fun j => s - j.2) (x, 1))
  · exact (Sub.cons rfl (Sub.cons rfl (Sub.cons rfl (Sub.cons rfl (Sub.nil _)))))
  · exact ⟨rfl, hx⟩
  rintro ⟨y, i⟩ h' ⟨rfl, k1⟩
  dsimp only at k1 ⊢
  refine runJ ?_
  (apply w_condD; exact rfl; exact rfl) <;> intro hi
  · refine runJ ?_
    apply (s_call Tryd_ent19 rfl rfl rfl)
    refine (refMul_spec y y n h (by omega) (by omega) (by omega)).mono ?_
    rintro _ _ ⟨rfl, rfl⟩
    refine ⟨(by first | exact trivial | exact Ext.refl _ | assumption | exact Ext.trans (by assumption) (by assumption)), ?_⟩
    have hm : mulm y y n < n := mulm_lt (by omega)
    refine runJ ?_
    (apply w_condD; exact rfl; exact rfl) <;> intro hy
    · refine runJ ?_
      exact fin1 rfl rfl ⟨⟨_, rfl⟩, rfl⟩
    · refine runJ ?_
      apply again_normal (mulm y y n, i + 1)
      · exact (Sub.cons rfl (Sub.cons rfl (Sub.cons rfl (Sub.cons rfl (Sub.nil _)))))
      · exact ⟨rfl, hm⟩
      · dsimp only; omega
  · refine runJ ?_
    exact fin1 rfl rfl ⟨⟨_, rfl⟩, rfl⟩

theorem Tryd_ent50 : Ent Tryd.prog 50 := ent_of Tryd.func50 (by kernel_rfl) rfl
theorem refIsW_spec (n : Nat) (h : Hp) (hn2 : n < 2305843009213693952) :
    CallsH Tryd.prog 50 [U n] h fun v' h' => (∃ b, v' = .bool b) ∧ Ext h h' := by
  (apply enter Tryd.func50 rfl Tryd.ntmps50 rfl)
  refine runJ ?_
  (apply w_condD; exact rfl; exact rfl) <;> intro g1
  · refine runJ ?_
    exact fin1 rfl rfl ⟨⟨_, rfl⟩, Ext.refl _⟩
  refine runJ ?_
  (apply w_condD; exact rfl; exact rfl) <;> intro g2
  · refine runJ ?_
    (first | (apply w_seqB; exact rfl; apply w_block; exact rfl) | skip)
    apply (w_loop (σ := Nat) rfl (fun d => [(0, U n), (3, U d)])
      (fun d h' => h = h' ∧ 2 ≤ d ∧ d ≤ 65537) (fun d => 65537 - d) 2)
    · exact (Sub.cons rfl (Sub.cons rfl (Sub.nil _)))
    · exact ⟨rfl, by omega, by omega⟩
    rintro d h' ⟨rfl, d1, d2⟩
    have hdd : d * d ≤ 65537 * 65537 := Nat.mul_le_mul d2 d2
    have hdl : d ≤ d * d := Nat.le_mul_self d
    refine runJ ?_
    (apply w_condD; exact rfl; exact rfl) <;> intro hd
    · refine runJ ?_
      (apply w_condD; exact rfl; exact rfl) <;> intro hm
      · refine runJ ?_
        exact fin1 rfl rfl ⟨⟨_, rfl⟩, Ext.refl _⟩
      · refine runJ ?_
        apply again_normal (d + 1)
        · exact (Sub.cons rfl (Sub.cons rfl (Sub.nil _)))
        · exact ⟨rfl, by omega, by omega⟩
        · omega
    · refine runJ ?_
      exact fin1 rfl rfl ⟨⟨_, rfl⟩, Ext.refl _⟩
  refine runJ ?_
  (apply (s_litF (f := U) [2, 3, 5, 7, 11, 13, 17, 19, 23, 29, 31, 37] (fun _ => rfl)); exact rfl; exact rfl; exact rfl; exact rfl; exact rfl; exact rfl; exact rfl; exact rfl; omega)
  intro w h1 o1 e1 b1
  refine ⟨(by first | exact trivial | exact Ext.refl _ | assumption | exact Ext.trans (by assumption) (by assumption)), ?_⟩
  have s1 := o1.sl
  refine runJ ?_
  (first | (apply w_seqB; exact rfl; apply w_block; exact rfl) | skip)
  apply (w_loop (σ := Nat) rfl (fun j => [(0, U n), (21, w), (22, N 12), (23, N j)])
    (fun j h' => h1 = h' ∧ j ≤ 12) (fun j => 12 - j) 0)
  · exact (Sub.cons rfl (Sub.cons rfl (Sub.cons rfl (Sub.cons rfl (Sub.nil _)))))
  · exact ⟨rfl, by omega⟩
  rintro j h' ⟨rfl, j1⟩
  refine runJ ?_
  (apply w_condD; exact rfl; exact rfl) <;> intro hj
  · obtain ⟨a, ha⟩ := get_lt (l := [2, 3, 5, 7, 11, 13, 17, 19, 23, 29, 31, 37]) (j := j) hj
    have hal : 0 < a ∧ a < 100 := by
      have := List.mem_of_getElem? ha
      have hall : ∀ x ∈ [2, 3, 5, 7, 11, 13, 17, 19, 23, 29, 31, 37], 0 < x ∧ x < 100 := by decide
      exact hall a this
    refine runJ ?_
    (apply s_splitG; exact rfl; exact rfl; exact rfl; exact rfl) <;> intro g3
    · refine runJ ?_
      exact fin1 rfl rfl ⟨⟨_, rfl⟩, e1⟩
    refine runJ ?_
    apply (s_call Tryd_ent75 rfl rfl rfl)
    refine (strongW_spec n a h1 (by omega) hn2 (by omega)).mono ?_
    rintro _ _ ⟨⟨b, rfl⟩, rfl⟩
    refine ⟨(by first | exact trivial | exact trivial), ?_⟩
    refine runJ ?_
    (apply w_cond; exact rfl; exact rfl) <;> intro hb
    · refine runJ ?_
      exact fin1 rfl rfl ⟨⟨_, rfl⟩, e1⟩
    · refine runJ ?_
      apply again_normal (j + 1)
      · exact (Sub.cons rfl (Sub.cons rfl (Sub.cons rfl (Sub.cons rfl (Sub.nil _)))))
      · exact ⟨rfl, hj⟩
      · omega
  · refine runJ ?_
    exact fin1 rfl rfl ⟨⟨_, rfl⟩, e1⟩

theorem Tryd_ent49 : Ent Tryd.prog 49 := ent_of Tryd.func49 (by kernel_rfl) rfl
theorem refStepW_spec (n : Nat) (h : Hp) (hn2 : n < 18446744073709551616) :
    CallsH Tryd.prog 49 [U n] h fun v' h' => (∃ b, v' = .bool b) ∧ h = h' := by
  (apply enter Tryd.func49 rfl Tryd.ntmps49 rfl)
  refine runJ ?_
  (first | (apply w_seqB; exact rfl; apply w_block; exact rfl) | skip)
  apply (w_loop (σ := Nat) rfl (fun k => [(0, U n), (3, U k)])
    (fun k h' => h = h' ∧ 1 ≤ k ∧ k ≤ 16384) (fun k => 16385 - k) 2)
  · exact (Sub.cons rfl (Sub.cons rfl (Sub.nil _)))
  · exact ⟨rfl, by omega, by omega⟩
  rintro k h' ⟨rfl, k1, k2⟩
  refine runJ ?_
  (apply w_condD; exact rfl; exact rfl) <;> intro hk
  · refine runJ ?_
    (apply w_condD; exact rfl; exact rfl) <;> intro hd
    · refine runJ ?_
      exact fin1 rfl rfl ⟨⟨_, rfl⟩, rfl⟩
    · refine runJ ?_
      apply again_normal (2 * k)
      · exact (Sub.cons rfl (Sub.cons rfl (Sub.nil _)))
      · exact ⟨rfl, by omega, by omega⟩
      · omega
  · refine runJ ?_
    exact fin1 rfl rfl ⟨⟨_, rfl⟩, rfl⟩

theorem Tryd_ent13 : Ent Tryd.prog 13 := ent_of Tryd.func13 (by kernel_rfl) rfl
theorem refCheckW_spec (n q : Nat) (h : Hp) (hn : 1 ≤ n) (hn2 : n ≤ 4096) (hq : q < 18446744073709551616) :
    CallsH Tryd.prog 13 [N n, U q] h fun v' h' => (∃ e : Nat, v' = N e) ∧ Ext h h' := by
  (apply enter Tryd.func13 rfl Tryd.ntmps13 rfl)
  refine runJ ?_
  (apply s_splitG; exact rfl; exact rfl; exact rfl; exact rfl) <;> intro g1
  · refine runJ ?_
    exact fin1 rfl rfl ⟨⟨1, rfl⟩, Ext.refl _⟩
  refine runJ ?_
  (apply s_splitG; exact rfl; exact rfl; exact rfl; exact rfl) <;> intro g2
  · refine runJ ?_
    exact fin1 rfl rfl ⟨⟨1, rfl⟩, Ext.refl _⟩
  refine runJ ?_
  apply (s_call Tryd_ent49 rfl rfl rfl)
  refine (refStepW_spec n h (by omega)).mono ?_
  rintro _ _ ⟨⟨b, rfl⟩, rfl⟩
  refine ⟨(by first | exact trivial | exact trivial), ?_⟩
  refine runJ ?_
  (apply s_splitGB; exact rfl; exact rfl; exact rfl; exact rfl) <;> intro g3
  · refine runJ ?_
    exact fin1 rfl rfl ⟨⟨1, rfl⟩, Ext.refl _⟩
  refine runJ ?_
  (apply s_splitG; exact rfl; exact rfl; exact rfl; exact rfl) <;> intro g4
  · refine runJ ?_
    exact fin1 rfl rfl ⟨⟨1, rfl⟩, Ext.refl _⟩
  refine runJ ?_
  apply (s_call Tryd_ent50 rfl rfl rfl)
  refine (refIsW_spec q h (by omega)).mono ?_
  rintro _ h1 ⟨⟨b2, rfl⟩, e1⟩
  refine ⟨(by first | exact trivial | exact trivial), ?_⟩
  refine runJ ?_
  (apply s_splitGB; exact rfl; exact rfl; exact rfl; exact rfl) <;> intro g5
  · refine runJ ?_
    exact fin1 rfl rfl ⟨⟨1, rfl⟩, e1⟩
  refine runJ ?_
  (apply w_condD; exact rfl; exact rfl) <;> intro g6
  · refine runJ ?_
    exact fin1 rfl rfl ⟨⟨1, rfl⟩, e1⟩
  · refine runJ ?_
    exact fin1 rfl rfl ⟨⟨0, rfl⟩, e1⟩

theorem Tryd_ent14 : Ent Tryd.prog 14 := ent_of Tryd.func14 (by kernel_rfl) rfl
theorem cut_spec (va : Value) (xs : List Nat) (n q : Nat) (h : Hp) (s : SlF h U va xs) (hal : ∀ x ∈ xs, x < 18446744073709551616) (hl : xs.length < 9223372036854775808) (hn : n ≤ 4096) (hq : 0 < q) (hq2 : q < 18446744073709551616) :
    CallsH Tryd.prog 14 [va, N n, U q] h fun v' h' => Ext h h' ∧ OwnF h' h.size 24 U v' (cutL xs n q) := by
  (apply enter Tryd.func14 rfl Tryd.ntmps14 rfl)
  refine runJ ?_
  (apply (s_make (f := U) (bytes := 8) (0)); (first | exact isK_c | exact isK_t rfl); (first | exact isK_c | exact isK_t rfl); exact rfl; exact rfl; exact rfl; exact rfl; exact rfl; exact rfl; omega; omega; omega)
  intro w1 h1 o1 e1 b1
  refine ⟨(by first | exact trivial | exact Ext.refl _ | assumption | exact Ext.trans (by assumption) (by assumption)), ?_⟩
  have s1 := o1.sl
  refine runJ ?_
  simp only [List.length_replicate]
  (first | (apply w_seqB; exact rfl; apply w_block; exact rfl) | skip)
  apply (w_loop (σ := Nat × List Nat) rfl (fun j => [(0, va), (2, U q), (7, w1), (12, N n), (13, N j.1)])
    (fun j h' => Ext h h' ∧ j.1 ≤ n ∧ OwnF h' h.size 24 U w1 j.2 ∧ j.2.length = n ∧ ∀ (k y : Nat), j.2[k]? = some y → y = if k < j.1 then (if k < xs.length then xs.getD k 0 % q else 0) else 0) (fun j => n - j.1) (0, List.replicate n 0))
  · exact (Sub.consE rfl (by first | rfl | (refine congrArg I ?_; (try dsimp only); omega) | (refine congrArg Value.bool ?_; simp [*])) (Sub.consE rfl (by first | rfl | (refine congrArg I ?_; (try dsimp only); omega) | (refine congrArg Value.bool ?_; simp [*])) (Sub.consE rfl (by first | rfl | (refine congrArg I ?_; (try dsimp only); omega) | (refine congrArg Value.bool ?_; simp [*])) (Sub.consE rfl (by first | rfl | (refine congrArg I ?_; (try dsimp only); omega) | (refine congrArg Value.bool ?_; simp [*])) (Sub.consE rfl (by first | rfl | (refine congrArg I ?_; (try dsimp only); omega) | (refine congrArg Value.bool ?_; simp [*])) (Sub.nil _))))))
  · exact ⟨e1, Nat.zero_le _, o1, by simp, fun k y hy => by rw [if_neg (Nat.not_lt_zero _)]; have := List.mem_of_getElem? hy; simp at this; exact this.2⟩
  rintro ⟨j, ys⟩ h2 ⟨e2, j1, o2, j2, j3⟩
  dsimp only at e2 j1 o2 j2 j3 ⊢
  have s2 := s.ext e2
  clear s1 o1 b1
  refine runJ ?_
  (apply w_condD; exact rfl; exact rfl) <;> intro hj
  · have hjy : j < ys.length := by omega
    refine runJ ?_
    (apply w_condD; exact rfl; exact rfl) <;> intro hx
    · obtain ⟨x, hxj⟩ := get_lt hx
      have hx64 := hal x (List.mem_of_getElem? hxj)
      obtain ⟨r, hr⟩ : ∃ r, x % q = r := ⟨_, rfl⟩
      refine runJ ?_
      rw [hr]
      (apply (s_storeF (r)); exact rfl; exact rfl; exact rfl; exact rfl; exact rfl; exact o2; exact rfl; (first | assumption | omega))
      intro h3 o3 k3
      refine ⟨(by first | exact trivial | exact Ext.refl _ | assumption | exact Ext.trans (by assumption) (by assumption)), ?_⟩
      refine runJ ?_
      apply again_normal (j + 1, ys.set j r)
      · exact (Sub.cons rfl (Sub.cons rfl (Sub.cons rfl (Sub.cons rfl (Sub.cons rfl (Sub.nil _))))))
      · refine ⟨o2.old k3 e2 (Nat.le_refl _), hj, o3, by simp [j2], fun k y hy => ?_⟩
        dsimp only at hy ⊢
        rcases set_get hjy hy with ⟨rfl, rfl⟩ | ⟨hk, hy⟩
        · rw [if_pos (by omega), if_pos hx, getD_of hxj, hr]
        · rw [j3 k y hy]
          by_cases hkj : k < j
          · rw [if_pos hkj, if_pos (show k < j + 1 by omega)]
          · rw [if_neg hkj, if_neg (show ¬ k < j + 1 by omega)]
      · dsimp only; omega
    · refine runJ ?_
      apply again_normal (j + 1, ys)
      · exact (Sub.cons rfl (Sub.cons rfl (Sub.cons rfl (Sub.cons rfl (Sub.cons rfl (Sub.nil _))))))
      · refine ⟨e2, hj, o2, j2, fun k y hy => ?_⟩
        dsimp only at hy ⊢
        rw [j3 k y hy]
        by_cases hkj : k < j
        · rw [if_pos hkj, if_pos (show k < j + 1 by omega)]
        · rw [if_neg hkj]
          by_cases hk2 : k < j + 1
          · rw [if_pos hk2, if_neg (by omega)]
          · rw [if_neg hk2]
      · dsimp only; omega
  · have hjn : j = n := by omega
    have hys : ys = cutL xs n q := by
      refine list_eq (by rw [(cutL_fit xs hq).1, j2]) fun k a b ha hb => ?_
      have hk := (List.getElem?_eq_some_iff.1 ha).1
      rw [j3 k a ha, if_pos (by omega)]
      rw [cutL_get (by omega)] at hb
      exact Option.some.inj hb
    subst hys
    refine runJ ?_
    exact fin1 rfl rfl ⟨e2, o2⟩
end Go.Proofs.YtfgfmempmkjlnaaDoor

/- The law NttBack. Condition: the table of math/bits reads as it is laid. -/
namespace Go.Proofs.YtfgfmempmkjlnaaDoor
set_option linter.unusedVariables false
set_option maxRecDepth 8000
open Go Go.Den Go.RowKit Go.Mth Go.Dig


theorem Tryd_ent3 : Ent Tryd.prog 3 := ent_of Tryd.func3 (by kernel_rfl) rfl
set_option maxHeartbeats 2000000 in
theorem nttBack_law (k : Nat) (va : Value) (xs : List Nat) (h : Hp) (T : TB h) (s : SlF h U va xs) (hal : Al 18446744073709551616 xs) (hl : xs.length < 9223372036854775808) :
    CallsH Tryd.prog 3 [.int .u8 (k : Int), va] h fun v' h' => v' = .bool true ∧ Ext h h' := by
  obtain ⟨r, hr⟩ : ∃ r, k % 9 = r := ⟨_, rfl⟩
  have hr9 : r < 9 := by omega
  obtain ⟨q, X, hq3, hq, hq1, hB, hqm, hX, hX2, hx⟩ := prime3 hr9
  have hm3 : r % 3 = k % 3 := by omega
  have hp2 : 2 ^ r ≤ 2 ^ 8 := Nat.pow_le_pow_right (by decide) (by omega)
  have hp0 : 0 < 2 ^ r := Nat.two_pow_pos _
  have NW := fun h T => nttNew_spec (r + 1) q X h T (by omega) (by omega) hq hqm hq1 hB hX hX2 hx
  rw [hm3] at hq3
  have e2 : 2 ^ (r + 1) = 2 * 2 ^ r := by rw [Nat.pow_succ, Nat.mul_comm]
  have hNL : ∀ L, L = r + 1 → 2 ^ L = 2 * 2 ^ r := fun L hL => by rw [hL, e2]
  rw [e2] at NW
  have hq3 : [12289, 40961, 1152921504606830593][k % 3]? = some q := hq3
  (apply enter Tryd.func3 rfl Tryd.ntmps3 rfl)
  refine runJ ?_
  apply (s_call Tryd_ent11 rfl rfl rfl)
  refine (fixed04_spec h T).mono ?_
  rintro _ h1 ⟨rfl, e1⟩
  refine ⟨(by first | exact trivial | exact trivial), ?_⟩
  have s1 := s.ext e1
  refine runJ ?_
  apply s_remU8 (isK_t rfl) isK_c rfl (by decide)
  rw [hr]
  refine runJ ?_
  (apply (s_litF (f := U) [12289, 40961, 1152921504606830593] (fun _ => rfl)); exact rfl; exact rfl; exact rfl; exact rfl; exact rfl; exact rfl; exact rfl; exact rfl; omega)
  intro w2 h2 o2 e12 b2
  refine ⟨(by first | exact trivial | exact Ext.refl _ | assumption | exact Ext.trans (by assumption) (by assumption)), ?_⟩
  have s2 := o2.sl
  refine runJ ?_
  apply s_remU8 (isK_t rfl) isK_c rfl (by decide)
  refine runJ ?_
  have e02 := e1.trans e12
  apply (s_call Tryd_ent12 rfl rfl rfl)
  refine (NW h2 (T.ext e02)).mono ?_
  rintro _ h3 ⟨e3, g, t, rfl, A, K, hL, hqt, -⟩
  refine ⟨(by first | exact trivial | exact trivial), ?_⟩
  have e03 := e02.trans e3
  have s3 := s.ext e03
  have hN := hNL _ hL
  subst hqt
  refine runJ ?_
  (apply w_condD; exact rfl; exact rfl) <;> intro hlen
  · refine runJ ?_
    apply (s_call Tryd_ent13 rfl rfl rfl)
    refine (refCheckW_spec (2 * 2 ^ r) t.q h3 (by omega) (by omega) (by omega)).mono ?_
    rintro _ h4 ⟨⟨e, rfl⟩, e4⟩
    refine ⟨(by first | exact trivial | exact trivial), ?_⟩
    refine runJ ?_
    (apply s_splitG; exact rfl; exact rfl; exact rfl; exact rfl) <;> intro he
    · refine runJ ?_
      exact fin1 rfl rfl ⟨rfl, e03.trans e4⟩
    · refine runJ ?_
      exact fin1 rfl rfl ⟨(dec_t hlen).symm, e03.trans e4⟩
  · refine runJ ?_
    have hq0 : 0 < t.q := by omega
    have CU := cut_spec va xs (2 * 2 ^ r) t.q h3 s3 hal hl (by omega) hq0 (by omega)
    have hF : Fit (2 ^ t.L) t.q (cutL xs (2 * 2 ^ r) t.q) := by rw [hN]; exact cutL_fit xs hq0
    generalize hcu : cutL xs (2 * 2 ^ r) t.q = x at *
    have hxl : x.length < 9223372036854775808 := by have h1 := hF.1; rw [hN] at h1; omega
    have Vv := fun h v ys A s f => values_spec g v t ys h K A s f
    have Bb := fun h v ys A s f => back_spec g v t ys h K A s f
    apply (s_call Tryd_ent14 rfl rfl rfl)
    refine (CU).mono ?_
    rintro w4 h4 ⟨e4, o4⟩
    refine ⟨(by first | exact trivial | exact trivial), ?_⟩
    have A4 := A.ext e4
    have s4 := o4.sl
    refine runJ ?_
    apply (s_call Tryd_ent15 rfl rfl rfl)
    refine (Vv h4 w4 x A4 s4 hF).mono ?_
    rintro _ h5 ⟨e5, w5, vs, rfl, o5, V5⟩
    refine ⟨(by first | exact trivial | exact trivial), ?_⟩
    have A5 := A4.ext e5
    have s45 := s4.ext e5
    refine runJ ?_
    apply (s_call Tryd_ent16 rfl rfl rfl)
    refine (Bb h5 w5 vs A5 o5.sl V5.1).mono ?_
    rintro _ h6 ⟨e6, w6, bs, rfl, o6, B6⟩
    refine ⟨(by first | exact trivial | exact trivial), ?_⟩
    have A6 := A5.ext e6
    have s46 := s45.ext e6
    obtain rfl : bs = x := val_bck K hF V5 B6
    refine runJ ?_
    apply (s_call Tryd_ent16 rfl rfl rfl)
    refine (Bb h6 w4 bs A6 s46 hF).mono ?_
    rintro _ h7 ⟨e7, w7, us, rfl, o7, B7⟩
    refine ⟨(by first | exact trivial | exact trivial), ?_⟩
    have A7 := A6.ext e7
    have s47 := s46.ext e7
    refine runJ ?_
    apply (s_call Tryd_ent15 rfl rfl rfl)
    refine (Vv h7 w7 us A7 o7.sl B7.1).mono ?_
    rintro _ h8 ⟨e8, w8, ws, rfl, o8, V8⟩
    refine ⟨(by first | exact trivial | exact trivial), ?_⟩
    have s48 := s47.ext e8
    obtain rfl : ws = bs := bck_val K hF B7 V8
    have e48 := ((e5.trans e6).trans e7).trans e8
    refine runJ ?_
    apply (s_call Tryd_ent17 rfl rfl rfl)
    refine (sameU9_spec w6 w4 ws ws h8 ((o6.sl.ext e7).ext e8) s48 hxl hxl).mono ?_
    rintro _ _ ⟨rfl, rfl⟩
    refine ⟨(by first | exact trivial | exact Ext.refl _ | assumption | exact Ext.trans (by assumption) (by assumption)), ?_⟩
    rw [decide_eq_true rfl]
    refine runJ ?_
    apply (s_call Tryd_ent17 rfl rfl rfl)
    refine (sameU9_spec w8 w4 ws ws h8 o8.sl s48 hxl hxl).mono ?_
    rintro _ _ ⟨rfl, rfl⟩
    refine ⟨(by first | exact trivial | exact Ext.refl _ | assumption | exact Ext.trans (by assumption) (by assumption)), ?_⟩
    rw [decide_eq_true rfl]
    refine runJ ?_
    exact fin1 rfl rfl ⟨rfl, (e03.trans e4).trans e48⟩
end Go.Proofs.YtfgfmempmkjlnaaDoor
