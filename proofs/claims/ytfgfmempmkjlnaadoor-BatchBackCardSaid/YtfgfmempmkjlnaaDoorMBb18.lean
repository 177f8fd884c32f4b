/- Texts ParC to RngB of this work, joined: each says in its own head what it proves, and of which condition. -/
import Derived.Test.YtfgfmempmkjlnaaDoorMBb17
/- Package param: the fixed calls, and the laws of steps and rows. Condition: the table of math/bits reads as it is laid. -/
namespace Go.Proofs.YtfgfmempmkjlnaaDoor
set_option linter.unusedVariables false
set_option maxRecDepth 8000
open Go Go.Den Go.RowKit Go.Dig

/-- Parameters whose row may be as long as any. -/
structure ParA0 (h : Hp) (p : ParD) : Prop where mk ::
  row : SlF h U p.vq p.q
  al : Al 18446744073709551616 p.q
  t64 : p.t < 18446744073709551616
  ln : p.q.length < 9223372036854775808

theorem par97 (w : Value) : parP ⟨8, 17, w, [97, 193], 2⟩ := (by decide +kernel : parP ⟨8, 17, .bool false, [97, 193], 2⟩)
theorem par0 (w : Value) : ¬ parP ⟨0, 0, w, [], 0⟩ := (by decide +kernel : ¬ parP ⟨0, 0, .bool false, [], 0⟩)
theorem lev97 (w : Value) : levE ⟨8, 17, w, [97, 193], 2⟩ 1 = 0 := by unfold levE; rw [if_pos (par97 w)]; rfl
theorem levM97 (w : Value) : levM ⟨8, 17, w, [97, 193], 2⟩ 1 = 18721 := rfl

theorem levE_par {p : ParD} {l : Int} (h : levE p l = 0) : parP p ∧ 0 ≤ l ∧ l < p.q.length := by
  unfold levE at h
  by_cases hp : parP p
  · rw [if_pos hp] at h
    by_cases hl : l < 0 ∨ (p.q.length : Int) ≤ l
    · rw [if_pos hl] at h; omega
    · exact ⟨hp, by omega, by omega⟩
  · rw [if_neg hp] at h; omega
theorem par_t {p : ParD} (hp : parP p) : 0 < p.t := by
  have := hp.2.1.2.1
  by_cases e : p.t = 0
  · rw [e, Nat.zero_mod] at this; omega
  · omega
theorem levM_len {p : ParD} {l : Int} (hp : parP p) (A : Al 18446744073709551616 p.q) : (dg 18446744073709551616 (levM p l)).length ≤ 9 := by
  have h1 := dg_len (b := 18446744073709551616) (n := levM p l) (k := (p.q.take (l.toNat + 1)).length + 1) (by decide) (prodL_lt (al_take A _))
  have h2 := hp.2.2.1.2.2.2
  rw [List.length_take] at h1
  omega

theorem levE_top {p : ParD} (hp : parP p) {m : Nat} (hm : m < p.q.length) : levE p (m : Int) = 0 := by
  unfold levE
  rw [if_pos hp, if_neg (by omega)]
theorem levM_all {p : ParD} {m : Nat} (hm : m + 1 = p.q.length) : levM p (m : Int) = prodL p.q := by
  unfold levM
  rw [Int.toNat_natCast, hm, List.take_length]
theorem levM_step {p : ParD} {m q : Nat} (hq : p.q[m + 1]? = some q) : levM p ((m + 1 : Nat) : Int) = levM p (m : Int) * q := by
  unfold levM
  rw [Int.toNat_natCast, Int.toNat_natCast, take_snoc hq, prodL_snoc]

end Go.Proofs.YtfgfmempmkjlnaaDoor

/- Package param: parameters compared, and the law of it. Condition of the fixed calls: the table of math/bits reads as it is laid. -/
namespace Go.Proofs.YtfgfmempmkjlnaaDoor
set_option linter.unusedVariables false
set_option maxRecDepth 8000
open Go Go.Den Go.RowKit Go.Dig

/-- What the closure 'rest' makes of parameters. -/
def restL (p : ParD) : List Int := [p.n, IntKind.i64.wrap p.t, p.w]
def sameP (a b : ParD) : Prop := a.n = b.n ∧ a.t = b.t ∧ a.w = b.w ∧ a.q = b.q
instance (a b : ParD) : Decidable (sameP a b) := by unfold sameP; exact inferInstance
theorem wrap_inj {a b : Nat} (ha : a < 18446744073709551616) (hb : b < 18446744073709551616) (h : IntKind.i64.wrap a = IntKind.i64.wrap b) : a = b := by
  rw [IntKind.wrap_i64, IntKind.wrap_i64] at h
  omega
theorem restL_eq {a b : ParD} (ha : a.t < 18446744073709551616) (hb : b.t < 18446744073709551616) : restL a = restL b ↔ (a.n = b.n ∧ a.t = b.t ∧ a.w = b.w) := by
  unfold restL
  constructor
  · intro h
    simp only [List.cons.injEq, and_true] at h
    exact ⟨h.1, wrap_inj ha hb h.2.1, h.2.2⟩
  · rintro ⟨h1, h2, h3⟩
    rw [h1, h2, h3]

theorem sameU9_spec (va vb : Value) (xs ys : List Nat) (h : Hp) (ha : SlF h U va xs) (hb : SlF h U vb ys) (hl : xs.length < 9223372036854775808) (hl2 : ys.length < 9223372036854775808) :
    CallsH Tryd.prog 17 [va, vb] h fun v' h' => v' = .bool (decide (xs = ys)) ∧ h = h' := by
  (apply enter Tryd.func17 rfl Tryd.ntmps17 rfl)
  refine runJ ?_
  (apply w_condD; exact rfl; exact rfl) <;> intro hne
  · refine runJ ?_
    exact fin1 rfl rfl ⟨dec_f (fun e => hne (by rw [e])), rfl⟩
  have hle : xs.length = ys.length := by omega
  refine runJ ?_
  (first | (apply w_seqB; exact rfl; apply w_block; exact rfl) | skip)
  apply (w_loop (σ := Nat) rfl (fun j => [(0, va), (1, vb), (12, N xs.length), (13, N j)])
    (fun j h' => h = h' ∧ j ≤ xs.length ∧ ∀ (i : Nat) (x y : Nat), i < j → xs[i]? = some x → ys[i]? = some y → x = y) (fun j => xs.length - j) 0)
  · exact (Sub.cons rfl (Sub.cons rfl (Sub.cons rfl (Sub.cons rfl (Sub.nil _)))))
  · exact ⟨rfl, Nat.zero_le _, fun i x y hi => by omega⟩
  rintro j h' ⟨rfl, j1, j2⟩
  refine runJ ?_
  (apply w_condD; exact rfl; exact rfl) <;> intro hj
  · obtain ⟨x, hx⟩ := get_lt hj
    obtain ⟨y, hy⟩ := get_lt (l := ys) (j := j) (by omega)
    refine runJ ?_
    (apply w_condD; exact rfl; exact rfl) <;> intro hd
    · refine runJ ?_
      exact fin1 rfl rfl ⟨dec_f (list_ne hx hy hd), rfl⟩
    · refine runJ ?_
      apply again_normal (j + 1)
      · exact (Sub.cons rfl (Sub.cons rfl (Sub.cons rfl (Sub.cons rfl (Sub.nil _)))))
      · refine ⟨rfl, hj, fun i x' y' hi hx' hy' => ?_⟩
        rcases Nat.lt_succ_iff_lt_or_eq.1 hi with hi | rfl
        · exact j2 i x' y' hi hx' hy'
        · rw [hx] at hx'; rw [hy] at hy'; cases hx'; cases hy'; exact Decidable.of_not_not hd
      · omega
  · refine runJ ?_
    exact fin1 rfl rfl ⟨dec_t (list_eq hle fun i x y hx hy => j2 i x y (by have := (List.getElem?_eq_some_iff.1 hx).1; omega) hx hy), rfl⟩

theorem sameP_comm (a b : ParD) : decide (sameP b a) = decide (sameP a b) := by
  rw [decide_eq_decide]
  unfold sameP
  constructor <;> rintro ⟨h1, h2, h3, h4⟩ <;> exact ⟨h1.symm, h2.symm, h3.symm, h4.symm⟩
theorem ParA0.ext {h h' : Hp} {p : ParD} (s : ParA0 h p) (e : Ext h h') : ParA0 h' p := ⟨s.row.ext e, s.al, s.t64, s.ln⟩

end Go.Proofs.YtfgfmempmkjlnaaDoor

/- Package ntt: no table at all; the fixed calls; the law NttNil. Condition: the table of math/bits reads as it is laid. -/
namespace Go.Proofs.YtfgfmempmkjlnaaDoor
set_option linter.unusedVariables false
set_option maxRecDepth 8000
open Go Go.Den Go.RowKit Go.Mth

theorem values_nil (va : Value) (h : Hp) : CallsH Tryd.prog 15 [.pointer none, va] h fun v' h' => v' = .tuple #[.slice none 0 0, N 1] ∧ h = h' := by
  (apply enter Tryd.func15 rfl Tryd.ntmps15 rfl)
  refine runJ ?_
  exact fin2 rfl rfl rfl ⟨rfl, rfl⟩
theorem back_nil (va : Value) (h : Hp) : CallsH Tryd.prog 16 [.pointer none, va] h fun v' h' => v' = .tuple #[.slice none 0 0, N 1] ∧ h = h' := by
  (apply enter Tryd.func16 rfl Tryd.ntmps16 rfl)
  refine runJ ?_
  exact fin2 rfl rfl rfl ⟨rfl, rfl⟩
theorem nttMul_nil (va vb : Value) (h : Hp) : CallsH Tryd.prog 18 [.pointer none, va, vb] h fun v' h' => v' = .tuple #[.slice none 0 0, N 1] ∧ h = h' := by
  (apply enter Tryd.func18 rfl Tryd.ntmps18 rfl)
  refine runJ ?_
  refine s_callV rfl Tryd_ent15 rfl rfl rfl ?_
  refine (values_nil va h).mono ?_
  rintro _ _ ⟨rfl, rfl⟩
  refine ⟨(by first | exact trivial | exact trivial), ?_⟩
  refine runJ ?_
  exact fin2 rfl rfl rfl ⟨rfl, rfl⟩

theorem dft_inj {t : Tbl} (K : TblOk t) {xs ys : List Nat} (hx : Fit (2 ^ t.L) t.q xs) (hy : Fit (2 ^ t.L) t.q ys) (h : ∀ k, k < 2 ^ t.L → Cg t.q (dft (2 ^ t.L) t.w (gt xs) k) (dft (2 ^ t.L) t.w (gt ys) k)) : xs = ys :=
  lists_cg (by rw [hx.1, hy.1]) hx.2 hy.2 fun p hp => by
    have hp' : p < 2 ^ t.L := by rw [← hx.1]; exact hp
    have h1 := idft_dft K.cw K.cuw K.cp (gt xs) hp'
    have h2 := idft_dft K.cw K.cuw K.cp (gt ys) hp'
    exact h1.symm.trans ((idft_cg (fun j hj => h j hj) p).trans h2)
theorem val_eq {t : Tbl} {xs ys zs : List Nat} (h : Val t xs ys) (hz : Fit (2 ^ t.L) t.q zs) (e : ∀ k, k < 2 ^ t.L → Cg t.q (gt zs k) (dft (2 ^ t.L) t.w (gt xs) k)) : ys = zs :=
  lists_cg (by rw [h.1.1, hz.1]) h.1.2 hz.2 fun p hp => (h.2 p (by rw [← h.1.1]; exact hp)).trans (e p (by rw [← h.1.1]; exact hp)).symm
theorem prd_eq {t : Tbl} (K : TblOk t) {xs ys rs zs : List Nat} (h : Prd t xs ys rs) (hz : Fit (2 ^ t.L) t.q zs) (e : ∀ k, k < 2 ^ t.L → Cg t.q (dft (2 ^ t.L) t.w (gt zs) k) (dft (2 ^ t.L) t.w (gt xs) k * dft (2 ^ t.L) t.w (gt ys) k)) : rs = zs :=
  dft_inj K h.1 hz fun k hk => (h.2 k hk).trans (e k hk).symm

theorem root5 {r : Nat} (h : RootR 5 4 r) : r = 2 := by
  obtain ⟨hr, w, hw, hp, ⟨j, hj, rfl⟩, hall⟩ := h
  have h0 := hall 0 (by decide)
  have h1 := hall 1 (by decide)
  have key : ∀ w, w < 5 → powm w (4 / 2) 5 = 5 - 1 → ∀ j, j < 4 / 2 → w ^ (2 * j + 1) % 5 ≤ w ^ (2 * 0 + 1) % 5 → w ^ (2 * j + 1) % 5 ≤ w ^ (2 * 1 + 1) % 5 → w ^ (2 * j + 1) % 5 = 2 := by decide
  exact key w hw hp j hj h0 h1
theorem isB5 : isB 5 = true := by decide +kernel
theorem cgd {q : Nat} {a b : Int} (h : (a - b) % (q : Int) = 0) : Cg q a b := ⟨(a - b) / q, by have := Int.emod_add_mul_ediv (a - b) q; omega⟩

theorem Tryd_ent11 : Ent Tryd.prog 11 := ent_of Tryd.func11 (by kernel_rfl) rfl
set_option maxHeartbeats 1000000 in
theorem fixed04_spec (h : Hp) (T : TB h) : CallsH Tryd.prog 11 [] h fun v' h' => v' = .bool true ∧ Ext h h' := by
  have NW := nttNew_spec 1 5 2 h T (by decide) (by decide) (by decide) (by decide) (by decide) isB5 (by decide) (by decide) (by decide)
  (apply enter Tryd.func11 rfl Tryd.ntmps11 rfl)
  refine runJ ?_
  apply (s_call Tryd_ent12 rfl rfl rfl)
  refine (NW).mono ?_
  rintro _ h1 ⟨e1, g, t, rfl, A, K, hL, hq, hR⟩
  refine ⟨(by first | exact trivial | exact trivial), ?_⟩
  have hw := root5 hR
  obtain ⟨L, q, w, u, p, vr, vu⟩ := t
  dsimp only at hL hq hw
  subst hL hq hw
  refine runJ ?_
  (apply (s_litF (f := U) [1, 1] (fun _ => rfl)); exact rfl; exact rfl; exact rfl; exact rfl; exact rfl; exact rfl; exact rfl; exact rfl; omega)
  intro w2 h2 o2 e2 b2
  refine ⟨(by first | exact trivial | exact Ext.refl _ | assumption | exact Ext.trans (by assumption) (by assumption)), ?_⟩
  have V := fun h s A => values_spec g w2 _ [1, 1] h K A s (by dsimp only; decide)
  refine runJ ?_
  apply (s_call Tryd_ent15 rfl rfl rfl)
  refine (V h2 o2.sl (A.ext e2)).mono ?_
  rintro _ h3 ⟨e3, r3, ys, rfl, o3, V3⟩
  refine ⟨(by first | exact trivial | exact trivial), ?_⟩
  obtain rfl : ys = [3, 4] := val_eq V3 (by dsimp only; decide) (by
    intro k hk
    rcases (show k = 0 ∨ k = 1 by change k < 2 at hk; omega) with rfl | rfl <;> exact cgd (by dsimp only; decide))
  refine runJ ?_
  (apply (s_litF (f := U) [0, 1] (fun _ => rfl)); exact rfl; exact rfl; exact rfl; exact rfl; exact rfl; exact rfl; exact rfl; exact rfl; omega)
  intro w4 h4 o4 e4 b4
  refine ⟨(by first | exact trivial | exact Ext.refl _ | assumption | exact Ext.trans (by assumption) (by assumption)), ?_⟩
  refine runJ ?_
  (apply (s_litF (f := U) [0, 1] (fun _ => rfl)); exact rfl; exact rfl; exact rfl; exact rfl; exact rfl; exact rfl; exact rfl; exact rfl; omega)
  intro w5 h5 o5 e5 b5
  refine ⟨(by first | exact trivial | exact Ext.refl _ | assumption | exact Ext.trans (by assumption) (by assumption)), ?_⟩
  have A5 := ((((A.ext e2).ext e3).ext e4).ext e5)
  have M := nttMul_spec g w4 w5 _ [0, 1] [0, 1] h5 K A5 (o4.sl.ext e5) o5.sl (by dsimp only; decide) (by dsimp only; decide)
  refine runJ ?_
  apply (s_call Tryd_ent18 rfl rfl rfl)
  refine (M).mono ?_
  rintro _ h6 ⟨e6, r6, rs, rfl, o6, P6⟩
  refine ⟨(by first | exact trivial | exact trivial), ?_⟩
  obtain rfl : rs = [4, 0] := prd_eq K P6 (by dsimp only; decide) (by
    intro k hk
    rcases (show k = 0 ∨ k = 1 by change k < 2 at hk; omega) with rfl | rfl <;> exact cgd (by dsimp only; decide))
  have e36 := (e4.trans e5).trans e6
  refine runJ ?_
  (apply (s_litF (f := U) [3, 4] (fun _ => rfl)); exact rfl; exact rfl; exact rfl; exact rfl; exact rfl; exact rfl; exact rfl; exact rfl; omega)
  intro w7 h7 o7 e7 b7
  refine ⟨(by first | exact trivial | exact Ext.refl _ | assumption | exact Ext.trans (by assumption) (by assumption)), ?_⟩
  refine runJ ?_
  apply (s_call Tryd_ent17 rfl rfl rfl)
  refine (sameU9_spec r3 w7 [3, 4] [3, 4] h7 ((o3.sl.ext e36).ext e7) o7.sl (by decide) (by decide)).mono ?_
  rintro _ _ ⟨rfl, rfl⟩
  refine ⟨(by first | exact trivial | exact Ext.refl _ | assumption | exact Ext.trans (by assumption) (by assumption)), ?_⟩
  refine runJ ?_
  (apply (s_litF (f := U) [4, 0] (fun _ => rfl)); exact rfl; exact rfl; exact rfl; exact rfl; exact rfl; exact rfl; exact rfl; exact rfl; omega)
  intro w8 h8 o8 e8 b8
  refine ⟨(by first | exact trivial | exact Ext.refl _ | assumption | exact Ext.trans (by assumption) (by assumption)), ?_⟩
  refine runJ ?_
  apply (s_call Tryd_ent17 rfl rfl rfl)
  refine (sameU9_spec r6 w8 [4, 0] [4, 0] h8 ((o6.sl.ext e7).ext e8) o8.sl (by decide) (by decide)).mono ?_
  rintro _ _ ⟨rfl, rfl⟩
  refine ⟨(by first | exact trivial | exact Ext.refl _ | assumption | exact Ext.trans (by assumption) (by assumption)), ?_⟩
  refine runJ ?_
  exact fin1 rfl rfl ⟨rfl, (((e1.trans e2).trans e3).trans e36).trans (e7.trans e8)⟩

theorem Tryd_ent5 : Ent Tryd.prog 5 := ent_of Tryd.func5 (by kernel_rfl) rfl
theorem nttNil_law (va : Value) (xs : List Nat) (h : Hp) (T : TB h) (s : SlF h U va xs) :
    CallsH Tryd.prog 5 [va] h fun v' h' => v' = .bool true ∧ Ext h h' := by
  (apply enter Tryd.func5 rfl Tryd.ntmps5 rfl)
  refine runJ ?_
  apply (s_call Tryd_ent11 rfl rfl rfl)
  refine (fixed04_spec h T).mono ?_
  rintro _ h1 ⟨rfl, e1⟩
  refine ⟨(by first | exact trivial | exact trivial), ?_⟩
  refine runJ ?_
  apply (s_call Tryd_ent15 rfl rfl rfl)
  refine (values_nil va h1).mono ?_
  rintro _ _ ⟨rfl, rfl⟩
  refine ⟨(by first | exact trivial | exact trivial), ?_⟩
  refine runJ ?_
  apply (s_call Tryd_ent16 rfl rfl rfl)
  refine (back_nil va h1).mono ?_
  rintro _ _ ⟨rfl, rfl⟩
  refine ⟨(by first | exact trivial | exact trivial), ?_⟩
  refine runJ ?_
  apply (s_call Tryd_ent18 rfl rfl rfl)
  refine (nttMul_nil va va h1).mono ?_
  rintro _ _ ⟨rfl, rfl⟩
  refine ⟨(by first | exact trivial | exact trivial), ?_⟩
  have sn := SlF.nil h1 U
  refine runJ ?_
  simp only [List.length_nil]
  refine runJ ?_
  simp only [List.length_nil]
  refine runJ ?_
  exact fin1 rfl rfl ⟨rfl, e1⟩
end Go.Proofs.YtfgfmempmkjlnaaDoor

/- Package ring: what a ring holds, and how it is made. Condition: the table of math/bits reads as it is laid. -/
namespace Go.Proofs.YtfgfmempmkjlnaaDoor
set_option linter.unusedVariables false
set_option maxRecDepth 8000
open Go Go.Den Go.RowKit Go.Mth Go.Dig

theorem Tryd_ent66 : Ent Tryd.prog 66 := ent_of Tryd.func66 (by kernel_rfl) rfl
theorem clone_spec (v : Value) (xs : List Nat) (h : Hp) (s : SlF h U v xs) (hl : xs.length < 1000000) :
    CallsH Tryd.prog 66 [v] h fun v' h' => Ext h h' ∧ OwnF h' h.size 24 U v' xs := by
  (apply enter Tryd.func66 rfl Tryd.ntmps66 rfl)
  refine runH ?_
  (apply w_cond; exact rfl; exact rfl) <;> intro hn
  · obtain ⟨rfl, rfl⟩ := s.nilE hn
    refine runH ?_
    exact fin1 rfl rfl ⟨Ext.refl _, OwnF.nil _ _ _ _⟩
  · refine runH ?_
    (apply (s_litF (f := U) [] (fun _ => rfl)); exact rfl; exact rfl; exact rfl; exact rfl; exact rfl; exact rfl; exact rfl; exact rfl; omega)
    intro w h1 o1 e1 b1
    refine ⟨(by first | exact trivial | exact Ext.refl _ | assumption | exact Ext.trans (by assumption) (by assumption)), ?_⟩
    have s1 := s.ext e1
    refine runH ?_
    (apply (s_appendF (bytes := 8)); exact rfl; exact rfl; exact rfl; exact rfl; exact rfl; exact rfl; exact rfl; exact o1; exact s1; exact fun _ => rfl; (first | exact Nat.le_refl _ | exact ext_size (by assumption) | omega); ((try simp only [maxLen]); (try simp only [List.length_nil]); (try simp only [List.length_append]); omega); ((try simp only [List.length_nil]); (try simp only [List.length_append]); omega))
    intro w2 h2 o2 k2 b2
    refine ⟨(by first | exact trivial | exact Ext.refl _ | assumption | exact Ext.trans (by assumption) (by assumption)), ?_⟩
    refine runH ?_
    exact fin1 rfl rfl ⟨k2.old e1 fun j hj => by rw [b1] at hj; cases hj; exact Nat.le_refl _, o2⟩

/-- A prime that serves a ring of that size. -/
structure QOk (L q : Nat) : Prop where mk ::
  q61 : q < 2305843009213693952
  qm : q % (2 * 2 ^ L) = 1
  q1 : 1 < q
  is : isB q = true
  root : ∃ X, 2 ≤ X ∧ X < 18446744073709551615 ∧ powm (powm X ((q - 1) / 2 ^ (L + 1)) q) (2 ^ (L + 1) / 2) q = q - 1

/-- A table that lies in other blocks than that one. -/
structure TblSep (r : Option Nat) (x : Value × Tbl) : Prop where mk ::
  p : pblk x.1 ≠ r
  vr : x.2.vr.ownBlock = none ∨ x.2.vr.ownBlock ≠ r
  vu : x.2.vu.ownBlock = none ∨ x.2.vu.ownBlock ≠ r
theorem TblAt.only {h h' : Hp} {g : Value} {t : Tbl} {r : Option Nat} (s : TblAt h g t) (k : Only r h h') (e : TblSep r (g, t)) : TblAt h' g t := ⟨s.var.only k e.p, s.rr.only k e.vr, s.ru.only k e.vu⟩
theorem TblAt.lt {h : Hp} {g : Value} {t : Tbl} (K : TblOk t) (s : TblAt h g t) {b : Nat} (hb : h.size ≤ b) : TblSep (some b) (g, t) := by
  have hn := K.size
  have hp : ∀ w, 0 < (pows w t.q (2 ^ t.L)).length := fun w => by rw [pows_len]; omega
  refine ⟨?_, ?_, ?_⟩
  · obtain ⟨j, hj, hl⟩ := s.var.blk
    dsimp only
    rw [hj]; intro e; cases e; omega
  · cases hv : t.vr.ownBlock with
    | none => exact .inl rfl
    | some j =>
      refine .inr fun e => ?_
      cases e
      have := s.rr.lt (hp _) _ hv; omega
  · cases hv : t.vu.ownBlock with
    | none => exact .inl rfl
    | some j =>
      refine .inr fun e => ?_
      cases e
      have := s.ru.lt (hp _) _ hv; omega
theorem TblAt.sep0 {h : Hp} {g : Value} {t : Tbl} (s : TblAt h g t) : TblSep none (g, t) := by
  refine ⟨?_, ?_, ?_⟩
  · obtain ⟨j, hj, -⟩ := s.var.blk
    dsimp only
    rw [hj]; intro e; cases e
  · cases t.vr.ownBlock <;> simp
  · cases t.vu.ownBlock <;> simp
theorem NewT.sep {B b : Nat} {g : Value} {t : Tbl} (s : NewT B g t) (hb : b < B) : TblSep (some b) (g, t) := by
  obtain ⟨k, hk, hkl⟩ := s.p
  refine ⟨?_, ?_, ?_⟩
  · dsimp only
    rw [hk]; intro e; cases e; omega
  · cases hv : t.vr.ownBlock with
    | none => exact .inl rfl
    | some j =>
      refine .inr fun e => ?_
      cases e
      have := s.vr _ hv; omega
  · cases hv : t.vu.ownBlock with
    | none => exact .inl rfl
    | some j =>
      refine .inr fun e => ?_
      cases e
      have := s.vu _ hv; omega

/-- A ring. -/
structure RngD where mk ::
  L : Nat
  qs : List Nat
  ts : List (Value × Tbl)
  vq : Value
  vt : Value
structure RngAt (h : Hp) (g : Value) (R : RngD) : Prop where mk ::
  var : Var h g 94 [N (2 ^ R.L), R.vq, R.vt]
  rq : SlF h U R.vq R.qs
  rt : SlF h Prod.fst R.vt R.ts
  tb : ∀ x ∈ R.ts, TblAt h x.1 x.2
structure RngOk (R : RngD) : Prop where mk ::
  l1 : 1 ≤ R.L
  l9 : R.L ≤ 9
  q : ∀ q ∈ R.qs, QOk R.L q
  n0 : 0 < R.qs.length
  n24 : R.qs.length ≤ 24
  map : R.ts.map (fun x => x.2.q) = R.qs
  ok : ∀ x ∈ R.ts, TblOk x.2 ∧ x.2.L = R.L ∧ RootR x.2.q (2 ^ (R.L + 1)) x.2.w
theorem RngAt.ext {h h' : Hp} {g : Value} {R : RngD} (s : RngAt h g R) (e : Ext h h') : RngAt h' g R := ⟨s.var.ext e, s.rq.ext e, s.rt.ext e, fun x hx => (s.tb x hx).ext e⟩

theorem Tryd_ent57 : Ent Tryd.prog 57 := ent_of Tryd.func57 (by kernel_rfl) rfl
set_option maxHeartbeats 2000000 in
theorem ringNew_spec (L : Nat) (vp : Value) (qs : List Nat) (h : Hp) (T : TB h) (s : SlF h U vp qs) (hL1 : 1 ≤ L) (hL9 : L ≤ 9) (hq : ∀ q ∈ qs, QOk L q) (hnd : qs.Nodup) (h0 : 0 < qs.length) (h24 : qs.length ≤ 24) :
    CallsH Tryd.prog 57 [N (2 ^ L), vp] h fun v' h' => Ext h h' ∧ ∃ (g : Value) (R : RngD), v' = .tuple #[g, N 0] ∧ RngAt h' g R ∧ RngOk R ∧ R.L = L ∧ R.qs = qs := by
  have CL := fun h s => clone_spec vp qs h s (by omega)
  have NW := fun q (hq : QOk L q) h T => nttNewX_spec L q hq.root.choose h T hL1 hL9 hq.q61 hq.qm hq.q1 hq.is hq.root.choose_spec.1 hq.root.choose_spec.2.1 hq.root.choose_spec.2.2
  (apply enter Tryd.func57 rfl Tryd.ntmps57 rfl)
  refine runJ ?_
  (apply s_splitG; exact rfl; exact rfl; exact rfl; exact rfl) <;> intro g1
  · exact absurd g1 (by omega)
  refine runJ ?_
  (apply w_condF; exact rfl; exact rfl; exact (show ¬ 24 < qs.length by omega))
  refine runJ ?_
  apply (s_call Tryd_ent66 rfl rfl rfl)
  refine (CL h s).mono ?_
  rintro vq h1 ⟨e1, o1⟩
  refine ⟨(by first | exact trivial | exact trivial), ?_⟩
  refine runJ ?_
  (apply (s_build ([N (2 ^ L), vq, .slice none 0 0])); exact rfl; exact rfl; exact rfl; (repeat (first | exact CellsAll.nil | (apply CellsAll.cons; (first | exact oneL (by assumption) | exact oneL (SlF.one (by assumption)) | exact oneL (SlF.one (OwnF.sl (by assumption))) | exact oneL (Var.one (by assumption)) | exact rfl)))); exact rfl; exact rfl)
  refine runJ ?_
  (apply s_box; exact rfl; exact rfl; exact rfl; exact rfl)
  intro g h2 G2 e2 b2
  (try dsimp only [Value.cells, List.toList_toArray] at G2)
  refine ⟨(by first | exact trivial | exact Ext.refl _ | assumption | exact Ext.trans (by assumption) (by assumption)), ?_⟩
  have e02 := e1.trans e2
  have hgl : h.size ≤ h1.size := e1.1
  have hg2 : h1.size < h2.size := by obtain ⟨j, hj, hl⟩ := G2.blk; rw [b2] at hj; cases hj; exact hl
  have nq : vq.ownBlock = none ∨ vq.ownBlock ≠ pblk g := SlF.neV (f := U) (xs := []) (fun j hj => (o1.blk j hj).2) b2 (Nat.le_refl _)
  have q2 := o1.sl.ext e2
  have s02 := s.ext e02
  refine runJ ?_
  (first | (apply w_seqB; exact rfl; apply w_block; exact rfl) | skip)
  apply (w_loop (σ := Nat × List (Value × Tbl) × Value) rfl (fun j => [(0, N (2 ^ L)), (1, vp), (6, g), (24, vp), (25, N qs.length), (26, N j.1)])
    (fun j h' => Ext h1 h' ∧ h2.size ≤ h'.size ∧ j.1 ≤ qs.length ∧ Var h' g 94 [N (2 ^ L), vq, j.2.2] ∧ OwnF h' h1.size 25 Prod.fst j.2.2 j.2.1 ∧ (∀ k, j.2.2.ownBlock = some k → h2.size ≤ k) ∧ j.2.1.map (fun x => x.2.q) = qs.take j.1 ∧
      ∀ x ∈ j.2.1, TblAt h' x.1 x.2 ∧ (TblOk x.2 ∧ x.2.L = L ∧ RootR x.2.q (2 ^ (L + 1)) x.2.w) ∧ TblSep (pblk g) x ∧ TblSep j.2.2.ownBlock x) (fun j => qs.length - j.1) (0, [], .slice none 0 0))
  · exact (Sub.cons rfl (Sub.cons rfl (Sub.cons rfl (Sub.cons rfl (Sub.cons rfl (Sub.cons rfl (Sub.nil _)))))))
  · exact ⟨e2, Nat.le_refl _, Nat.zero_le _, G2, OwnF.nil _ _ _ _, (by intro k hk; cases hk), rfl, (by intro x hx; cases hx)⟩
  rintro ⟨j, ts, vt⟩ h3 ⟨e3, z3, j1, G3, o3, v3, m3, t3⟩
  dsimp only at e3 z3 j1 G3 o3 v3 m3 t3 ⊢
  have s3 := (s.ext e1).ext e3
  refine runJ ?_
  (apply w_condD; exact rfl; exact rfl) <;> intro hj
  · obtain ⟨q, hqj⟩ := get_lt hj
    have hqm := List.mem_of_getElem? hqj
    have hqk := hq q hqm
    refine runJ ?_
    apply (s_call Tryd_ent12 rfl rfl rfl)
    refine (NW q hqk h3 (T.ext (e1.trans e3))).mono ?_
    rintro _ h4 ⟨e4, tg, t, rfl, A4, K4, hL4, hq4, hR4, N4⟩
    refine ⟨(by first | exact trivial | exact trivial), ?_⟩
    have e14 := e3.trans e4
    have s4 := s3.ext e4
    have c4 := s4.cut (lo := 0) (hi := j) (Nat.zero_le _) j1
    rw [List.drop_zero, Nat.sub_zero] at c4
    have hnin : q ∉ qs.take j := fun hin => not_nodup_at hqj hin hnd
    have CT := contains_spec _ (qs.take j) q h4 c4 (by rw [List.length_take]; omega)
    rw [decide_eq_false hnin] at CT
    refine runJ ?_
    apply (s_call Tryd_ent82 rfl rfl rfl)
    refine (CT).mono ?_
    rintro _ _ ⟨rfl, rfl⟩
    refine ⟨(by first | exact trivial | exact trivial), ?_⟩
    have G4 := G3.ext e4
    have o4 := o3.ext e4
    have htl : ts.length = j := by
      have := congrArg List.length m3
      rw [List.length_map, List.length_take] at this
      omega
    refine runJ ?_
    (refine s_app1V (bytes := 8) ((tg, t)) o4 e14 rfl rfl rfl rfl rfl rfl rfl rfl rfl (by first | exact rfl | exact congrArg some (congrArg I (by omega))) (A4.var.one) rfl rfl (fun _ _ => trivial) (by omega) (by simp only [maxLen]; omega) ?_)
    intro v5 h5 o5 e5 k5 b5
    have hpg : pblk g ≠ vt.ownBlock := by
      rw [b2]; intro e
      have := v3 _ e.symm; omega
    have hv5 : ∀ k, v5.ownBlock = some k → h2.size ≤ k := fun k hk => by
      rcases b5 with b5 | ⟨b, hb, hbl⟩
      · exact v3 k (by rw [← b5]; exact hk)
      · rw [hk] at hb; cases hb
        exact Nat.le_trans z3 (Nat.le_trans e4.1 hbl)
    have G5 := G4.only k5 hpg
    have hsepN : TblSep vt.ownBlock (tg, t) := by
      cases hvt : vt.ownBlock with
      | none => exact A4.sep0
      | some k => exact N4.sep (o3.blk k hvt).2
    have hsep5 : ∀ x : Value × Tbl, TblOk x.2 → TblAt h4 x.1 x.2 → TblSep vt.ownBlock x → TblSep v5.ownBlock x := fun x hk ha hs => by
      rcases b5 with b5 | ⟨b, hb, hbl⟩
      · rw [b5]; exact hs
      · rw [hb]; exact ha.lt hk hbl
    refine runJ ?_
    (apply s_storeC; exact rfl; exact rfl; (first | exact rfl | exact SlF.one (by assumption) | exact SlF.one (OwnF.sl (by assumption)) | exact Var.one (by assumption)); exact rfl; exact rfl; exact G5; exact rfl)
    intro h6 G6 k6
    refine ⟨(by first | exact trivial | exact Ext.refl _ | assumption | exact Ext.only (by assumption) _ | exact Only.trans (Ext.only (by assumption) _) (by assumption)), ?_⟩
    have e6 : Ext h1 h6 := k6.oldV e5 b2 (Nat.le_refl _)
    have ne5 : v5.ownBlock = none ∨ v5.ownBlock ≠ pblk g := by
      cases h5v : v5.ownBlock with
      | none => exact .inl rfl
      | some k =>
        refine .inr fun e => ?_
        rw [b2] at e; cases e
        have := hv5 _ h5v; omega
    have o6 := o5.only k6 ne5
    refine runJ ?_
    apply again_normal (j + 1, ts ++ [(tg, t)], v5)
    · exact (Sub.cons rfl (Sub.cons rfl (Sub.cons rfl (Sub.cons rfl (Sub.cons rfl (Sub.cons rfl (Sub.nil _)))))))
    · refine ⟨e6, Nat.le_trans z3 (Nat.le_trans e4.1 (Nat.le_trans k5.1 k6.1)), hj, G6, o6, hv5, ?_, fun x hx => ?_⟩
      · dsimp only
        rw [List.map_append, m3, take_snoc hqj, List.map_cons, List.map_nil, hq4]
      · rcases List.mem_append.1 hx with hx | hx
        · obtain ⟨a1, a2, a3, a4⟩ := t3 x hx
          have a5 := a1.ext e4
          exact ⟨(a5.only k5 a4).only k6 a3, a2, a3, hsep5 x a2.1 a5 a4⟩
        · simp only [List.mem_singleton] at hx
          subst hx
          have a3 : TblSep (pblk g) (tg, t) := by rw [b2]; exact N4.sep (Nat.lt_of_lt_of_le hg2 z3)
          exact ⟨(A4.only k5 hsepN).only k6 a3, ⟨K4, hL4, by rw [hq4]; exact hR4⟩, a3, hsep5 _ K4 A4 hsepN⟩
    · dsimp only; omega
  · have hjn : j = qs.length := by omega
    subst hjn
    rw [List.take_length] at m3
    refine runJ ?_
    refine fin2 rfl rfl rfl ⟨e1.trans e3, g, ⟨L, qs, ts, vq, vt⟩, rfl, ⟨G3, o1.sl.ext e3, o3.sl, fun x hx => (t3 x hx).1⟩, ⟨hL1, hL9, hq, h0, h24, m3, fun x hx => (t3 x hx).2.1⟩, rfl, rfl⟩
end Go.Proofs.YtfgfmempmkjlnaaDoor

/- Package ring: elements, and numbers lifted. No condition. -/
namespace Go.Proofs.YtfgfmempmkjlnaaDoor
set_option linter.unusedVariables false
set_option maxRecDepth 8000
open Go Go.Den Go.RowKit Go.Mth Go.Dig

/-- An element as it lies. -/
structure PolAt (h : Hp) (v : Value) (rows : List (Value × List Nat)) : Prop where mk ::
  row : SlF h Prod.fst v rows
  el : ∀ x ∈ rows, SlF h U x.1 x.2
theorem PolAt.ext {h h' : Hp} {v : Value} {rows : List (Value × List Nat)} (s : PolAt h v rows) (e : Ext h h') : PolAt h' v rows := ⟨s.row.ext e, fun x hx => (s.el x hx).ext e⟩
/-- A row of rows that grows, beside a variable in the block p. -/
structure RowsAt (h : Hp) (B : Nat) (p : Option Nat) (v : Value) (rows : List (Value × List Nat)) : Prop where mk ::
  own : OwnF h B 22 Prod.fst v rows
  el : ∀ x ∈ rows, OwnF h B 24 U x.1 x.2
  ne : ∀ x ∈ rows, x.1.ownBlock = none ∨ x.1.ownBlock ≠ v.ownBlock
  np : ∀ x ∈ rows, x.1.ownBlock = none ∨ x.1.ownBlock ≠ p
  vp : v.ownBlock = none ∨ v.ownBlock ≠ p
theorem RowsAt.ext {h h' : Hp} {B : Nat} {p : Option Nat} {v : Value} {rows : List (Value × List Nat)} (s : RowsAt h B p v rows) (e : Ext h h') : RowsAt h' B p v rows :=
  ⟨s.own.ext e, fun x hx => (s.el x hx).ext e, s.ne, s.np, s.vp⟩
theorem RowsAt.nil (h : Hp) (B : Nat) (p : Option Nat) : RowsAt h B p (.slice none 0 0) [] :=
  RowsAt.mk (OwnF.nil _ _ _ _) (fun x hx => absurd hx List.not_mem_nil) (fun x hx => absurd hx List.not_mem_nil) (fun x hx => absurd hx List.not_mem_nil) (.inl rfl)
theorem RowsAt.pol {h : Hp} {B : Nat} {p : Option Nat} {v : Value} {rows : List (Value × List Nat)} (s : RowsAt h B p v rows) : PolAt h v rows := ⟨s.own.sl, fun x hx => (s.el x hx).sl⟩
theorem RowsAt.push {h4 h5 h6 : Hp} {B z pb : Nat} {v v5 w : Value} {rows : List (Value × List Nat)} {ws : List Nat} (S : RowsAt h4 B (some pb) v rows) (ow : OwnF h4 B 24 U w ws) (hw : ∀ k, w.ownBlock = some k → z ≤ k) (hv : ∀ k, v.ownBlock = some k → k < z) (hp : pb < z) (hz : z ≤ h4.size)
    (o5 : OwnF h5 B 22 Prod.fst v5 (rows ++ [(w, ws)])) (k5 : Only v.ownBlock h4 h5) (b5 : v5.ownBlock = v.ownBlock ∨ ∃ b, v5.ownBlock = some b ∧ h4.size ≤ b) (k6 : Only (some pb) h5 h6) : RowsAt h6 B (some pb) v5 (rows ++ [(w, ws)]) := by
  have nw : w.ownBlock = none ∨ w.ownBlock ≠ v.ownBlock := by
    cases hwb : w.ownBlock with
    | none => exact .inl rfl
    | some k =>
      refine .inr fun e => ?_
      have h1 := hw k hwb
      have h2 := hv k e.symm
      omega
  have nwp : w.ownBlock = none ∨ w.ownBlock ≠ some pb := by
    cases hwb : w.ownBlock with
    | none => exact .inl rfl
    | some k =>
      refine .inr fun e => ?_
      cases e
      have h1 := hw _ hwb
      omega
  have n5 : ∀ x : Value × List Nat, (∀ k, x.1.ownBlock = some k → k < h4.size) → (x.1.ownBlock = none ∨ x.1.ownBlock ≠ v.ownBlock) → x.1.ownBlock = none ∨ x.1.ownBlock ≠ v5.ownBlock := fun x hx hn => by
    rcases b5 with b5 | ⟨b, hb, hbl⟩
    · rw [b5]; exact hn
    · rw [hb]
      cases hxb : x.1.ownBlock with
      | none => exact .inl rfl
      | some k =>
        refine .inr fun e => ?_
        cases e
        have := hx _ hxb
        omega
  have v5p : v5.ownBlock = none ∨ v5.ownBlock ≠ some pb := by
    rcases b5 with b5 | ⟨b, hb, hbl⟩
    · rw [b5]; exact S.vp
    · refine .inr fun e => ?_
      rw [hb] at e; cases e
      omega
  refine ⟨o5.only k6 v5p, fun x hx => ?_, fun x hx => ?_, fun x hx => ?_, v5p⟩
  · rcases List.mem_append.1 hx with hx | hx
    · exact ((S.el x hx).only k5 (S.ne x hx)).only k6 (S.np x hx)
    · simp only [List.mem_singleton] at hx; subst hx
      exact (ow.only k5 nw).only k6 nwp
  · rcases List.mem_append.1 hx with hx | hx
    · exact n5 x (fun k hk => ((S.el x hx).blk k hk).2) (S.ne x hx)
    · simp only [List.mem_singleton] at hx; subst hx
      exact n5 _ (fun k hk => (ow.blk k hk).2) nw
  · rcases List.mem_append.1 hx with hx | hx
    · exact S.np x hx
    · simp only [List.mem_singleton] at hx; subst hx
      exact nwp

theorem RowsAt.low {h h' : Hp} {B b : Nat} {p : Option Nat} {v : Value} {rows : List (Value × List Nat)} (s : RowsAt h B p v rows) (k : Only (some b) h h') (hb : b < B) : RowsAt h' B p v rows := by
  have key : ∀ w : Value, (∀ j, w.ownBlock = some j → B ≤ j) → w.ownBlock = none ∨ w.ownBlock ≠ some b := fun w hw => by
    cases hv : w.ownBlock with
    | none => exact .inl rfl
    | some j =>
      refine .inr fun e => ?_
      cases e
      have := hw _ hv
      omega
  exact ⟨s.own.only k (key _ fun j hj => (s.own.blk j hj).1), fun x hx => (s.el x hx).only k (key _ fun j hj => ((s.el x hx).blk j hj).1), s.ne, s.np, s.vp⟩
theorem RowsAt.base {h : Hp} {B B' : Nat} {p : Option Nat} {v : Value} {rows : List (Value × List Nat)} (s : RowsAt h B p v rows) (hB : B' ≤ B) : RowsAt h B' p v rows :=
  ⟨s.own.base hB, fun x hx => (s.el x hx).base hB, s.ne, s.np, s.vp⟩

def liftL (xs : List Int) (q : Nat) : List Nat := xs.map fun x => liftm x q

theorem Tryd_ent43 : Ent Tryd.prog 43 := ent_of Tryd.func43 (by kernel_rfl) rfl
set_option maxHeartbeats 4000000 in
theorem ringLift_spec (g vv : Value) (R : RngD) (xs : List Int) (l : Nat) (h : Hp) (K : RngOk R) (A : RngAt h g R) (s : SlF h I vv xs) (hx : ∀ x ∈ xs, -9223372036854775808 ≤ x ∧ x < 9223372036854775808) (hl : xs.length = 2 ^ R.L) (hlev : l < R.qs.length) :
    CallsH Tryd.prog 43 [g, vv, N l] h fun v' h' => Ext h h' ∧ ∃ vr rows p, v' = .tuple #[.agg #[vr], N 0] ∧ RowsAt h' h.size p vr rows ∧ rows.map (·.2) = (R.qs.take (l + 1)).map (liftL xs) := by
  have hn : 2 ≤ 2 ^ R.L ∧ 2 ^ R.L ≤ 512 := ⟨Nat.pow_le_pow_right (n := 2) (by omega) K.l1, Nat.pow_le_pow_right (n := 2) (by omega) K.l9⟩
  have h24 := K.n24
  have G := A.var
  have rq := A.rq
  have hqk := K.q
  obtain ⟨L, qs, ts, vq, vt⟩ := R
  dsimp only at G rq hqk hn hl hlev h24 ⊢
  generalize 2 ^ L = n at *
  (apply enter Tryd.func43 rfl Tryd.ntmps43 rfl)
  refine runJ ?_
  (apply s_alloc; exact rfl; exact rfl; exact rfl)
  intro p6 h1 x1 e1 b1
  (try dsimp only [Value.cells, List.toList_toArray] at x1)
  refine ⟨(by first | exact trivial | exact Ext.refl _ | assumption | exact Ext.trans (by assumption) (by assumption)), ?_⟩
  have G1 := G.ext e1
  refine runJ ?_
  (apply w_condF; exact rfl; exact rfl; exact (show ¬ qs.length ≤ l by omega))
  refine runJ ?_
  (apply w_condF; exact rfl; exact rfl; exact (show ¬ xs.length ≠ n by omega))
  have c0 := rq.cut (lo := 0) (hi := l + 1) (Nat.zero_le _) (by omega)
  rw [List.drop_zero, Nat.sub_zero] at c0
  refine runJ ?_
  (apply (s_build ([.slice none 0 0])); exact rfl; exact rfl; exact rfl; (repeat (first | exact CellsAll.nil | (apply CellsAll.cons; (first | exact oneL (by assumption) | exact oneL (SlF.one (by assumption)) | exact oneL (SlF.one (OwnF.sl (by assumption))) | exact oneL (Var.one (by assumption)) | exact rfl)))); exact rfl; exact rfl)
  refine runJ ?_
  (apply s_alloc; exact rfl; exact rfl; exact rfl)
  intro p8 h2 x2 e2 b2
  (try dsimp only [Value.cells, List.toList_toArray] at x2)
  refine ⟨(by first | exact trivial | exact Ext.refl _ | assumption | exact Ext.trans (by assumption) (by assumption)), ?_⟩
  refine runJ ?_
  (apply s_storeV; exact rfl; exact rfl; exact rfl; (repeat (first | exact OneAll.nil | (apply OneAll.cons; (first | exact rfl | exact SlF.one (by assumption) | exact SlF.one (OwnF.sl (by assumption)) | exact Var.one (by assumption))))); exact rfl; exact rfl; exact x2; exact rfl)
  intro h3 x3 k3
  (try dsimp only [Value.cells, List.toList_toArray] at x3)
  refine ⟨(by first | exact trivial | exact Ext.refl _ | assumption | exact Ext.only (by assumption) _ | exact Only.trans (Ext.only (by assumption) _) (by assumption)), ?_⟩
  have e3 : Ext h1 h3 := k3.oldV e2 b2 (Nat.le_refl _)
  have e03 := e1.trans e3
  have G3 := G1.ext e3
  have x13 := x1.ext e3
  have q3 := rq.ext e03
  have c3 := q3.cut (lo := 0) (hi := l + 1) (Nat.zero_le _) (by omega)
  rw [List.drop_zero, Nat.sub_zero] at c3
  have hcl : (qs.take (l + 1)).length = l + 1 := by rw [List.length_take]; omega
  have hcq : ∀ q ∈ qs.take (l + 1), QOk L q := fun q hq => hqk q (List.mem_of_mem_take hq)
  have hk3s := k3.1
  have hb23 : h1.size < h3.size := by obtain ⟨j, hj, hlj⟩ := x3.blk; rw [b2] at hj; cases hj; exact hlj
  refine runJ ?_
  generalize qs.take (l + 1) = row at *
  (first | (apply w_seqB; exact rfl; apply w_block; exact rfl) | skip)
  apply (w_loop (σ := Nat × List (Value × List Nat) × Value) rfl (fun j => [(0, g), (1, vv), (6, p6), (8, p8), (47, cutV 1 vq 0 (l + 1)), (48, N row.length), (49, N j.1)])
    (fun j h' => Ext h1 h' ∧ h3.size ≤ h'.size ∧ j.1 ≤ row.length ∧ Var h' p8 54 [j.2.2] ∧ RowsAt h' h1.size (some h1.size) j.2.2 j.2.1 ∧ j.2.1.map (·.2) = (row.take j.1).map (liftL xs)) (fun j => row.length - j.1) (0, [], .slice none 0 0))
  · exact (Sub.cons rfl (Sub.cons rfl (Sub.cons rfl (Sub.cons rfl (Sub.cons rfl (Sub.cons rfl (Sub.cons rfl (Sub.nil _))))))))
  · exact ⟨e3, Nat.le_refl _, Nat.zero_le _, x3, RowsAt.nil _ _ _, rfl⟩
  rintro ⟨j, rows, vR⟩ h4 ⟨e4, z4, j1, x4, R4, m4⟩
  dsimp only at e4 z4 j1 x4 R4 m4 ⊢
  have G4 := G1.ext e4
  have s4 := s.ext (e1.trans e4)
  have c4 := c0.ext (e1.trans e4)
  have hpv : pblk p8 ≠ vR.ownBlock := by
    rw [b2]; intro e
    rcases R4.vp with h0 | h0
    · rw [h0] at e; cases e
    · exact h0 e.symm
  refine runJ ?_
  (apply w_condD; exact rfl; exact rfl) <;> intro hj
  · obtain ⟨q, hqj⟩ := get_lt hj
    have hq := hcq q (List.mem_of_getElem? hqj)
    have hq61 := hq.q61
    have hq1 := hq.q1
    have hrl : rows.length = j := by
      have := congrArg List.length m4
      rw [List.length_map, List.length_map, List.length_take] at this
      omega
    refine runJ ?_
    (apply (s_make (f := U) (bytes := 8) (0)); (first | exact isK_c | exact isK_t rfl); (first | exact isK_c | exact isK_t rfl); exact rfl; exact rfl; exact rfl; exact rfl; exact rfl; exact rfl; omega; omega; omega)
    intro w5 h5 o5 e5 b5
    refine ⟨(by first | exact trivial | exact Ext.refl _ | assumption | exact Ext.trans (by assumption) (by assumption)), ?_⟩
    refine runJ ?_
    (first | (apply w_seqB; exact rfl; apply w_block; exact rfl) | skip)
    apply (w_loop (σ := Nat × List Nat) rfl (fun k => [(0, g), (1, vv), (6, p6), (8, p8), (47, cutV 1 vq 0 (l + 1)), (48, N row.length), (49, N j), (10, U q), (11, w5), (58, vv), (59, N xs.length), (60, N k.1)])
      (fun k h' => Ext h4 h' ∧ k.1 ≤ n ∧ OwnF h' h4.size 24 U w5 k.2 ∧ k.2.length = n ∧ ∀ (i : Nat) (y : Nat), k.2[i]? = some y → y = if i < k.1 then liftm (xs.getD i 0) q else 0) (fun k => n - k.1) (0, List.replicate n 0))
    · exact (Sub.cons rfl (Sub.cons rfl (Sub.cons rfl (Sub.cons rfl (Sub.cons rfl (Sub.cons rfl (Sub.cons rfl (Sub.cons rfl (Sub.cons rfl (Sub.cons rfl (Sub.cons rfl (Sub.cons rfl (Sub.nil _)))))))))))))
    · exact ⟨e5, Nat.zero_le _, o5, by simp, fun i y hy => by rw [if_neg (Nat.not_lt_zero _)]; have := List.mem_of_getElem? hy; simp at this; exact this.2⟩
    clear o5
    rintro ⟨k, ys⟩ h6 ⟨e6, k1, o6, k2, k3⟩
    dsimp only at e6 k1 o6 k2 k3 ⊢
    have s6 := s4.ext e6
    refine runJ ?_
    (apply w_condD; exact rfl; exact rfl) <;> intro hk
    · obtain ⟨x, hxk⟩ := get_lt hk
      have hxb := hx x (List.mem_of_getElem? hxk)
      have hky : k < ys.length := by omega
      have hxg : xs.getD k 0 = x := by rw [List.getD_eq_getElem?_getD, hxk]; rfl
      refine runJ ?_
      apply (s_call Tryd_ent55 rfl rfl rfl)
      refine (lift_spec x q h6 hxb (by omega)).mono ?_
      rintro _ _ ⟨rfl, rfl⟩
      refine ⟨(by first | exact trivial | exact Ext.refl _ | assumption | exact Ext.trans (by assumption) (by assumption)), ?_⟩
      refine runJ ?_
      (apply (s_storeF (liftm x q)); exact rfl; exact rfl; exact rfl; exact rfl; exact rfl; exact o6; exact rfl; (first | assumption | omega))
      intro h7 o7 k7
      refine ⟨(by first | exact trivial | exact Ext.refl _ | assumption | exact Ext.trans (by assumption) (by assumption)), ?_⟩
      refine runJ ?_
      apply again_normal (k + 1, ys.set k (liftm x q))
      · exact (Sub.cons rfl (Sub.cons rfl (Sub.cons rfl (Sub.cons rfl (Sub.cons rfl (Sub.cons rfl (Sub.cons rfl (Sub.cons rfl (Sub.cons rfl (Sub.cons rfl (Sub.cons rfl (Sub.cons rfl (Sub.nil _)))))))))))))
      · refine ⟨o6.old k7 e6 (Nat.le_refl _), by dsimp only; omega, o7, by simp [k2], fun i y hy => ?_⟩
        dsimp only at hy ⊢
        rcases set_get hky hy with ⟨rfl, rfl⟩ | ⟨hik, hy⟩
        · rw [if_pos (by omega), hxg]
        · rw [k3 i y hy]
          by_cases hi : i < k
          · rw [if_pos hi, if_pos (show i < k + 1 by omega)]
          · rw [if_neg hi, if_neg (show ¬ i < k + 1 by omega)]
      · dsimp only; omega
    · have hys : ys = liftL xs q := by
        refine list_eq (by unfold liftL; rw [List.length_map]; omega) fun i a b ha hb => ?_
        have hi := (List.getElem?_eq_some_iff.1 ha).1
        rw [k3 i a ha, if_pos (by omega)]
        obtain ⟨x, hxi⟩ := get_lt (l := xs) (j := i) (by omega)
        unfold liftL at hb
        rw [List.getElem?_map, hxi] at hb
        rw [List.getD_eq_getElem?_getD, hxi]
        exact Option.some.inj hb
      subst hys
      have R6 := R4.ext e6
      have x6 := x4.ext e6
      have e16 := e4.trans e6
      have o6one := o6.sl.one
      refine runJ ?_
      (refine s_app1V (bytes := 24) ((w5, liftL xs q)) R6.own e16 rfl rfl rfl rfl rfl rfl rfl rfl rfl (by first | exact rfl | exact congrArg some (congrArg I (by omega))) o6one rfl rfl (fun _ _ => trivial) (by omega) (by simp only [maxLen]; omega) ?_)
      intro v7 h7 o7 e7 k7 b7
      have x7 := x6.only k7 hpv
      refine runJ ?_
      (apply s_storeC; exact rfl; exact rfl; (first | exact rfl | exact SlF.one (by assumption) | exact SlF.one (OwnF.sl (by assumption)) | exact Var.one (by assumption)); exact rfl; exact rfl; exact x7; exact rfl)
      intro h8 x8 k8
      refine ⟨(by first | exact trivial | exact Ext.refl _ | assumption | exact Ext.only (by assumption) _ | exact Only.trans (Ext.only (by assumption) _) (by assumption)), ?_⟩
      have e8 : Ext h1 h8 := k8.oldV e7 b2 (Nat.le_refl _)
      rw [b2] at k8
      have R8 := R6.push (z := h4.size) (o6.base (Nat.le_trans e2.1 (Nat.le_trans hk3s z4))) (fun k hk => (o6.blk k hk).1) (fun k hk => (R4.own.blk k hk).2) (Nat.lt_of_lt_of_le hb23 z4) e6.1 o7 k7 b7 k8
      refine runJ ?_
      apply again_normal (j + 1, rows ++ [(w5, liftL xs q)], v7)
      · exact (Sub.cons rfl (Sub.cons rfl (Sub.cons rfl (Sub.cons rfl (Sub.cons rfl (Sub.cons rfl (Sub.cons rfl (Sub.nil _))))))))
      · refine ⟨e8, Nat.le_trans z4 (Nat.le_trans e6.1 (Nat.le_trans k7.1 k8.1)), hj, x8, R8, ?_⟩
        dsimp only
        rw [List.map_append, m4, take_snoc hqj, List.map_append]; rfl
      · dsimp only; omega
  · have hjn : j = row.length := by omega
    subst hjn
    rw [List.take_length] at m4
    have x14 := x1.ext e4
    refine runJ ?_
    (apply s_storeV; exact rfl; exact rfl; exact rfl; exact (OneAll.cons R4.own.sl.one OneAll.nil : OneAll [vR]); exact rfl; exact rfl; exact x14; exact rfl)
    intro h5 x5 k5
    refine ⟨trivial, ?_⟩
    have x5 : Var h5 p6 54 [vR] := x5
    have e5 : Ext h h5 := k5.oldV (e1.trans e4) b1 (Nat.le_refl _)
    rw [b1] at k5
    have hb01 : h.size < h1.size := by obtain ⟨b, hb, hlb⟩ := x1.blk; rw [b1] at hb; cases hb; exact hlb
    refine runJ ?_
    exact finCT rfl rfl rfl x5 rfl rfl ⟨e5, _, rows, _, rfl, (R4.low k5 hb01).base e1.1, m4⟩
end Go.Proofs.YtfgfmempmkjlnaaDoor
