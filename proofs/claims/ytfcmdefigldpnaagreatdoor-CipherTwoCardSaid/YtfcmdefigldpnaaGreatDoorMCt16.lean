/- Texts ParB to RngC of this work, joined, without what the law does not lean on. -/
import Derived.Test.YtfcmdefigldpnaaGreatDoorMCt15
namespace Go.Proofs.YtfcmdefigldpnaaGreatDoor
set_option linter.unusedVariables false
set_option maxRecDepth 8000
open Go Go.Den Go.RowKit Go.Dig

def askF : Nat → FuncId
  | 0 => 97
  | 1 => 98
  | 2 => 99
  | _ => 100
abbrev askV (cs : List Value) (j : Nat) : Value := .func (.func (askF j)) #[.agg cs.toArray] #[]
def askP (p : ParD) : Nat → Prop
  | 0 => sizedP p
  | 1 => plainP p
  | 2 => primesP p
  | _ => shortP p
theorem parP_of {p : ParD} (h : ∀ j, j < 4 → askP p j) : parP p := ⟨h 0 (by decide), h 1 (by decide), h 2 (by decide), h 3 (by decide)⟩

theorem Tryz_ent45 : Ent Tryz.prog 45 := ent_of Tryz.func45 (by kernel_rfl) rfl
set_option maxHeartbeats 1000000 in
theorem check_spec (p : ParD) (h : Hp) (T : TB h) (A : ParAt h p) :
    CallsH Tryz.prog 45 [.agg p.cells.toArray] h fun v' h' => v' = N (if parP p then 0 else 8) ∧ Ext h h' := by
  have F0 := fun h => sized_spec p h
  have F1 := fun h T hn => plain_spec p h T hn A.t64
  have F2 := fun h T A hn => primes_spec p h T A hn
  have F3 := fun h A h0 h8 => short_spec p h A h0 h8
  unfold ParD.cells at F0 F1 F2 F3 ⊢
  (apply enter Tryz.func45 rfl Tryz.ntmps45 rfl)
  refine runJ ?_
  (apply s_box; exact rfl; exact rfl; exact rfl; exact rfl)
  intro p1 h1 x1 e1 b1
  (try dsimp only [Value.cells, List.toList_toArray] at x1)
  refine ⟨(by first | exact trivial | exact Ext.refl _ | assumption | exact Ext.trans (by assumption) (by assumption)), ?_⟩
  refine runJ ?_
  (apply (s_build ([I p.n, U p.t, p.vq, I p.w])); exact rfl; exact rfl; exact rfl; (repeat (first | exact CellsAll.nil | (apply CellsAll.cons; (first | exact oneL (by assumption) | exact oneL (SlF.one (by assumption)) | exact oneL (SlF.one (OwnF.sl (by assumption))) | exact oneL (Var.one (by assumption)) | exact rfl)))); exact rfl; exact rfl)
  refine runJ ?_
  (apply s_alloc; exact rfl; exact rfl; exact rfl)
  intro p2 h2 x2 e2 b2
  (try dsimp only [Value.cells, List.toList_toArray] at x2)
  refine ⟨(by first | exact trivial | exact Ext.refl _ | assumption | exact Ext.trans (by assumption) (by assumption)), ?_⟩
  refine runJ ?_
  have s0 := A.row
  (apply s_storeV; exact rfl; exact rfl; exact rfl; (repeat (first | exact OneAll.nil | (apply OneAll.cons; (first | exact rfl | exact SlF.one (by assumption) | exact SlF.one (OwnF.sl (by assumption)) | exact Var.one (by assumption))))); exact rfl; exact rfl; exact x2; exact rfl)
  intro h3 x3 k3
  (try dsimp only [Value.cells, List.toList_toArray] at x3)
  refine ⟨(by first | exact trivial | exact Ext.refl _ | assumption | exact Ext.only (by assumption) _ | exact Only.trans (Ext.only (by assumption) _) (by assumption)), ?_⟩
  have e3 : Ext h h3 := k3.oldV (e1.trans e2) b2 e1.1
  refine runJ ?_
  (apply (s_litF (f := askV [I p.n, U p.t, p.vq, I p.w]) [0, 1, 2, 3] (fun _ => rfl)); exact rfl; exact rfl; exact rfl; exact rfl; exact rfl; exact rfl; exact rfl; exact rfl; omega)
  intro v4 h4 o4 e4 b4
  refine ⟨(by first | exact trivial | exact Ext.refl _ | assumption | exact Ext.trans (by assumption) (by assumption)), ?_⟩
  have e34 := e3.trans e4
  have s4 := o4.sl
  refine runJ ?_
  (first | (apply w_seqB; exact rfl; apply w_block; exact rfl) | skip)
  apply (w_loop (σ := Nat) rfl (fun j => [(16, v4), (17, N 4), (18, N j)])
    (fun j h' => Ext h4 h' ∧ j ≤ 4 ∧ ∀ i, i < j → askP p i) (fun j => 4 - j) 0)
  · exact (Sub.cons rfl (Sub.cons rfl (Sub.cons rfl (Sub.nil _))))
  · exact ⟨Ext.refl _, Nat.zero_le _, fun i hi => absurd hi (Nat.not_lt_zero _)⟩
  rintro j h5 ⟨e5, j1, j2⟩
  have e45 := e34.trans e5
  have s5 := s4.ext e5
  have A5 := A.ext e45
  have T5 := T.ext e45
  refine runJ ?_
  (apply w_condD; exact rfl; exact rfl) <;> intro hj
  · rcases (show j = 0 ∨ j = 1 ∨ j = 2 ∨ j = 3 by omega) with rfl | rfl | rfl | rfl
    · have hr : [0, 1, 2, 3][0]? = some 0 := rfl
      refine runJ ?_
      refine s_callV rfl Tryz_ent97 rfl rfl rfl ?_
      refine (F0 h5).mono ?_
      rintro _ h6 ⟨rfl, e6⟩
      refine ⟨(by first | exact trivial | exact trivial), ?_⟩
      refine runJ ?_
      (apply w_cond; exact rfl; exact rfl) <;> intro g
      · have g : ¬ sizedP p := by simpa using g
        refine runJ ?_
        exact fin1 rfl rfl ⟨by rw [if_neg fun k => g k.1], e45.trans e6⟩
      · have g : sizedP p := by simpa using g
        refine runJ ?_
        apply again_normal 1
        · exact (Sub.cons rfl (Sub.cons rfl (Sub.cons rfl (Sub.nil _))))
        · exact ⟨e5.trans e6, by decide, fun i hi => by obtain rfl : i = 0 := by omega
                                                        exact g⟩
        · decide
    · have hn := rowF_pos (j2 0 (by decide)).1
      have hr : [0, 1, 2, 3][1]? = some 1 := rfl
      refine runJ ?_
      refine s_callV rfl Tryz_ent98 rfl rfl rfl ?_
      refine (F1 h5 T5 hn).mono ?_
      rintro _ h6 ⟨rfl, e6⟩
      refine ⟨(by first | exact trivial | exact trivial), ?_⟩
      refine runJ ?_
      (apply w_cond; exact rfl; exact rfl) <;> intro g
      · have g : ¬ plainP p := by simpa using g
        refine runJ ?_
        exact fin1 rfl rfl ⟨by rw [if_neg fun k => g k.2.1], e45.trans e6⟩
      · have g : plainP p := by simpa using g
        refine runJ ?_
        apply again_normal 2
        · exact (Sub.cons rfl (Sub.cons rfl (Sub.cons rfl (Sub.nil _))))
        · exact ⟨e5.trans e6, by decide, fun i hi => by
            rcases (show i < 1 ∨ i = 1 by omega) with hi | rfl
            · exact j2 i hi
            · exact g⟩
        · decide
    · have hn := rowF_pos (j2 0 (by decide)).1
      have hr : [0, 1, 2, 3][2]? = some 2 := rfl
      refine runJ ?_
      refine s_callV rfl Tryz_ent99 rfl rfl rfl ?_
      refine (F2 h5 T5 A5 hn).mono ?_
      rintro _ h6 ⟨rfl, e6⟩
      refine ⟨(by first | exact trivial | exact trivial), ?_⟩
      refine runJ ?_
      (apply w_cond; exact rfl; exact rfl) <;> intro g
      · have g : ¬ primesP p := by simpa using g
        refine runJ ?_
        exact fin1 rfl rfl ⟨by rw [if_neg fun k => g k.2.2.1], e45.trans e6⟩
      · have g : primesP p := by simpa using g
        refine runJ ?_
        apply again_normal 3
        · exact (Sub.cons rfl (Sub.cons rfl (Sub.cons rfl (Sub.nil _))))
        · exact ⟨e5.trans e6, by decide, fun i hi => by
            rcases (show i < 2 ∨ i = 2 by omega) with hi | rfl
            · exact j2 i hi
            · exact g⟩
        · decide
    · have hp : primesP p := j2 2 (by decide)
      have hr : [0, 1, 2, 3][3]? = some 3 := rfl
      refine runJ ?_
      refine s_callV rfl Tryz_ent100 rfl rfl rfl ?_
      refine (F3 h5 A5 hp.2.2.1 hp.2.2.2).mono ?_
      rintro _ h6 ⟨rfl, e6⟩
      refine ⟨(by first | exact trivial | exact trivial), ?_⟩
      refine runJ ?_
      (apply w_cond; exact rfl; exact rfl) <;> intro g
      · have g : ¬ shortP p := by simpa using g
        refine runJ ?_
        exact fin1 rfl rfl ⟨by rw [if_neg fun k => g k.2.2.2], e45.trans e6⟩
      · have g : shortP p := by simpa using g
        refine runJ ?_
        apply again_normal 4
        · exact (Sub.cons rfl (Sub.cons rfl (Sub.cons rfl (Sub.nil _))))
        · exact ⟨e5.trans e6, by decide, fun i hi => by
            rcases (show i < 3 ∨ i = 3 by omega) with hi | rfl
            · exact j2 i hi
            · exact g⟩
        · decide
  · obtain rfl : j = 4 := by omega
    refine runJ ?_
    exact fin1 rfl rfl ⟨by rw [if_pos (parP_of j2)], e45⟩

/-- What a level's modulus is refused by, or 0. -/
def levE (p : ParD) (l : Int) : Nat := if parP p then (if l < 0 ∨ (p.q.length : Int) ≤ l then 10 else 0) else 8
def levM (p : ParD) (l : Int) : Nat := prodL (p.q.take (l.toNat + 1))
theorem al_take {b : Nat} {xs : List Nat} (h : Al b xs) (n : Nat) : Al b (xs.take n) := fun x hx => h x (List.mem_of_mem_take hx)

theorem Tryz_ent158 : Ent Tryz.prog 158 := ent_of Tryz.func158 (by kernel_rfl) rfl
set_option maxHeartbeats 1000000 in
theorem modulus_spec (p : ParD) (l : Int) (h : Hp) (T : TB h) (A : ParAt h p) (hlo : -9223372036854775808 ≤ l) (hhi : l < 9223372036854775808) :
    CallsH Tryz.prog 158 [.agg p.cells.toArray, I l] h fun v' h' => Ext h h' ∧ ∃ q, v' = .tuple #[q, N (levE p l)] ∧ OwnF h' h.size 26 U q (if levE p l = 0 then dg 18446744073709551616 (levM p l) else []) := by
  have F := fun h T A => check_spec p h T A
  have hln := A.ln
  unfold ParD.cells at F ⊢
  (apply enter Tryz.func158 rfl Tryz.ntmps158 rfl)
  refine runJ ?_
  (apply s_box; exact rfl; exact rfl; exact rfl; exact rfl)
  intro p1 h1 x1 e1 b1
  (try dsimp only [Value.cells, List.toList_toArray] at x1)
  refine ⟨(by first | exact trivial | exact Ext.refl _ | assumption | exact Ext.trans (by assumption) (by assumption)), ?_⟩
  refine runJ ?_
  apply (s_call Tryz_ent45 rfl rfl rfl)
  refine (F h1 (T.ext e1) (A.ext e1)).mono ?_
  rintro _ h2 ⟨rfl, e2⟩
  refine ⟨(by first | exact trivial | exact trivial), ?_⟩
  have e12 := e1.trans e2
  have x2 := x1.ext e2
  have s2 := A.row.ext e12
  by_cases hp : parP p
  · rw [if_pos hp]
    refine runJ ?_
    refine s_tcut (σ := Unit) (fun _ => [(1, I l), (2, p1), (10, .bool (decide (l < 0 ∨ (p.q.length : Int) ≤ l)))]) (fun _ h' => h2 = h') ?_ ?_
    · (apply s_splitG; exact rfl; exact rfl; exact rfl; exact rfl) <;> intro g
      · refine runJ ?_
        apply cut_normal ()
        · exact Sub.cons rfl (Sub.cons rfl (Sub.consE rfl (dec_t (by omega)) (Sub.nil _)))
        · exact rfl
      · refine runJ ?_
        apply cut_normal ()
        · exact Sub.cons rfl (Sub.cons rfl (Sub.consE rfl (dec_i (by omega)) (Sub.nil _)))
        · exact rfl
    rintro _ _ rfl
    (apply w_condD; exact rfl; exact rfl) <;> intro h0
    · have hE : levE p l = 10 := by unfold levE; rw [if_pos hp, if_pos h0]
      rw [hE]
      refine runJ ?_
      exact fin2 rfl rfl rfl ⟨e12, _, rfl, by rw [if_neg (by decide)]; exact OwnF.nil _ _ _ _⟩
    · have hE : levE p l = 0 := by unfold levE; rw [if_pos hp, if_neg h0]
      rw [hE]
      obtain ⟨m, rfl⟩ : ∃ m : Nat, l = (m : Int) := ⟨l.toNat, by omega⟩
      have c2 := s2.cut (lo := 0) (hi := m + 1) (Nat.zero_le _) (by omega)
      rw [List.drop_zero, Nat.sub_zero] at c2
      have hne : p.q.take (m + 1) ≠ [] := by
        intro e
        have hpos : 0 < (p.q.take (m + 1)).length := by rw [List.length_take]; omega
        rw [e] at hpos
        exact absurd hpos (Nat.lt_irrefl 0)
      have G := product_spec _ (p.q.take (m + 1)) h2 c2 (al_take A.al _) (by have := hp.2.2.1.2.2.2; rw [List.length_take]; omega)
      simp only [hne, if_false] at G
      refine runJ ?_
      apply (s_call Tryz_ent61 rfl rfl rfl)
      refine (G).mono ?_
      rintro w1 h3 ⟨e3, o3⟩
      refine ⟨(by first | exact trivial | exact trivial), ?_⟩
      refine runJ ?_
      exact fin2 rfl rfl rfl ⟨e12.trans e3, _, rfl, by rw [if_pos rfl]; exact o3.base e12.1⟩
  · have hE : levE p l = 8 := by unfold levE; rw [if_neg hp]
    rw [if_neg hp, hE]
    refine runJ ?_
    exact fin2 rfl rfl rfl ⟨e12, _, rfl, by rw [if_neg (by decide)]; exact OwnF.nil _ _ _ _⟩

theorem Tryz_ent115 : Ent Tryz.prog 115 := ent_of Tryz.func115 (by kernel_rfl) rfl
set_option maxHeartbeats 1000000 in
theorem step_spec (p : ParD) (l : Int) (h : Hp) (T : TB h) (A : ParAt h p) (hlo : -9223372036854775808 ≤ l) (hhi : l < 9223372036854775808) :
    CallsH Tryz.prog 115 [.agg p.cells.toArray, I l] h fun v' h' => Ext h h' ∧ ∃ s, v' = .tuple #[s, U (if levE p l = 0 then levM p l % p.t else 0), N (levE p l)] ∧ OwnF h' h.size 26 U s (if levE p l = 0 then dg 18446744073709551616 (levM p l / p.t) else []) := by
  have F := fun h T A => modulus_spec p l h T A hlo hhi
  have hln := A.ln
  have ht := A.t64
  have b64 : (1 : Nat) < 18446744073709551616 := by decide
  have b640 : (0 : Nat) < 18446744073709551616 := by decide
  unfold ParD.cells at F ⊢
  (apply enter Tryz.func115 rfl Tryz.ntmps115 rfl)
  refine runJ ?_
  (apply s_box; exact rfl; exact rfl; exact rfl; exact rfl)
  intro p1 h1 x1 e1 b1
  (try dsimp only [Value.cells, List.toList_toArray] at x1)
  refine ⟨(by first | exact trivial | exact Ext.refl _ | assumption | exact Ext.trans (by assumption) (by assumption)), ?_⟩
  refine runJ ?_
  apply (s_call Tryz_ent158 rfl rfl rfl)
  refine (F h1 (T.ext e1) (A.ext e1)).mono ?_
  rintro _ h2 ⟨e2, q, rfl, oq⟩
  refine ⟨(by first | exact trivial | exact trivial), ?_⟩
  have e12 := e1.trans e2
  have x2 := x1.ext e2
  by_cases hE : levE p l = 0
  · rw [hE] at oq ⊢
    rw [if_pos rfl] at oq
    have hp : parP p := by
      unfold levE at hE
      by_cases hp : parP p
      · exact hp
      · rw [if_neg hp] at hE; omega
    have ht0 : ¬ p.t = 0 := by
      intro e
      have := hp.2.1.2.1
      rw [e, Nat.zero_mod] at this
      omega
    have hML : (dg 18446744073709551616 (levM p l)).length < 1099511627776 := by
      have h1 := dg_len (b := 18446744073709551616) (n := levM p l) (k := (p.q.take (l.toNat + 1)).length + 1) (by decide) (prodL_lt (al_take A.al _))
      have h2 := hp.2.2.1.2.2.2
      rw [List.length_take] at h1
      omega
    refine runJ ?_
    apply (s_call Tryz_ent64 rfl rfl rfl)
    refine (of_spec p.t h2 ht).mono ?_
    rintro w1 h3 ⟨e3, o3⟩
    refine ⟨(by first | exact trivial | exact trivial), ?_⟩
    have hdl : (dg 18446744073709551616 p.t).length ≤ 1 := dg_len (by decide) (by omega)
    have x3 := x2.ext e3
    have D := ndiv_spec q w1 _ _ h3 (oq.sl.ext e3) o3.sl (al_dg b640 _) (al_dg b640 _) hML (by omega)
    rw [vl_dg b64, vl_dg b64] at D
    refine runJ ?_
    apply (s_call Tryz_ent123 rfl rfl rfl)
    refine (D).mono ?_
    rintro _ h4 ⟨s, r, rfl, e4, os, or⟩
    refine ⟨(by first | exact trivial | exact trivial), ?_⟩
    have x4 := x3.ext e4
    have e14 := (e12.trans e3).trans e4
    simp only [ht0, if_false] at or ⊢
    have hRL : (dg 18446744073709551616 (levM p l % p.t)).length < 1099511627776 := by
      have := dg_len (b := 18446744073709551616) (n := levM p l % p.t) (k := 1) (by decide) (by have := Nat.mod_lt (levM p l) (Nat.pos_of_ne_zero ht0); omega)
      omega
    have M := mod_spec r _ p.t h4 or.sl (al_dg b640 _) hRL ht
    rw [vl_dg b64] at M
    simp only [ht0, if_false, Nat.mod_mod] at M
    refine runJ ?_
    apply (s_call Tryz_ent65 rfl rfl rfl)
    refine (M).mono ?_
    rintro _ h5 ⟨rfl, e5⟩
    refine ⟨(by first | exact trivial | exact trivial), ?_⟩
    refine runJ ?_
    exact fin3 rfl rfl rfl rfl ⟨e14.trans e5, _, rfl, (os.ext e5).base (Nat.le_trans e12.1 e3.1)⟩
  · refine runJ ?_
    (apply w_condT; exact rfl; exact rfl; exact hE)
    refine runJ ?_
    exact fin3 rfl rfl rfl rfl ⟨e12, _, by rw [if_neg hE], by rw [if_neg hE]; exact OwnF.nil _ _ _ _⟩
end Go.Proofs.YtfcmdefigldpnaaGreatDoor


namespace Go.Proofs.YtfcmdefigldpnaaGreatDoor
set_option linter.unusedVariables false
set_option maxRecDepth 8000
open Go Go.Den Go.RowKit Go.Dig

/-- Parameters whose row may be as long as any. -/
structure ParA0 (h : Hp) (p : ParD) : Prop where mk ::
  row : SlF h U p.vq p.q
  al : Al 18446744073709551616 p.q
  t64 : p.t < 18446744073709551616
  ln : p.q.length < 9223372036854775808

theorem par0 (w : Value) : ¬ parP ⟨0, 0, w, [], 0⟩ := (by decide +kernel : ¬ parP ⟨0, 0, .bool false, [], 0⟩)
end Go.Proofs.YtfcmdefigldpnaaGreatDoor


namespace Go.Proofs.YtfcmdefigldpnaaGreatDoor
set_option linter.unusedVariables false
set_option maxRecDepth 8000
open Go Go.Den Go.RowKit Go.Dig

def sameP (a b : ParD) : Prop := a.n = b.n ∧ a.t = b.t ∧ a.w = b.w ∧ a.q = b.q
instance (a b : ParD) : Decidable (sameP a b) := by unfold sameP; exact inferInstance
theorem sameU9_spec (va vb : Value) (xs ys : List Nat) (h : Hp) (ha : SlF h U va xs) (hb : SlF h U vb ys) (hl : xs.length < 9223372036854775808) (hl2 : ys.length < 9223372036854775808) :
    CallsH Tryz.prog 23 [va, vb] h fun v' h' => v' = .bool (decide (xs = ys)) ∧ h = h' := by
  (apply enter Tryz.func23 rfl Tryz.ntmps23 rfl)
  refine runJ ?_
  (apply w_condD; exact rfl; exact rfl) <;> intro hne
  · refine runJ ?_
    exact fin1 rfl rfl ⟨dec_f (fun e => hne (by rw [e])), rfl⟩
  have hle : xs.length = ys.length := by omega
  refine runJ ?_
  (first | (apply w_seqB; exact rfl; apply w_block; exact rfl) | skip)
  apply (w_loop (σ := Nat) rfl (fun j => [(0, va), (1, vb), (12, N xs.length), (13, N j)])
    (fun j h' => h = h' ∧ j ≤ xs.length ∧ ∀ (i : Nat) (x y : Nat), i < j → xs[i]? = some x → ys[i]? = some y → x = y) (fun j => xs.length - j) 0)
  · exact (Sub.cons rfl (Sub.cons rfl (Sub.cons rfl (Sub.cons rfl (Sub.nil _)))))
  · exact ⟨rfl, Nat.zero_le _, fun i x y hi => by omega⟩
  rintro j h' ⟨rfl, j1, j2⟩
  refine runJ ?_
  (apply w_condD; exact rfl; exact rfl) <;> intro hj
  · obtain ⟨x, hx⟩ := get_lt hj
    obtain ⟨y, hy⟩ := get_lt (l := ys) (j := j) (by omega)
    refine runJ ?_
    (apply w_condD; exact rfl; exact rfl) <;> intro hd
    · refine runJ ?_
      exact fin1 rfl rfl ⟨dec_f (list_ne hx hy hd), rfl⟩
    · refine runJ ?_
      apply again_normal (j + 1)
      · exact (Sub.cons rfl (Sub.cons rfl (Sub.cons rfl (Sub.cons rfl (Sub.nil _)))))
      · refine ⟨rfl, hj, fun i x' y' hi hx' hy' => ?_⟩
        rcases Nat.lt_succ_iff_lt_or_eq.1 hi with hi | rfl
        · exact j2 i x' y' hi hx' hy'
        · rw [hx] at hx'; rw [hy] at hy'; cases hx'; cases hy'; exact Decidable.of_not_not hd
      · omega
  · refine runJ ?_
    exact fin1 rfl rfl ⟨dec_t (list_eq hle fun i x y hx hy => j2 i x y (by have := (List.getElem?_eq_some_iff.1 hx).1; omega) hx hy), rfl⟩

theorem ParA0.ext {h h' : Hp} {p : ParD} (s : ParA0 h p) (e : Ext h h') : ParA0 h' p := ⟨s.row.ext e, s.al, s.t64, s.ln⟩

end Go.Proofs.YtfcmdefigldpnaaGreatDoor


namespace Go.Proofs.YtfcmdefigldpnaaGreatDoor
set_option linter.unusedVariables false
set_option maxRecDepth 8000
open Go Go.Den Go.RowKit Go.Mth

theorem dft_inj {t : Tbl} (K : TblOk t) {xs ys : List Nat} (hx : Fit (2 ^ t.L) t.q xs) (hy : Fit (2 ^ t.L) t.q ys) (h : ∀ k, k < 2 ^ t.L → Cg t.q (dft (2 ^ t.L) t.w (gt xs) k) (dft (2 ^ t.L) t.w (gt ys) k)) : xs = ys :=
  lists_cg (by rw [hx.1, hy.1]) hx.2 hy.2 fun p hp => by
    have hp' : p < 2 ^ t.L := by rw [← hx.1]; exact hp
    have h1 := idft_dft K.cw K.cuw K.cp (gt xs) hp'
    have h2 := idft_dft K.cw K.cuw K.cp (gt ys) hp'
    exact h1.symm.trans ((idft_cg (fun j hj => h j hj) p).trans h2)
theorem prd_eq {t : Tbl} (K : TblOk t) {xs ys rs zs : List Nat} (h : Prd t xs ys rs) (hz : Fit (2 ^ t.L) t.q zs) (e : ∀ k, k < 2 ^ t.L → Cg t.q (dft (2 ^ t.L) t.w (gt zs) k) (dft (2 ^ t.L) t.w (gt xs) k * dft (2 ^ t.L) t.w (gt ys) k)) : rs = zs :=
  dft_inj K h.1 hz fun k hk => (h.2 k hk).trans (e k hk).symm

end Go.Proofs.YtfcmdefigldpnaaGreatDoor


namespace Go.Proofs.YtfcmdefigldpnaaGreatDoor
set_option linter.unusedVariables false
set_option maxRecDepth 8000
open Go Go.Den Go.RowKit Go.Mth Go.Dig

theorem Tryz_ent34 : Ent Tryz.prog 34 := ent_of Tryz.func34 (by kernel_rfl) rfl
theorem clone_spec (v : Value) (xs : List Nat) (h : Hp) (s : SlF h U v xs) (hl : xs.length < 1000000) :
    CallsH Tryz.prog 34 [v] h fun v' h' => Ext h h' ∧ OwnF h' h.size 26 U v' xs := by
  (apply enter Tryz.func34 rfl Tryz.ntmps34 rfl)
  refine runH ?_
  (apply w_cond; exact rfl; exact rfl) <;> intro hn
  · obtain ⟨rfl, rfl⟩ := s.nilE hn
    refine runH ?_
    exact fin1 rfl rfl ⟨Ext.refl _, OwnF.nil _ _ _ _⟩
  · refine runH ?_
    (apply (s_litF (f := U) [] (fun _ => rfl)); exact rfl; exact rfl; exact rfl; exact rfl; exact rfl; exact rfl; exact rfl; exact rfl; omega)
    intro w h1 o1 e1 b1
    refine ⟨(by first | exact trivial | exact Ext.refl _ | assumption | exact Ext.trans (by assumption) (by assumption)), ?_⟩
    have s1 := s.ext e1
    refine runH ?_
    (apply (s_appendF (bytes := 8)); exact rfl; exact rfl; exact rfl; exact rfl; exact rfl; exact rfl; exact rfl; exact o1; exact s1; exact fun _ => rfl; (first | exact Nat.le_refl _ | exact ext_size (by assumption) | omega); ((try simp only [maxLen]); (try simp only [List.length_nil]); (try simp only [List.length_append]); omega); ((try simp only [List.length_nil]); (try simp only [List.length_append]); omega))
    intro w2 h2 o2 k2 b2
    refine ⟨(by first | exact trivial | exact Ext.refl _ | assumption | exact Ext.trans (by assumption) (by assumption)), ?_⟩
    refine runH ?_
    exact fin1 rfl rfl ⟨k2.old e1 fun j hj => by rw [b1] at hj; cases hj; exact Nat.le_refl _, o2⟩

/-- A prime that serves a ring of that size. -/
structure QOk (L q : Nat) : Prop where mk ::
  q61 : q < 2305843009213693952
  qm : q % (2 * 2 ^ L) = 1
  q1 : 1 < q
  is : isB q = true
  root : ∃ X, 2 ≤ X ∧ X < 18446744073709551615 ∧ powm (powm X ((q - 1) / 2 ^ (L + 1)) q) (2 ^ (L + 1) / 2) q = q - 1

/-- A table that lies in other blocks than that one. -/
structure TblSep (r : Option Nat) (x : Value × Tbl) : Prop where mk ::
  p : pblk x.1 ≠ r
  vr : x.2.vr.ownBlock = none ∨ x.2.vr.ownBlock ≠ r
  vu : x.2.vu.ownBlock = none ∨ x.2.vu.ownBlock ≠ r
theorem TblAt.only {h h' : Hp} {g : Value} {t : Tbl} {r : Option Nat} (s : TblAt h g t) (k : Only r h h') (e : TblSep r (g, t)) : TblAt h' g t := ⟨s.var.only k e.p, s.rr.only k e.vr, s.ru.only k e.vu⟩
theorem TblAt.lt {h : Hp} {g : Value} {t : Tbl} (K : TblOk t) (s : TblAt h g t) {b : Nat} (hb : h.size ≤ b) : TblSep (some b) (g, t) := by
  have hn := K.size
  have hp : ∀ w, 0 < (pows w t.q (2 ^ t.L)).length := fun w => by rw [pows_len]; omega
  refine ⟨?_, ?_, ?_⟩
  · obtain ⟨j, hj, hl⟩ := s.var.blk
    dsimp only
    rw [hj]; intro e; cases e; omega
  · cases hv : t.vr.ownBlock with
    | none => exact .inl rfl
    | some j =>
      refine .inr fun e => ?_
      cases e
      have := s.rr.lt (hp _) _ hv; omega
  · cases hv : t.vu.ownBlock with
    | none => exact .inl rfl
    | some j =>
      refine .inr fun e => ?_
      cases e
      have := s.ru.lt (hp _) _ hv; omega
theorem TblAt.sep0 {h : Hp} {g : Value} {t : Tbl} (s : TblAt h g t) : TblSep none (g, t) := by
  refine ⟨?_, ?_, ?_⟩
  · obtain ⟨j, hj, -⟩ := s.var.blk
    dsimp only
    rw [hj]; intro e; cases e
  · cases t.vr.ownBlock <;> simp
  · cases t.vu.ownBlock <;> simp
theorem NewT.sep {B b : Nat} {g : Value} {t : Tbl} (s : NewT B g t) (hb : b < B) : TblSep (some b) (g, t) := by
  obtain ⟨k, hk, hkl⟩ := s.p
  refine ⟨?_, ?_, ?_⟩
  · dsimp only
    rw [hk]; intro e; cases e; omega
  · cases hv : t.vr.ownBlock with
    | none => exact .inl rfl
    | some j =>
      refine .inr fun e => ?_
      cases e
      have := s.vr _ hv; omega
  · cases hv : t.vu.ownBlock with
    | none => exact .inl rfl
    | some j =>
      refine .inr fun e => ?_
      cases e
      have := s.vu _ hv; omega

/-- A ring. -/
structure RngD where mk ::
  L : Nat
  qs : List Nat
  ts : List (Value × Tbl)
  vq : Value
  vt : Value
structure RngAt (h : Hp) (g : Value) (R : RngD) : Prop where mk ::
  var : Var h g 166 [N (2 ^ R.L), R.vq, R.vt]
  rq : SlF h U R.vq R.qs
  rt : SlF h Prod.fst R.vt R.ts
  tb : ∀ x ∈ R.ts, TblAt h x.1 x.2
structure RngOk (R : RngD) : Prop where mk ::
  l1 : 1 ≤ R.L
  l9 : R.L ≤ 9
  q : ∀ q ∈ R.qs, QOk R.L q
  n0 : 0 < R.qs.length
  n24 : R.qs.length ≤ 24
  map : R.ts.map (fun x => x.2.q) = R.qs
  ok : ∀ x ∈ R.ts, TblOk x.2 ∧ x.2.L = R.L ∧ RootR x.2.q (2 ^ (R.L + 1)) x.2.w
theorem RngAt.ext {h h' : Hp} {g : Value} {R : RngD} (s : RngAt h g R) (e : Ext h h') : RngAt h' g R := ⟨s.var.ext e, s.rq.ext e, s.rt.ext e, fun x hx => (s.tb x hx).ext e⟩

theorem Tryz_ent68 : Ent Tryz.prog 68 := ent_of Tryz.func68 (by kernel_rfl) rfl
end Go.Proofs.YtfcmdefigldpnaaGreatDoor


namespace Go.Proofs.YtfcmdefigldpnaaGreatDoor
set_option linter.unusedVariables false
set_option maxRecDepth 8000
open Go Go.Den Go.RowKit Go.Mth Go.Dig

/-- An element as it lies. -/
structure PolAt (h : Hp) (v : Value) (rows : List (Value × List Nat)) : Prop where mk ::
  row : SlF h Prod.fst v rows
  el : ∀ x ∈ rows, SlF h U x.1 x.2
theorem PolAt.ext {h h' : Hp} {v : Value} {rows : List (Value × List Nat)} (s : PolAt h v rows) (e : Ext h h') : PolAt h' v rows := ⟨s.row.ext e, fun x hx => (s.el x hx).ext e⟩
/-- A row of rows that grows, beside a variable in the block p. -/
structure RowsAt (h : Hp) (B : Nat) (p : Option Nat) (v : Value) (rows : List (Value × List Nat)) : Prop where mk ::
  own : OwnF h B 22 Prod.fst v rows
  el : ∀ x ∈ rows, OwnF h B 26 U x.1 x.2
  ne : ∀ x ∈ rows, x.1.ownBlock = none ∨ x.1.ownBlock ≠ v.ownBlock
  np : ∀ x ∈ rows, x.1.ownBlock = none ∨ x.1.ownBlock ≠ p
  vp : v.ownBlock = none ∨ v.ownBlock ≠ p
theorem RowsAt.ext {h h' : Hp} {B : Nat} {p : Option Nat} {v : Value} {rows : List (Value × List Nat)} (s : RowsAt h B p v rows) (e : Ext h h') : RowsAt h' B p v rows :=
  ⟨s.own.ext e, fun x hx => (s.el x hx).ext e, s.ne, s.np, s.vp⟩
theorem RowsAt.nil (h : Hp) (B : Nat) (p : Option Nat) : RowsAt h B p (.slice none 0 0) [] :=
  RowsAt.mk (OwnF.nil _ _ _ _) (fun x hx => absurd hx List.not_mem_nil) (fun x hx => absurd hx List.not_mem_nil) (fun x hx => absurd hx List.not_mem_nil) (.inl rfl)
theorem RowsAt.pol {h : Hp} {B : Nat} {p : Option Nat} {v : Value} {rows : List (Value × List Nat)} (s : RowsAt h B p v rows) : PolAt h v rows := ⟨s.own.sl, fun x hx => (s.el x hx).sl⟩
theorem RowsAt.push {h4 h5 h6 : Hp} {B z pb : Nat} {v v5 w : Value} {rows : List (Value × List Nat)} {ws : List Nat} (S : RowsAt h4 B (some pb) v rows) (ow : OwnF h4 B 26 U w ws) (hw : ∀ k, w.ownBlock = some k → z ≤ k) (hv : ∀ k, v.ownBlock = some k → k < z) (hp : pb < z) (hz : z ≤ h4.size)
    (o5 : OwnF h5 B 22 Prod.fst v5 (rows ++ [(w, ws)])) (k5 : Only v.ownBlock h4 h5) (b5 : v5.ownBlock = v.ownBlock ∨ ∃ b, v5.ownBlock = some b ∧ h4.size ≤ b) (k6 : Only (some pb) h5 h6) : RowsAt h6 B (some pb) v5 (rows ++ [(w, ws)]) := by
  have nw : w.ownBlock = none ∨ w.ownBlock ≠ v.ownBlock := by
    cases hwb : w.ownBlock with
    | none => exact .inl rfl
    | some k =>
      refine .inr fun e => ?_
      have h1 := hw k hwb
      have h2 := hv k e.symm
      omega
  have nwp : w.ownBlock = none ∨ w.ownBlock ≠ some pb := by
    cases hwb : w.ownBlock with
    | none => exact .inl rfl
    | some k =>
      refine .inr fun e => ?_
      cases e
      have h1 := hw _ hwb
      omega
  have n5 : ∀ x : Value × List Nat, (∀ k, x.1.ownBlock = some k → k < h4.size) → (x.1.ownBlock = none ∨ x.1.ownBlock ≠ v.ownBlock) → x.1.ownBlock = none ∨ x.1.ownBlock ≠ v5.ownBlock := fun x hx hn => by
    rcases b5 with b5 | ⟨b, hb, hbl⟩
    · rw [b5]; exact hn
    · rw [hb]
      cases hxb : x.1.ownBlock with
      | none => exact .inl rfl
      | some k =>
        refine .inr fun e => ?_
        cases e
        have := hx _ hxb
        omega
  have v5p : v5.ownBlock = none ∨ v5.ownBlock ≠ some pb := by
    rcases b5 with b5 | ⟨b, hb, hbl⟩
    · rw [b5]; exact S.vp
    · refine .inr fun e => ?_
      rw [hb] at e; cases e
      omega
  refine ⟨o5.only k6 v5p, fun x hx => ?_, fun x hx => ?_, fun x hx => ?_, v5p⟩
  · rcases List.mem_append.1 hx with hx | hx
    · exact ((S.el x hx).only k5 (S.ne x hx)).only k6 (S.np x hx)
    · simp only [List.mem_singleton] at hx; subst hx
      exact (ow.only k5 nw).only k6 nwp
  · rcases List.mem_append.1 hx with hx | hx
    · exact n5 x (fun k hk => ((S.el x hx).blk k hk).2) (S.ne x hx)
    · simp only [List.mem_singleton] at hx; subst hx
      exact n5 _ (fun k hk => (ow.blk k hk).2) nw
  · rcases List.mem_append.1 hx with hx | hx
    · exact S.np x hx
    · simp only [List.mem_singleton] at hx; subst hx
      exact nwp

theorem RowsAt.low {h h' : Hp} {B b : Nat} {p : Option Nat} {v : Value} {rows : List (Value × List Nat)} (s : RowsAt h B p v rows) (k : Only (some b) h h') (hb : b < B) : RowsAt h' B p v rows := by
  have key : ∀ w : Value, (∀ j, w.ownBlock = some j → B ≤ j) → w.ownBlock = none ∨ w.ownBlock ≠ some b := fun w hw => by
    cases hv : w.ownBlock with
    | none => exact .inl rfl
    | some j =>
      refine .inr fun e => ?_
      cases e
      have := hw _ hv
      omega
  exact ⟨s.own.only k (key _ fun j hj => (s.own.blk j hj).1), fun x hx => (s.el x hx).only k (key _ fun j hj => ((s.el x hx).blk j hj).1), s.ne, s.np, s.vp⟩
theorem RowsAt.base {h : Hp} {B B' : Nat} {p : Option Nat} {v : Value} {rows : List (Value × List Nat)} (s : RowsAt h B p v rows) (hB : B' ≤ B) : RowsAt h B' p v rows :=
  ⟨s.own.base hB, fun x hx => (s.el x hx).base hB, s.ne, s.np, s.vp⟩

def liftL (xs : List Int) (q : Nat) : List Nat := xs.map fun x => liftm x q

theorem Tryz_ent55 : Ent Tryz.prog 55 := ent_of Tryz.func55 (by kernel_rfl) rfl
set_option maxHeartbeats 4000000 in
theorem ringLift_spec (g vv : Value) (R : RngD) (xs : List Int) (l : Nat) (h : Hp) (K : RngOk R) (A : RngAt h g R) (s : SlF h I vv xs) (hx : ∀ x ∈ xs, -9223372036854775808 ≤ x ∧ x < 9223372036854775808) (hl : xs.length = 2 ^ R.L) (hlev : l < R.qs.length) :
    CallsH Tryz.prog 55 [g, vv, N l] h fun v' h' => Ext h h' ∧ ∃ vr rows p, v' = .tuple #[.agg #[vr], N 0] ∧ RowsAt h' h.size p vr rows ∧ rows.map (·.2) = (R.qs.take (l + 1)).map (liftL xs) := by
  have hn : 2 ≤ 2 ^ R.L ∧ 2 ^ R.L ≤ 512 := ⟨Nat.pow_le_pow_right (n := 2) (by omega) K.l1, Nat.pow_le_pow_right (n := 2) (by omega) K.l9⟩
  have h24 := K.n24
  have G := A.var
  have rq := A.rq
  have hqk := K.q
  obtain ⟨L, qs, ts, vq, vt⟩ := R
  dsimp only at G rq hqk hn hl hlev h24 ⊢
  generalize 2 ^ L = n at *
  (apply enter Tryz.func55 rfl Tryz.ntmps55 rfl)
  refine runJ ?_
  (apply s_alloc; exact rfl; exact rfl; exact rfl)
  intro p6 h1 x1 e1 b1
  (try dsimp only [Value.cells, List.toList_toArray] at x1)
  refine ⟨(by first | exact trivial | exact Ext.refl _ | assumption | exact Ext.trans (by assumption) (by assumption)), ?_⟩
  have G1 := G.ext e1
  refine runJ ?_
  (apply w_condF; exact rfl; exact rfl; exact (show ¬ qs.length ≤ l by omega))
  refine runJ ?_
  (apply w_condF; exact rfl; exact rfl; exact (show ¬ xs.length ≠ n by omega))
  have c0 := rq.cut (lo := 0) (hi := l + 1) (Nat.zero_le _) (by omega)
  rw [List.drop_zero, Nat.sub_zero] at c0
  refine runJ ?_
  (apply (s_build ([.slice none 0 0])); exact rfl; exact rfl; exact rfl; (repeat (first | exact CellsAll.nil | (apply CellsAll.cons; (first | exact oneL (by assumption) | exact oneL (SlF.one (by assumption)) | exact oneL (SlF.one (OwnF.sl (by assumption))) | exact oneL (Var.one (by assumption)) | exact rfl)))); exact rfl; exact rfl)
  refine runJ ?_
  (apply s_alloc; exact rfl; exact rfl; exact rfl)
  intro p8 h2 x2 e2 b2
  (try dsimp only [Value.cells, List.toList_toArray] at x2)
  refine ⟨(by first | exact trivial | exact Ext.refl _ | assumption | exact Ext.trans (by assumption) (by assumption)), ?_⟩
  refine runJ ?_
  (apply s_storeV; exact rfl; exact rfl; exact rfl; (repeat (first | exact OneAll.nil | (apply OneAll.cons; (first | exact rfl | exact SlF.one (by assumption) | exact SlF.one (OwnF.sl (by assumption)) | exact Var.one (by assumption))))); exact rfl; exact rfl; exact x2; exact rfl)
  intro h3 x3 k3
  (try dsimp only [Value.cells, List.toList_toArray] at x3)
  refine ⟨(by first | exact trivial | exact Ext.refl _ | assumption | exact Ext.only (by assumption) _ | exact Only.trans (Ext.only (by assumption) _) (by assumption)), ?_⟩
  have e3 : Ext h1 h3 := k3.oldV e2 b2 (Nat.le_refl _)
  have e03 := e1.trans e3
  have G3 := G1.ext e3
  have x13 := x1.ext e3
  have q3 := rq.ext e03
  have c3 := q3.cut (lo := 0) (hi := l + 1) (Nat.zero_le _) (by omega)
  rw [List.drop_zero, Nat.sub_zero] at c3
  have hcl : (qs.take (l + 1)).length = l + 1 := by rw [List.length_take]; omega
  have hcq : ∀ q ∈ qs.take (l + 1), QOk L q := fun q hq => hqk q (List.mem_of_mem_take hq)
  have hk3s := k3.1
  have hb23 : h1.size < h3.size := by obtain ⟨j, hj, hlj⟩ := x3.blk; rw [b2] at hj; cases hj; exact hlj
  refine runJ ?_
  generalize qs.take (l + 1) = row at *
  (first | (apply w_seqB; exact rfl; apply w_block; exact rfl) | skip)
  apply (w_loop (σ := Nat × List (Value × List Nat) × Value) rfl (fun j => [(0, g), (1, vv), (6, p6), (8, p8), (47, cutV 1 vq 0 (l + 1)), (48, N row.length), (49, N j.1)])
    (fun j h' => Ext h1 h' ∧ h3.size ≤ h'.size ∧ j.1 ≤ row.length ∧ Var h' p8 56 [j.2.2] ∧ RowsAt h' h1.size (some h1.size) j.2.2 j.2.1 ∧ j.2.1.map (·.2) = (row.take j.1).map (liftL xs)) (fun j => row.length - j.1) (0, [], .slice none 0 0))
  · exact (Sub.cons rfl (Sub.cons rfl (Sub.cons rfl (Sub.cons rfl (Sub.cons rfl (Sub.cons rfl (Sub.cons rfl (Sub.nil _))))))))
  · exact ⟨e3, Nat.le_refl _, Nat.zero_le _, x3, RowsAt.nil _ _ _, rfl⟩
  rintro ⟨j, rows, vR⟩ h4 ⟨e4, z4, j1, x4, R4, m4⟩
  dsimp only at e4 z4 j1 x4 R4 m4 ⊢
  have G4 := G1.ext e4
  have s4 := s.ext (e1.trans e4)
  have c4 := c0.ext (e1.trans e4)
  have hpv : pblk p8 ≠ vR.ownBlock := by
    rw [b2]; intro e
    rcases R4.vp with h0 | h0
    · rw [h0] at e; cases e
    · exact h0 e.symm
  refine runJ ?_
  (apply w_condD; exact rfl; exact rfl) <;> intro hj
  · obtain ⟨q, hqj⟩ := get_lt hj
    have hq := hcq q (List.mem_of_getElem? hqj)
    have hq61 := hq.q61
    have hq1 := hq.q1
    have hrl : rows.length = j := by
      have := congrArg List.length m4
      rw [List.length_map, List.length_map, List.length_take] at this
      omega
    refine runJ ?_
    (apply (s_make (f := U) (bytes := 8) (0)); (first | exact isK_c | exact isK_t rfl); (first | exact isK_c | exact isK_t rfl); exact rfl; exact rfl; exact rfl; exact rfl; exact rfl; exact rfl; omega; omega; omega)
    intro w5 h5 o5 e5 b5
    refine ⟨(by first | exact trivial | exact Ext.refl _ | assumption | exact Ext.trans (by assumption) (by assumption)), ?_⟩
    refine runJ ?_
    (first | (apply w_seqB; exact rfl; apply w_block; exact rfl) | skip)
    apply (w_loop (σ := Nat × List Nat) rfl (fun k => [(0, g), (1, vv), (6, p6), (8, p8), (47, cutV 1 vq 0 (l + 1)), (48, N row.length), (49, N j), (10, U q), (11, w5), (58, vv), (59, N xs.length), (60, N k.1)])
      (fun k h' => Ext h4 h' ∧ k.1 ≤ n ∧ OwnF h' h4.size 26 U w5 k.2 ∧ k.2.length = n ∧ ∀ (i : Nat) (y : Nat), k.2[i]? = some y → y = if i < k.1 then liftm (xs.getD i 0) q else 0) (fun k => n - k.1) (0, List.replicate n 0))
    · exact (Sub.cons rfl (Sub.cons rfl (Sub.cons rfl (Sub.cons rfl (Sub.cons rfl (Sub.cons rfl (Sub.cons rfl (Sub.cons rfl (Sub.cons rfl (Sub.cons rfl (Sub.cons rfl (Sub.cons rfl (Sub.nil _)))))))))))))
    · exact ⟨e5, Nat.zero_le _, o5, by simp, fun i y hy => by rw [if_neg (Nat.not_lt_zero _)]; have := List.mem_of_getElem? hy; simp at this; exact this.2⟩
    clear o5
    rintro ⟨k, ys⟩ h6 ⟨e6, k1, o6, k2, k3⟩
    dsimp only at e6 k1 o6 k2 k3 ⊢
    have s6 := s4.ext e6
    refine runJ ?_
    (apply w_condD; exact rfl; exact rfl) <;> intro hk
    · obtain ⟨x, hxk⟩ := get_lt hk
      have hxb := hx x (List.mem_of_getElem? hxk)
      have hky : k < ys.length := by omega
      have hxg : xs.getD k 0 = x := by rw [List.getD_eq_getElem?_getD, hxk]; rfl
      refine runJ ?_
      apply (s_call Tryz_ent110 rfl rfl rfl)
      refine (lift_spec x q h6 hxb (by omega)).mono ?_
      rintro _ _ ⟨rfl, rfl⟩
      refine ⟨(by first | exact trivial | exact Ext.refl _ | assumption | exact Ext.trans (by assumption) (by assumption)), ?_⟩
      refine runJ ?_
      (apply (s_storeF (liftm x q)); exact rfl; exact rfl; exact rfl; exact rfl; exact rfl; exact o6; exact rfl; (first | assumption | omega))
      intro h7 o7 k7
      refine ⟨(by first | exact trivial | exact Ext.refl _ | assumption | exact Ext.trans (by assumption) (by assumption)), ?_⟩
      refine runJ ?_
      apply again_normal (k + 1, ys.set k (liftm x q))
      · exact (Sub.cons rfl (Sub.cons rfl (Sub.cons rfl (Sub.cons rfl (Sub.cons rfl (Sub.cons rfl (Sub.cons rfl (Sub.cons rfl (Sub.cons rfl (Sub.cons rfl (Sub.cons rfl (Sub.cons rfl (Sub.nil _)))))))))))))
      · refine ⟨o6.old k7 e6 (Nat.le_refl _), by dsimp only; omega, o7, by simp [k2], fun i y hy => ?_⟩
        dsimp only at hy ⊢
        rcases set_get hky hy with ⟨rfl, rfl⟩ | ⟨hik, hy⟩
        · rw [if_pos (by omega), hxg]
        · rw [k3 i y hy]
          by_cases hi : i < k
          · rw [if_pos hi, if_pos (show i < k + 1 by omega)]
          · rw [if_neg hi, if_neg (show ¬ i < k + 1 by omega)]
      · dsimp only; omega
    · have hys : ys = liftL xs q := by
        refine list_eq (by unfold liftL; rw [List.length_map]; omega) fun i a b ha hb => ?_
        have hi := (List.getElem?_eq_some_iff.1 ha).1
        rw [k3 i a ha, if_pos (by omega)]
        obtain ⟨x, hxi⟩ := get_lt (l := xs) (j := i) (by omega)
        unfold liftL at hb
        rw [List.getElem?_map, hxi] at hb
        rw [List.getD_eq_getElem?_getD, hxi]
        exact Option.some.inj hb
      subst hys
      have R6 := R4.ext e6
      have x6 := x4.ext e6
      have e16 := e4.trans e6
      have o6one := o6.sl.one
      refine runJ ?_
      (refine s_app1V (bytes := 24) ((w5, liftL xs q)) R6.own e16 rfl rfl rfl rfl rfl rfl rfl rfl rfl (by first | exact rfl | exact congrArg some (congrArg I (by omega))) o6one rfl rfl (fun _ _ => trivial) (by omega) (by simp only [maxLen]; omega) ?_)
      intro v7 h7 o7 e7 k7 b7
      have x7 := x6.only k7 hpv
      refine runJ ?_
      (apply s_storeC; exact rfl; exact rfl; (first | exact rfl | exact SlF.one (by assumption) | exact SlF.one (OwnF.sl (by assumption)) | exact Var.one (by assumption)); exact rfl; exact rfl; exact x7; exact rfl)
      intro h8 x8 k8
      refine ⟨(by first | exact trivial | exact Ext.refl _ | assumption | exact Ext.only (by assumption) _ | exact Only.trans (Ext.only (by assumption) _) (by assumption)), ?_⟩
      have e8 : Ext h1 h8 := k8.oldV e7 b2 (Nat.le_refl _)
      rw [b2] at k8
      have R8 := R6.push (z := h4.size) (o6.base (Nat.le_trans e2.1 (Nat.le_trans hk3s z4))) (fun k hk => (o6.blk k hk).1) (fun k hk => (R4.own.blk k hk).2) (Nat.lt_of_lt_of_le hb23 z4) e6.1 o7 k7 b7 k8
      refine runJ ?_
      apply again_normal (j + 1, rows ++ [(w5, liftL xs q)], v7)
      · exact (Sub.cons rfl (Sub.cons rfl (Sub.cons rfl (Sub.cons rfl (Sub.cons rfl (Sub.cons rfl (Sub.cons rfl (Sub.nil _))))))))
      · refine ⟨e8, Nat.le_trans z4 (Nat.le_trans e6.1 (Nat.le_trans k7.1 k8.1)), hj, x8, R8, ?_⟩
        dsimp only
        rw [List.map_append, m4, take_snoc hqj, List.map_append]; rfl
      · dsimp only; omega
  · have hjn : j = row.length := by omega
    subst hjn
    rw [List.take_length] at m4
    have x14 := x1.ext e4
    refine runJ ?_
    (apply s_storeV; exact rfl; exact rfl; exact rfl; exact (OneAll.cons R4.own.sl.one OneAll.nil : OneAll [vR]); exact rfl; exact rfl; exact x14; exact rfl)
    intro h5 x5 k5
    refine ⟨trivial, ?_⟩
    have x5 : Var h5 p6 56 [vR] := x5
    have e5 : Ext h h5 := k5.oldV (e1.trans e4) b1 (Nat.le_refl _)
    rw [b1] at k5
    have hb01 : h.size < h1.size := by obtain ⟨b, hb, hlb⟩ := x1.blk; rw [b1] at hb; cases hb; exact hlb
    refine runJ ?_
    exact finCT rfl rfl rfl x5 rfl rfl ⟨e5, _, rows, _, rfl, (R4.low k5 hb01).base e1.1, m4⟩
end Go.Proofs.YtfcmdefigldpnaaGreatDoor


namespace Go.Proofs.YtfcmdefigldpnaaGreatDoor
set_option linter.unusedVariables false
set_option maxRecDepth 8000
open Go Go.Den Go.RowKit Go.Mth Go.Dig

theorem Tryz_ent107 : Ent Tryz.prog 107 := ent_of Tryz.func107 (by kernel_rfl) rfl
theorem level1_spec (x q i : Nat) (p2 p6 g vq vt : Value) (n : Nat) (qs : List Nat) (h : Hp) (P2 : Var h p2 105 [g]) (P6 : Var h p6 3 [N i]) (G : Var h g 166 [N n, vq, vt]) (s : SlF h U vq qs) (hi : qs[i]? = some q) :
    CallsH Tryz.prog 107 [U x, p2, p6] h fun v' h' => v' = .bool (decide (q ≤ x)) ∧ h = h' := by
  (apply enter Tryz.func107 rfl Tryz.ntmps107 rfl)
  refine runJ ?_
  exact fin1 rfl rfl ⟨rfl, rfl⟩

theorem Tryz_ent152 : Ent Tryz.prog 152 := ent_of Tryz.func152 (by kernel_rfl) rfl
theorem indexFunc_spec (v p2 p6 g vq vt : Value) (xs : List Nat) (q i n : Nat) (qs : List Nat) (h : Hp) (s : SlF h U v xs) (P2 : Var h p2 105 [g]) (P6 : Var h p6 3 [N i]) (G : Var h g 166 [N n, vq, vt]) (sq : SlF h U vq qs) (hi : qs[i]? = some q) (hx : ∀ x ∈ xs, x < q) (hl : xs.length < 1000000) :
    CallsH Tryz.prog 152 [v, .func (.func 107) #[] #[p2, p6]] h fun v' h' => v' = I (-1) ∧ h = h' := by
  (apply enter Tryz.func152 rfl Tryz.ntmps152 rfl)
  refine runJ ?_
  (first | (apply w_seqB; exact rfl; apply w_block; exact rfl) | skip)
  apply (w_loop (σ := Nat) rfl (fun j => [(0, v), (1, .func (.func 107) #[] #[p2, p6]), (6, v), (7, N xs.length), (8, N j)])
    (fun j h' => h = h' ∧ j ≤ xs.length) (fun j => xs.length - j) 0)
  · exact (Sub.cons rfl (Sub.cons rfl (Sub.cons rfl (Sub.cons rfl (Sub.cons rfl (Sub.nil _))))))
  · exact ⟨rfl, Nat.zero_le _⟩
  rintro j h' ⟨rfl, j1⟩
  refine runJ ?_
  (apply w_condD; exact rfl; exact rfl) <;> intro hj
  · obtain ⟨x, hxj⟩ := get_lt hj
    have hxq := hx x (List.mem_of_getElem? hxj)
    have LV := level1_spec x q i p2 p6 g vq vt n qs h P2 P6 G sq hi
    rw [decide_eq_false (show ¬ q ≤ x by omega)] at LV
    refine runJ ?_
    refine s_callV rfl Tryz_ent107 rfl rfl rfl ?_
    refine (LV).mono ?_
    rintro _ _ ⟨rfl, rfl⟩
    refine ⟨(by first | exact trivial | exact trivial), ?_⟩
    refine runJ ?_
    apply again_normal (j + 1)
    · exact (Sub.cons rfl (Sub.cons rfl (Sub.cons rfl (Sub.cons rfl (Sub.cons rfl (Sub.nil _))))))
    · exact ⟨rfl, hj⟩
    · omega
  · refine runJ ?_
    exact fin1 rfl rfl ⟨rfl, rfl⟩
theorem Tryz_ent106 : Ent Tryz.prog 106 := ent_of Tryz.func106 (by kernel_rfl) rfl
theorem containsFunc_spec (v p2 p6 g vq vt : Value) (xs : List Nat) (q i n : Nat) (qs : List Nat) (h : Hp) (s : SlF h U v xs) (P2 : Var h p2 105 [g]) (P6 : Var h p6 3 [N i]) (G : Var h g 166 [N n, vq, vt]) (sq : SlF h U vq qs) (hi : qs[i]? = some q) (hx : ∀ x ∈ xs, x < q) (hl : xs.length < 1000000) :
    CallsH Tryz.prog 106 [v, .func (.func 107) #[] #[p2, p6]] h fun v' h' => v' = .bool false ∧ h = h' := by
  (apply enter Tryz.func106 rfl Tryz.ntmps106 rfl)
  refine runJ ?_
  apply (s_call Tryz_ent152 rfl rfl rfl)
  refine (indexFunc_spec v p2 p6 g vq vt xs q i n qs h s P2 P6 G sq hi hx hl).mono ?_
  rintro _ _ ⟨rfl, rfl⟩
  refine ⟨(by first | exact trivial | exact trivial), ?_⟩
  refine runJ ?_
  exact fin1 rfl rfl ⟨rfl, rfl⟩

/-- A right element of a ring. -/
structure PolOk (R : RngD) (rows : List (Value × List Nat)) : Prop where mk ::
  n0 : 0 < rows.length
  le : rows.length ≤ R.qs.length
  fit : ∀ (i q : Nat) (x : Value × List Nat), rows[i]? = some x → R.qs[i]? = some q → Fit (2 ^ R.L) q x.2

theorem Tryz_ent51 : Ent Tryz.prog 51 := ent_of Tryz.func51 (by kernel_rfl) rfl
set_option maxHeartbeats 2000000 in
theorem level_spec (g vr : Value) (R : RngD) (rows : List (Value × List Nat)) (h : Hp) (K : RngOk R) (A : RngAt h g R) (S : PolAt h vr rows) (P : PolOk R rows) :
    CallsH Tryz.prog 51 [g, .agg #[vr]] h fun v' h' => v' = .tuple #[N (rows.length - 1), N 0] ∧ Ext h h' := by
  have hn : 2 ≤ 2 ^ R.L ∧ 2 ^ R.L ≤ 512 := ⟨Nat.pow_le_pow_right (n := 2) (by omega) K.l1, Nat.pow_le_pow_right (n := 2) (by omega) K.l9⟩
  have h24 := K.n24
  have G := A.var
  have rq := A.rq
  have pn := P.n0
  have pl := P.le
  have pf := P.fit
  have sr := S.row
  have se := S.el
  obtain ⟨L, qs, ts, vq, vt⟩ := R
  dsimp only at G rq hn h24 pl pf ⊢
  generalize 2 ^ L = n at *
  obtain ⟨gb, hgp, hgc⟩ := G
  subst hgp
  have G : Var h (.pointer (some ⟨gb, 0, none⟩)) 166 [N n, vq, vt] := ⟨gb, rfl, hgc⟩
  clear hgc
  (apply enter Tryz.func51 rfl Tryz.ntmps51 rfl)
  refine runJ ?_
  (apply s_box; exact rfl; exact rfl; exact rfl; exact rfl)
  intro p2 h1 x1 e1 b1
  (try dsimp only [Value.cells, List.toList_toArray] at x1)
  refine ⟨(by first | exact trivial | exact Ext.refl _ | assumption | exact Ext.trans (by assumption) (by assumption)), ?_⟩
  refine runJ ?_
  (apply s_box; exact rfl; exact rfl; exact rfl; exact rfl)
  intro p3 h2 x3 e2 b2
  (try dsimp only [Value.cells, List.toList_toArray] at x3)
  refine ⟨(by first | exact trivial | exact Ext.refl _ | assumption | exact Ext.trans (by assumption) (by assumption)), ?_⟩
  have x1 : Var h1 p2 105 [.pointer (some ⟨gb, 0, none⟩)] := x1
  have x2 := x1.ext e2
  have e12 := e1.trans e2
  have G2 := G.ext e12
  generalize Value.pointer (some ⟨gb, 0, none⟩) = g at *
  have q2 := rq.ext e12
  have r2 := sr.ext e12
  refine runJ ?_
  rw [decide_eq_false (show ¬ rows.length < 1 by omega)]
  refine runJ ?_
  rw [decide_eq_false (show ¬ qs.length < rows.length by omega)]
  refine runJ ?_
  (first | (apply w_seqB; exact rfl; apply w_block; exact rfl) | skip)
  apply (w_loop (σ := Nat) rfl (fun j => [(2, p2), (3, p3), (26, vr), (27, N rows.length), (28, N j)])
    (fun j h' => Ext h h' ∧ Ext h2 h' ∧ j ≤ rows.length) (fun j => rows.length - j) 0)
  · exact (Sub.cons rfl (Sub.cons rfl (Sub.cons rfl (Sub.cons rfl (Sub.cons rfl (Sub.nil _))))))
  · exact ⟨e12, Ext.refl _, Nat.zero_le _⟩
  rintro j h3 ⟨e03, e3, j1⟩
  have G3 := G2.ext e3
  have x23 := x2.ext e3
  have x33 := x3.ext e3
  have q3 := q2.ext e3
  have r3 := r2.ext e3
  refine runJ ?_
  (apply w_condD; exact rfl; exact rfl) <;> intro hj
  · obtain ⟨x, hxj⟩ := get_lt hj
    obtain ⟨q, hqj⟩ := get_lt (l := qs) (j := j) (by omega)
    have fx := pf j q x hxj hqj
    have hm := List.mem_of_getElem? hxj
    have sx := (se x hm).ext e03
    obtain ⟨vx, ws⟩ := x
    dsimp only at sx fx ⊢
    have hwl := fx.1
    refine runJ ?_
    (apply s_alloc; exact rfl; exact rfl; exact rfl)
    intro p6 h5 x5 e5 b5
    (try dsimp only [Value.cells, List.toList_toArray] at x5)
    refine ⟨(by first | exact trivial | exact Ext.refl _ | assumption | exact Ext.trans (by assumption) (by assumption)), ?_⟩
    refine runJ ?_
    (apply s_storeV; exact rfl; exact rfl; exact rfl; (repeat (first | exact OneAll.nil | (apply OneAll.cons; (first | exact rfl | exact SlF.one (by assumption) | exact SlF.one (OwnF.sl (by assumption)) | exact Var.one (by assumption))))); exact rfl; exact rfl; exact x5; exact rfl)
    intro h6 x6 k6
    (try dsimp only [Value.cells, List.toList_toArray] at x6)
    refine ⟨(by first | exact trivial | exact Ext.refl _ | assumption | exact Ext.only (by assumption) _ | exact Only.trans (Ext.only (by assumption) _) (by assumption)), ?_⟩
    have x6 : Var h6 p6 3 [N j] := x6
    have e36 : Ext h3 h6 := k6.oldV e5 b5 (Nat.le_refl _)
    have G6 := G3.ext e36
    have x26 := x23.ext e36
    have q6 := q3.ext e36
    have s6 := sx.ext e36
    have hv1 := s6.one
    refine runJ ?_
    rw [decide_eq_false (show ¬ ws.length ≠ n by omega)]
    refine runJ ?_
    apply (s_call Tryz_ent106 rfl rfl rfl)
    refine (containsFunc_spec vx p2 p6 g vq vt ws q j n qs h6 s6 x26 x6 G6 q6 hqj fx.2 (by omega)).mono ?_
    rintro _ _ ⟨rfl, rfl⟩
    refine ⟨(by first | exact trivial | exact trivial), ?_⟩
    refine runJ ?_
    apply again_normal (j + 1)
    · exact (Sub.cons rfl (Sub.cons rfl (Sub.cons rfl (Sub.cons rfl (Sub.cons rfl (Sub.nil _))))))
    · exact ⟨e03.trans e36, e3.trans e36, hj⟩
    · omega
  · refine runJ ?_
    exact fin2 rfl rfl rfl ⟨rfl, e03⟩
end Go.Proofs.YtfcmdefigldpnaaGreatDoor

