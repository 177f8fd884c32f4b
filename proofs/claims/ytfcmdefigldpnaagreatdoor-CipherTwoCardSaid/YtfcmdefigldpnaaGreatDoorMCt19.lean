/- Texts TpeB to TpeC of this work, joined, without what the law does not lean on. -/
import Derived.Test.YtfcmdefigldpnaaGreatDoorMCt18
namespace Go.Proofs.YtfcmdefigldpnaaGreatDoor
set_option linter.unusedVariables false
set_option maxRecDepth 8000
open Go Go.Den Go.RowKit Go.Dig

/-- So many bits, counted one by one. -/
def pcS (x : Nat) : Nat → Nat
  | 0 => 0
  | i + 1 => pcS x i + x / 2 ^ i % 2
def errS (w d : Nat) : Nat → Int
  | 0 => 0
  | i + 1 => errS w d i + ((d / 2 ^ i % 2 : Nat) : Int) - ((d / 2 ^ (w + i) % 2 : Nat) : Int)
def onesB (k : Nat) : Bool := (List.range 4096).all fun x => Nat.beq (ones (4096 * k + x)) (pcS (4096 * k + x) 16)
theorem onesB_of {k x : Nat} (h : onesB k = true) (h1 : 4096 * k ≤ x) (h2 : x < 4096 * (k + 1)) : ones x = pcS x 16 := by
  unfold onesB at h
  have := List.all_eq_true.1 h (x - 4096 * k) (List.mem_range.2 (by omega))
  rw [show 4096 * k + (x - 4096 * k) = x by omega] at this
  exact Nat.eq_of_beq_eq_true this
theorem ones_chk_0 : onesB 0 = true := by decide +kernel
theorem ones_chk_1 : onesB 1 = true := by decide +kernel
theorem ones_chk_2 : onesB 2 = true := by decide +kernel
theorem ones_chk_3 : onesB 3 = true := by decide +kernel
theorem ones_chk_4 : onesB 4 = true := by decide +kernel
theorem ones_chk_5 : onesB 5 = true := by decide +kernel
theorem ones_chk_6 : onesB 6 = true := by decide +kernel
theorem ones_chk_7 : onesB 7 = true := by decide +kernel
theorem ones_chk_8 : onesB 8 = true := by decide +kernel
theorem ones_chk_9 : onesB 9 = true := by decide +kernel
theorem ones_chk_10 : onesB 10 = true := by decide +kernel
theorem ones_chk_11 : onesB 11 = true := by decide +kernel
theorem ones_chk_12 : onesB 12 = true := by decide +kernel
theorem ones_chk_13 : onesB 13 = true := by decide +kernel
theorem ones_chk_14 : onesB 14 = true := by decide +kernel
theorem ones_chk_15 : onesB 15 = true := by decide +kernel
theorem ones_pc {x : Nat} (h : x < 65536) : ones x = pcS x 16 := by
  have : x / 4096 < 16 := by omega
  rcases (show x / 4096 = 0 ∨ x / 4096 = 1 ∨ x / 4096 = 2 ∨ x / 4096 = 3 ∨ x / 4096 = 4 ∨ x / 4096 = 5 ∨ x / 4096 = 6 ∨ x / 4096 = 7 ∨ x / 4096 = 8 ∨ x / 4096 = 9 ∨ x / 4096 = 10 ∨ x / 4096 = 11 ∨ x / 4096 = 12 ∨ x / 4096 = 13 ∨ x / 4096 = 14 ∨ x / 4096 = 15 by omega) with h | h | h | h | h | h | h | h | h | h | h | h | h | h | h | h
  · exact onesB_of ones_chk_0 (by omega) (by omega)
  · exact onesB_of ones_chk_1 (by omega) (by omega)
  · exact onesB_of ones_chk_2 (by omega) (by omega)
  · exact onesB_of ones_chk_3 (by omega) (by omega)
  · exact onesB_of ones_chk_4 (by omega) (by omega)
  · exact onesB_of ones_chk_5 (by omega) (by omega)
  · exact onesB_of ones_chk_6 (by omega) (by omega)
  · exact onesB_of ones_chk_7 (by omega) (by omega)
  · exact onesB_of ones_chk_8 (by omega) (by omega)
  · exact onesB_of ones_chk_9 (by omega) (by omega)
  · exact onesB_of ones_chk_10 (by omega) (by omega)
  · exact onesB_of ones_chk_11 (by omega) (by omega)
  · exact onesB_of ones_chk_12 (by omega) (by omega)
  · exact onesB_of ones_chk_13 (by omega) (by omega)
  · exact onesB_of ones_chk_14 (by omega) (by omega)
  · exact onesB_of ones_chk_15 (by omega) (by omega)
theorem pcS_mod (x w : Nat) : ∀ k, k ≤ w → pcS (x % 2 ^ w) k = pcS x k
  | 0, _ => rfl
  | k + 1, h => by
    unfold pcS
    rw [pcS_mod x w k (by omega)]
    congr 1
    rw [show w = k + (w - k) by omega, Nat.pow_add, Nat.mod_mul_right_div_self, Nat.mod_mod_of_dvd]
    exact ⟨2 ^ (w - k - 1), by rw [← Nat.pow_succ']; congr 1; omega⟩
theorem pcS_high (x w : Nat) (h : x < 2 ^ w) : ∀ k, pcS x (w + k) = pcS x w
  | 0 => rfl
  | k + 1 => by
    show pcS x (w + k) + x / 2 ^ (w + k) % 2 = _
    rw [pcS_high x w h k, Nat.div_eq_of_lt (Nat.lt_of_lt_of_le h (Nat.pow_le_pow_right (by decide) (by omega))), Nat.zero_mod, Nat.add_zero]
theorem ones_low (d w : Nat) (hw : w ≤ 16) : ones (d &&& 1 * 2 ^ w - 1) = pcS d w := by
  rw [Nat.one_mul, Nat.and_two_pow_sub_one_eq_mod]
  have p0 : 0 < 2 ^ w := Nat.two_pow_pos w
  have hlt := Nat.mod_lt d p0
  have p1 : 2 ^ w ≤ 65536 := by
    have := Nat.pow_le_pow_right (n := 2) (by omega) hw
    simpa using this
  rw [ones_pc (by omega), show 16 = w + (16 - w) by omega, pcS_high _ _ hlt, pcS_mod d w w (Nat.le_refl _)]
theorem errS_eq (w d : Nat) : ∀ k, errS w d k = ((pcS d k : Nat) : Int) - ((pcS (d / 2 ^ w) k : Nat) : Int)
  | 0 => rfl
  | k + 1 => by
    unfold errS pcS
    rw [errS_eq w d k, Nat.div_div_eq_div_mul, ← Nat.pow_add]
    omega
/-- The error that a draw tells. -/
def errV (w d : Nat) : Int := errS w d w
theorem errV_ones (w d : Nat) (hw : w ≤ 16) : ((ones (d &&& 1 * 2 ^ w - 1) : Nat) : Int) - ((ones (d / 2 ^ w &&& 1 * 2 ^ w - 1) : Nat) : Int) = errV w d := by
  unfold errV
  rw [ones_low d w hw, ones_low (d / 2 ^ w) w hw, errS_eq]
theorem pcS_le (x : Nat) : ∀ k, pcS x k ≤ k
  | 0 => Nat.le_refl _
  | k + 1 => by
    unfold pcS
    have := pcS_le x k
    omega
theorem errV_le (w d : Nat) : -(w : Int) ≤ errV w d ∧ errV w d ≤ w := by
  unfold errV
  rw [errS_eq]
  have h1 := pcS_le d w
  have h2 := pcS_le (d / 2 ^ w) w
  omega
def firstE (w : Nat) : List Nat → Option (Int × List Nat)
  | [] => none
  | d :: ds => some (errV w d, ds)

theorem errorP_spec (t : Value) (B : Option Nat) (w : Nat) (ds : List Nat) (h : Hp) (s : TapeAt h t B ds false) (hw : 1 ≤ w) (hw2 : w ≤ 16) :
    CallsH Tryz.prog 109 [t, N w] h fun v' h' => Only (pblk t) h h' ∧ GotP I (N 0) h' t B v' (firstE w ds) := by
  refine (error_spec t B w ds false h s hw hw2).mono ?_
  rintro v' h' ⟨k, h1 | h1⟩
  · obtain ⟨rfl, -, T, hd⟩ := h1
    have hd : ds = [] := hd.resolve_left (by simp)
    subst hd
    exact ⟨k, rfl, T (.inl rfl)⟩
  · obtain ⟨r, ds', rfl, -, -, -, ⟨d, rfl, rfl⟩, T, -⟩ := h1
    rw [errV_ones w d hw2]
    exact ⟨k, rfl, T⟩
end Go.Proofs.YtfcmdefigldpnaaGreatDoor


namespace Go.Proofs.YtfcmdefigldpnaaGreatDoor
set_option linter.unusedVariables false
set_option maxRecDepth 8000
open Go Go.Den Go.RowKit Go.Dig

def RowP {α : Type} (f : α → Value) (e : TypeId) (h h' : Hp) (t : Value) (B : Option Nat) (v' : Value) : Option (List α × List Nat) → Prop
  | none => v' = .tuple #[.slice none 0 0, N 11] ∧ TapeAt h' t B [] true
  | some (rs, ds) => ∃ u, v' = .tuple #[u, N 0] ∧ OwnF h' h.size e f u rs ∧ TapeAt h' t B ds false

theorem prow_spec (t : Value) (B : Option Nat) (n : Nat) (ds : List Nat) (F : FuncId) (fs cs : List Value) (g : List Nat → Option (Int × List Nat)) (h : Hp) (s : TapeAt h t B ds false) (hn : 1 ≤ n) (hn2 : n ≤ 4096) (he : Ent Tryz.prog F)
    (C : ∀ ds h', Only (pblk t) h h' → TapeAt h' t B ds false → CallsH Tryz.prog F (fs ++ [] ++ cs) h' fun v h'' => Only (pblk t) h' h'' ∧ GotP I (N 0) h'' t B v (g ds)) :
    CallsH Tryz.prog 102 [N n, .func (.func F) fs.toArray cs.toArray] h fun v' h' => Only (pblk t) h h' ∧ RowP I 2 h h' t B v' (rowG g n ds) := by
  (apply enter Tryz.func102 rfl Tryz.ntmps102 rfl)
  refine runH ?_
  (apply (s_make (f := I) (bytes := 8) (0)); (first | exact isK_c | exact isK_t rfl); (first | exact isK_c | exact isK_t rfl); exact rfl; exact rfl; exact rfl; exact rfl; exact rfl; exact rfl; omega; omega; omega)
  intro u h1 o1 e1 b1
  refine ⟨(by first | exact trivial | exact Ext.refl _ | assumption | exact Ext.trans (by assumption) (by assumption)), ?_⟩
  refine runH ?_
  rw [List.length_replicate]
  have s1 := s.ext e1
  obtain ⟨pk, hpk, hpl⟩ := s.pb
  have hBlt := s.bl
  have hpk' : ∀ j, pblk t = some j → j < h.size := fun j hj => by rw [hpk] at hj; cases hj; exact hpl
  generalize hZ : rowG g n ds = Z
  apply (w_loop (σ := Nat × List Int × List Nat) rfl (fun p => [(14, N p.1), (13, N n), (6, u), (1, .func (.func F) fs.toArray cs.toArray)])
    (fun p h' => Only (pblk t) h h' ∧ OwnF h' h.size 2 I u (p.2.1 ++ List.replicate (n - p.1) 0) ∧ TapeAt h' t B p.2.2 false ∧ p.2.1.length = p.1 ∧ p.1 ≤ n ∧
      Z = preG p.2.1 (rowG g (n - p.1) p.2.2)) (fun p => n - p.1) (0, [], ds))
  · exact (Sub.cons rfl (Sub.cons rfl (Sub.cons rfl (Sub.cons rfl (Sub.nil _)))))
  · refine ⟨e1.only _, by simpa using o1, s1, rfl, Nat.zero_le _, ?_⟩
    dsimp only
    rw [← hZ, Nat.sub_zero, preG_nil]
  · rintro ⟨i, rs, ds'⟩ h2 ⟨d1, d2, d3, d4, d5, d7⟩
    dsimp only at d2 d3 d4 d5 d7 ⊢
    refine runH ?_
    (apply w_condD; exact rfl; exact rfl) <;> intro hi
    · refine runH ?_
      refine (s_callV (fs := fs) (cs := cs) (vs := []) (args := []) rfl he rfl rfl rfl ?_)
      refine (C ds' h2 d1 d3).mono ?_
      rintro r h3 ⟨k3, T⟩
      refine ⟨trivial, ?_⟩
      have d1' := d1.trans k3
      have hne : u.ownBlock = none ∨ u.ownBlock ≠ pblk t := d2.neV hpk hpl
      have o3 := d2.only k3 hne
      obtain ⟨m, hm⟩ : ∃ m, n - i = m + 1 := ⟨n - i - 1, by omega⟩
      rw [hm] at d7
      cases hf : g ds' with
      | none =>
        rw [hf] at T
        obtain ⟨rfl, T⟩ := T
        obtain rfl := rowG_fail d7 hf
        refine runH ?_
        exact fin2 rfl rfl rfl ⟨d1', rfl, T⟩
      | some q =>
        obtain ⟨r1, ds1⟩ := q
        rw [hf] at T
        obtain ⟨rfl, T⟩ := T
        have hil : i < (rs ++ List.replicate (n - i) 0).length := by simp only [List.length_append, List.length_replicate]; omega
        refine runH ?_
        (apply (s_storeF (r1)); exact rfl; exact rfl; exact rfl; exact rfl; exact rfl; exact o3; exact rfl; (first | assumption | omega))
        intro h4 o4 k4
        refine ⟨(by first | exact trivial | exact Ext.refl _ | assumption | exact Ext.trans (by assumption) (by assumption)), ?_⟩
        rw [b1] at k4
        have hT : TapeAt h4 t B ds1 false := T.own k4 (M := h.size) hpk' hBlt (fun j hj => by cases hj; exact Nat.le_refl _)
        have d1'' : Only (pblk t) h h4 := only_own d1' k4 fun j hj => by cases hj; exact Nat.le_refl _
        have hset : (rs ++ List.replicate (n - i) 0).set i r1 = (rs ++ [r1]) ++ List.replicate (n - (i + 1)) 0 := by
          rw [hm, show n - (i + 1) = m by omega, List.replicate_succ, List.set_append_right _ _ (by omega), show i - rs.length = 0 by omega]
          simp
        rw [hset] at o4
        refine runH ?_
        apply again_normal (i + 1, rs ++ [r1], ds1)
        · exact (Sub.cons rfl (Sub.cons rfl (Sub.cons rfl (Sub.cons rfl (Sub.nil _)))))
        · refine ⟨d1'', o4, hT, by simp [d4], hi, ?_⟩
          dsimp only
          rw [show n - (i + 1) = m by omega]
          exact rowG_step d7 hf
        · dsimp only; omega
    · have hi' : i = n := by omega
      subst hi'
      rw [Nat.sub_self] at d7
      rw [rowG_zero d7]
      refine runH ?_
      refine fin2 rfl rfl rfl ⟨d1, u, rfl, by simpa using d2, d3⟩

theorem Tryz_ent108 : Ent Tryz.prog 108 := ent_of Tryz.func108 (by kernel_rfl) rfl
theorem errors1_spec (t p3 p5 : Value) (B : Option Nat) (w : Nat) (ds : List Nat) (h : Hp) (s : TapeAt h t B ds false) (x3 : Var h p3 38 [t]) (x5 : Var h p5 3 [N w]) (hw : 1 ≤ w) (hw2 : w ≤ 16) :
    CallsH Tryz.prog 108 [p3, p5] h fun v' h' => Only (pblk t) h h' ∧ GotP I (N 0) h' t B v' (firstE w ds) := by
  (apply enter Tryz.func108 rfl Tryz.ntmps108 rfl)
  refine runH ?_
  apply (s_call Tryz_ent109 rfl rfl rfl)
  refine (errorP_spec t B w ds h s hw hw2).mono ?_
  rintro v h1 ⟨k1, G⟩
  refine ⟨(by first | exact trivial | exact trivial), ?_⟩
  cases hf : firstE w ds with
  | none =>
    rw [hf] at G
    obtain ⟨rfl, T⟩ := G
    refine runH ?_
    exact fin2 rfl rfl rfl ⟨k1, rfl, T⟩
  | some q =>
    obtain ⟨r, ds'⟩ := q
    rw [hf] at G
    obtain ⟨rfl, T⟩ := G
    refine runH ?_
    exact fin2 rfl rfl rfl ⟨k1, rfl, T⟩
theorem errorsP_spec (t : Value) (B : Option Nat) (n w : Nat) (ds : List Nat) (h : Hp) (s : TapeAt h t B ds false) (hn : 1 ≤ n) (hn2 : n ≤ 4096) (hw : 1 ≤ w) (hw2 : w ≤ 16) :
    CallsH Tryz.prog 54 [t, N n, N w] h fun v' h' => Only (pblk t) h h' ∧ RowP I 2 h h' t B v' (rowG (firstE w) n ds) := by
  obtain ⟨pk, hpk, hpl⟩ := s.pb
  obtain ⟨vd, s1, -⟩ := id s
  (apply enter Tryz.func54 rfl Tryz.ntmps54 rfl)
  refine runH ?_
  (apply s_box; exact rfl; exact rfl; exact rfl; exact rfl)
  intro p3 h1 x3 e1 b1
  (try dsimp only [Value.cells, List.toList_toArray] at x3)
  refine ⟨(by first | exact trivial | exact Ext.refl _ | assumption | exact Ext.trans (by assumption) (by assumption)), ?_⟩
  have x3 : Var h1 p3 38 [t] := by rw [← oneL s1.one]; exact x3
  refine runH ?_
  (apply s_box; exact rfl; exact rfl; exact rfl; exact rfl)
  intro p5 h2 x5 e2 b2
  (try dsimp only [Value.cells, List.toList_toArray] at x5)
  refine ⟨(by first | exact trivial | exact Ext.refl _ | assumption | exact Ext.trans (by assumption) (by assumption)), ?_⟩
  have x32 := x3.ext e2
  have E2 := e1.trans e2
  have s2 := s1.ext E2
  refine runH ?_
  apply (s_call Tryz_ent101 rfl rfl rfl)
  refine (tsized_spec (n : Int) _ (by omega)).mono ?_
  rintro _ _ ⟨rfl, rfl⟩
  refine ⟨(by first | exact trivial | exact Ext.refl _ | assumption | exact Ext.trans (by assumption) (by assumption)), ?_⟩
  rw [decide_eq_true (show 1 ≤ (n : Int) ∧ (n : Int) ≤ 4096 by omega)]
  refine runH ?_
  have s22 := s.ext E2
  have hs1 : h.size < h1.size := by obtain ⟨j, hj, hl⟩ := x3.blk; rw [b1] at hj; cases hj; exact hl
  have C : ∀ ds h', Only (pblk t) h2 h' → TapeAt h' t B ds false → CallsH Tryz.prog 108 ([] ++ [] ++ [p3, p5]) h' fun v h'' => Only (pblk t) h' h'' ∧ GotP I (N 0) h'' t B v (firstE w ds) := fun ds h' k T =>
    errors1_spec t p3 p5 B w ds h' T (x32.only k (by rw [b1, hpk]; intro e; have := Option.some.inj e; omega)) (x5.only k (by rw [b2, hpk]; intro e; have := Option.some.inj e; omega)) hw hw2
  apply (s_call Tryz_ent102 rfl rfl rfl)
  refine (prow_spec t B n ds 108 [] [p3, p5] (firstE w) h2 s22 hn hn2 Tryz_ent108 C).mono ?_
  rintro v h3 ⟨k3, D⟩
  refine ⟨(by first | exact trivial | exact trivial), ?_⟩
  have K3 : Only (pblk t) h h3 := ⟨Nat.le_trans E2.1 k3.1, fun i hi hne => (k3.2 i (Nat.lt_of_lt_of_le hi E2.1) hne).trans (E2.2 i hi)⟩
  cases hZ : rowG (firstE w) n ds with
  | none =>
    rw [hZ] at D
    obtain ⟨rfl, T⟩ := D
    refine runH ?_
    exact fin2 rfl rfl rfl ⟨K3, rfl, T⟩
  | some q =>
    obtain ⟨rs, ds'⟩ := q
    rw [hZ] at D
    obtain ⟨u, rfl, O, T⟩ := D
    refine runH ?_
    exact fin2 rfl rfl rfl ⟨K3, u, rfl, O.base E2.1, T⟩

theorem ternariesP_spec (t : Value) (B : Option Nat) (n : Nat) (ds : List Nat) (h : Hp) (s : TapeAt h t B ds false) (hn : 1 ≤ n) (hn2 : n ≤ 4096) :
    CallsH Tryz.prog 46 [t, N n] h fun v' h' => Only (pblk t) h h' ∧ RowP I 2 h h' t B v' (rowG firstT n ds) := by
  have e : ∀ n ds, rowT n ds = rowG firstT n ds := by
    intro n
    induction n with
    | zero => intro ds; rfl
    | succ n ih =>
      intro ds
      unfold rowT rowG
      cases firstT ds with
      | none => rfl
      | some q =>
        obtain ⟨r, ds1⟩ := q
        dsimp only
        rw [ih]
        cases rowG firstT n ds1 <;> rfl
  refine (ternaries_spec t B n ds h s hn hn2).mono ?_
  rintro v' h' ⟨k, h1⟩
  rw [e] at h1
  cases hZ : rowG firstT n ds with
  | none =>
    rw [hZ] at h1
    exact ⟨k, h1⟩
  | some q =>
    obtain ⟨rs, ds'⟩ := q
    rw [hZ] at h1
    obtain ⟨u, rfl, O, T, -⟩ := h1
    exact ⟨k, u, rfl, O, T⟩

def UniP (h h' : Hp) (t : Value) (B : Option Nat) (v' : Value) : Option (List (List Nat) × List Nat) → Prop
  | none => v' = .tuple #[.agg #[.slice none 0 0], N 11] ∧ TapeAt h' t B [] true
  | some (ls, ds) => ∃ vr rows p, v' = .tuple #[.agg #[vr], N 0] ∧ RowsAt h' h.size p vr rows ∧ rows.map (·.2) = ls ∧ TapeAt h' t B ds false

set_option maxHeartbeats 4000000 in
theorem uniformP_spec (t : Value) (B : Option Nat) (n : Nat) (vq : Value) (qs ds : List Nat) (h : Hp) (s : TapeAt h t B ds false) (sq : SlF h U vq qs) (nq : vq.ownBlock = none ∨ vq.ownBlock ≠ pblk t) (hq : ∀ q ∈ qs, 0 < q ∧ q < 18446744073709551616) (hn : 1 ≤ n) (hn2 : n ≤ 4096) (hl : 1 ≤ qs.length) (hl2 : qs.length ≤ 24) :
    CallsH Tryz.prog 104 [t, N n, vq] h fun v' h' => Only (pblk t) h h' ∧ UniP h h' t B v' (uniG n qs ds) := by
  obtain ⟨pk, hpk, hpl⟩ := s.pb
  have hBl := s.bl
  have hpk' : ∀ j, pblk t = some j → j < h.size := fun j hj => by rw [hpk] at hj; cases hj; exact hpl
  obtain ⟨vd, s1, -⟩ := id s
  have h0 : (0 : Nat) ∉ qs := fun h0 => by have := (hq 0 h0).1; omega
  generalize hZ : uniG n qs ds = Z
  (apply enter Tryz.func104 rfl Tryz.ntmps104 rfl)
  refine runJ ?_
  (apply s_alloc; exact rfl; exact rfl; exact rfl)
  intro p6 h3 x3 e3 b3
  (try dsimp only [Value.cells, List.toList_toArray] at x3)
  refine ⟨(by first | exact trivial | exact Ext.refl _ | assumption | exact Ext.trans (by assumption) (by assumption)), ?_⟩
  have w6 := x3
  have sq3 := sq.ext e3
  have s3 := s.ext e3
  have s13 := s1.ext e3
  have hb03 : h.size < h3.size := by obtain ⟨j, hj, hlj⟩ := w6.blk; rw [b3] at hj; cases hj; exact hlj
  refine runJ ?_
  apply (s_call Tryz_ent101 rfl rfl rfl)
  refine (tsized_spec (n : Int) _ (by omega)).mono ?_
  rintro _ _ ⟨rfl, rfl⟩
  refine ⟨(by first | exact trivial | exact Ext.refl _ | assumption | exact Ext.trans (by assumption) (by assumption)), ?_⟩
  rw [decide_eq_true (show 1 ≤ (n : Int) ∧ (n : Int) ≤ 4096 by omega)]
  refine runJ ?_
  rw [decide_eq_false (show ¬ qs.length < 1 by omega)]
  refine runJ ?_
  rw [decide_eq_false (show ¬ 24 < qs.length by omega)]
  refine runJ ?_
  have CT := contains_spec _ qs 0 h3 sq3 (by omega)
  rw [decide_eq_false h0] at CT
  apply (s_call Tryz_ent129 rfl rfl rfl)
  refine (CT).mono ?_
  rintro _ _ ⟨rfl, rfl⟩
  refine ⟨(by first | exact trivial | exact trivial), ?_⟩
  refine runJ ?_
  (apply (s_build ([.slice none 0 0])); exact rfl; exact rfl; exact rfl; (repeat (first | exact CellsAll.nil | (apply CellsAll.cons; (first | exact oneL (by assumption) | exact oneL (SlF.one (by assumption)) | exact oneL (SlF.one (OwnF.sl (by assumption))) | exact oneL (Var.one (by assumption)) | exact rfl)))); exact rfl; exact rfl)
  refine runJ ?_
  (apply s_alloc; exact rfl; exact rfl; exact rfl)
  intro p9 h4 x4 e4 b4
  (try dsimp only [Value.cells, List.toList_toArray] at x4)
  refine ⟨(by first | exact trivial | exact Ext.refl _ | assumption | exact Ext.trans (by assumption) (by assumption)), ?_⟩
  have hb34 : h3.size < h4.size := by obtain ⟨j, hj, hlj⟩ := x4.blk; rw [b4] at hj; cases hj; exact hlj
  have s4 := s3.ext e4
  refine runJ ?_
  (apply s_storeV; exact rfl; exact rfl; exact rfl; (repeat (first | exact OneAll.nil | (apply OneAll.cons; (first | exact rfl | exact SlF.one (by assumption) | exact SlF.one (OwnF.sl (by assumption)) | exact Var.one (by assumption))))); exact rfl; exact rfl; exact x4; exact rfl)
  intro h5 x5 k5
  (try dsimp only [Value.cells, List.toList_toArray] at x5)
  refine ⟨(by first | exact trivial | exact Ext.refl _ | assumption | exact Ext.only (by assumption) _ | exact Only.trans (Ext.only (by assumption) _) (by assumption)), ?_⟩
  have x5 : Var h5 p9 56 [.slice none 0 0] := x5
  have e35 : Ext h3 h5 := k5.oldV e4 b4 (Nat.le_refl _)
  have hs45 := k5.1
  refine runJ ?_
  (first | (apply w_seqB; exact rfl; apply w_block; exact rfl) | skip)
  apply (w_loop (σ := (Nat × Value) × List (Value × List Nat) × List Nat) rfl (fun j => [(0, t), (1, N n), (6, p6), (8, .func (.func 151) #[t] #[]), (9, p9), (40, vq), (41, N qs.length), (42, N j.1.1)])
    (fun j h' => Only (pblk t) h3 h' ∧ h5.size ≤ h'.size ∧ j.1.1 ≤ qs.length ∧ Var h' p9 56 [j.1.2] ∧ RowsAt h' h3.size (some h3.size) j.1.2 j.2.1 ∧ j.2.1.length = j.1.1 ∧ TapeAt h' t B j.2.2 false ∧
      Z = preG (j.2.1.map (·.2)) (uniG n (qs.drop j.1.1) j.2.2)) (fun j => qs.length - j.1.1) ((0, .slice none 0 0), [], ds))
  · exact (Sub.cons rfl (Sub.cons rfl (Sub.cons rfl (Sub.cons rfl (Sub.cons rfl (Sub.cons rfl (Sub.cons rfl (Sub.cons rfl (Sub.nil _)))))))))
  · refine ⟨e35.only _, Nat.le_refl _, Nat.zero_le _, x5, RowsAt.nil _ _ _, rfl, s3.ext e35, ?_⟩
    dsimp only
    rw [← hZ, List.drop_zero, List.map_nil, preG_nil]
  clear x4 x5 s4 s3
  rintro ⟨⟨j, vR⟩, rows, ds'⟩ h7 ⟨d7, z7, j1, x7, R7, l7, t7, Z7⟩
  dsimp only at d7 z7 j1 x7 R7 l7 t7 Z7 ⊢
  have sq7 := sq3.only d7 nq
  have hpv : pblk p9 ≠ vR.ownBlock := by
    rw [b4]; intro e
    rcases R7.vp with h0 | h0
    · rw [h0] at e; cases e
    · exact h0 e.symm
  have hpt : pblk p9 ≠ pblk t := by rw [b4, hpk]; intro e; have := Option.some.inj e; omega
  have hpt6 : pblk p6 ≠ pblk t := by rw [b3, hpk]; intro e; have := Option.some.inj e; omega
  have w67 := w6.only d7 hpt6
  refine runJ ?_
  (apply w_condD; exact rfl; exact rfl) <;> intro hj
  · obtain ⟨q, hqj⟩ := get_lt hj
    obtain ⟨hq0, hq64⟩ := hq q (List.mem_of_getElem? hqj)
    have hdr : qs.drop j = q :: qs.drop (j + 1) := by
      rw [List.drop_eq_getElem_cons hj]
      rw [List.getElem?_eq_getElem hj] at hqj
      cases hqj; rfl
    rw [hdr] at Z7
    generalize hY : rowG (firstB q) n ds' = Y
    refine runJ ?_
    (apply (s_make (f := U) (bytes := 8) (0)); (first | exact isK_c | exact isK_t rfl); (first | exact isK_c | exact isK_t rfl); exact rfl; exact rfl; exact rfl; exact rfl; exact rfl; exact rfl; omega; omega; omega)
    intro vl h8 o8 e8 b8
    refine ⟨(by first | exact trivial | exact Ext.refl _ | assumption | exact Ext.trans (by assumption) (by assumption)), ?_⟩
    refine runJ ?_
    rw [List.length_replicate]
    apply (w_loop (σ := Nat × List Nat × List Nat) rfl (fun m => [(0, t), (1, N n), (6, p6), (8, .func (.func 151) #[t] #[]), (9, p9), (11, U q), (12, vl), (40, vq), (41, N qs.length), (42, N j), (48, vl), (49, N n), (50, N m.1)])
      (fun m h' => Only (pblk t) h7 h' ∧ OwnF h' h7.size 26 U vl (m.2.1 ++ List.replicate (n - m.1) 0) ∧ TapeAt h' t B m.2.2 false ∧ m.2.1.length = m.1 ∧ m.1 ≤ n ∧
        Y = preG m.2.1 (rowG (firstB q) (n - m.1) m.2.2)) (fun m => n - m.1) (0, [], ds'))
    · exact (Sub.cons rfl (Sub.cons rfl (Sub.cons rfl (Sub.cons rfl (Sub.cons rfl (Sub.cons rfl (Sub.cons rfl (Sub.cons rfl (Sub.cons rfl (Sub.cons rfl (Sub.cons rfl (Sub.cons rfl (Sub.cons rfl (Sub.nil _))))))))))))))
    · refine ⟨e8.only _, by simpa using o8, t7.ext e8, rfl, Nat.zero_le _, ?_⟩
      dsimp only
      rw [← hY, Nat.sub_zero, preG_nil]
    rintro ⟨m, ws, ds2⟩ h9 ⟨d9, o9, t9, l9, m1, Y9⟩
    dsimp only at d9 o9 t9 l9 m1 Y9 ⊢
    have d39 := d7.trans d9
    have x9 := x7.only d9 hpt
    have w69 := w67.only d9 hpt6
    have hvl : ∀ b, vl.ownBlock = some b → h7.size ≤ b := fun b hb => (o9.blk b hb).1
    refine runJ ?_
    (apply w_condD; exact rfl; exact rfl) <;> intro hm
    · refine runJ ?_
      refine s_callV rfl Tryz_ent151 rfl rfl rfl ?_
      refine (belowP_spec t B q ds2 h9 t9 hq0 hq64).mono ?_
      rintro r h10 ⟨k10, G⟩
      refine ⟨(by first | exact trivial | exact trivial), ?_⟩
      have d10 := d9.trans k10
      have w610 := w69.only k10 hpt6
      have hne : vl.ownBlock = none ∨ vl.ownBlock ≠ pblk t := o9.neV hpk (Nat.lt_of_lt_of_le (Nat.lt_trans hpl hb03) d7.1)
      have o10 := o9.only k10 hne
      obtain ⟨m', hm'⟩ : ∃ m', n - m = m' + 1 := ⟨n - m - 1, by omega⟩
      rw [hm'] at Y9
      have hil : m < (ws ++ List.replicate (n - m) 0).length := by simp only [List.length_append, List.length_replicate]; omega
      cases hf : firstB q ds2 with
      | none =>
        rw [hf] at G
        obtain ⟨rfl, hT⟩ := G
        obtain rfl := rowG_fail Y9 hf
        obtain rfl := uniG_fail Z7 hY
        refine runJ ?_
        (apply (s_storeF (0)); exact rfl; exact rfl; exact rfl; exact rfl; exact rfl; exact o10; exact rfl; (first | assumption | omega))
        intro h11 o11 k11
        refine ⟨(by first | exact trivial | exact Ext.refl _ | assumption | exact Ext.trans (by assumption) (by assumption)), ?_⟩
        have hT1 := hT.own k11 (M := h7.size) (fun b hb => by rw [hpk] at hb; cases hb; exact Nat.lt_of_lt_of_le (Nat.lt_trans hpl hb03) d7.1) (fun b hb => by have := hBl b hb; have := d7.1; omega) hvl
        have w611 := w610.only k11 (by rw [b3]; intro e; have := hvl _ e.symm; have := d7.1; omega)
        have K11 : Only (pblk t) h h11 := only_own ((e3.only _).trans (d7.trans d10)) k11 fun b hb => by have := hvl b hb; have := d7.1; omega
        refine runJ ?_
        (apply (s_build ([.slice none 0 0])); exact rfl; exact rfl; exact rfl; (repeat (first | exact CellsAll.nil | (apply CellsAll.cons; (first | exact oneL (by assumption) | exact oneL (SlF.one (by assumption)) | exact oneL (SlF.one (OwnF.sl (by assumption))) | exact oneL (Var.one (by assumption)) | exact rfl)))); exact rfl; exact rfl)
        refine runJ ?_
        (apply s_storeV; exact rfl; exact rfl; exact rfl; (repeat (first | exact OneAll.nil | (apply OneAll.cons; (first | exact rfl | exact SlF.one (by assumption) | exact SlF.one (OwnF.sl (by assumption)) | exact Var.one (by assumption))))); exact rfl; exact rfl; exact w611; exact rfl)
        intro h12 x12 k12
        (try dsimp only [Value.cells, List.toList_toArray] at x12)
        refine ⟨(by first | exact trivial | exact Ext.refl _ | assumption | exact Ext.only (by assumption) _ | exact Only.trans (Ext.only (by assumption) _) (by assumption)), ?_⟩
        have x12 : Var h12 p6 56 [.slice none 0 0] := x12
        have K12 := only_own K11 k12 fun b hb => by rw [b3] at hb; cases hb; exact Nat.le_refl _
        have hT2 := hT1.own k12 (M := h.size) hpk' hBl (fun b hb => by rw [b3] at hb; cases hb; exact Nat.le_refl _)
        refine runJ ?_
        exact finCT rfl rfl rfl x12 rfl rfl ⟨K12, rfl, hT2⟩
      | some y =>
        obtain ⟨r1, ds1⟩ := y
        rw [hf] at G
        obtain ⟨rfl, hT⟩ := G
        refine runJ ?_
        (apply (s_storeF (r1)); exact rfl; exact rfl; exact rfl; exact rfl; exact rfl; exact o10; exact rfl; (first | assumption | omega))
        intro h11 o11 k11
        refine ⟨(by first | exact trivial | exact Ext.refl _ | assumption | exact Ext.trans (by assumption) (by assumption)), ?_⟩
        have hT1 := hT.own k11 (M := h7.size) (fun b hb => by rw [hpk] at hb; cases hb; exact Nat.lt_of_lt_of_le (Nat.lt_trans hpl hb03) d7.1) (fun b hb => by have := hBl b hb; have := d7.1; omega) hvl
        have hset : (ws ++ List.replicate (n - m) 0).set m r1 = (ws ++ [r1]) ++ List.replicate (n - (m + 1)) 0 := by
          rw [hm', show n - (m + 1) = m' by omega, List.replicate_succ, List.set_append_right _ _ (by omega), show m - ws.length = 0 by omega]
          simp
        rw [hset] at o11
        have d11 := only_own d10 k11 hvl
        refine runJ ?_
        apply again_normal (m + 1, ws ++ [r1], ds1)
        · exact (Sub.cons rfl (Sub.cons rfl (Sub.cons rfl (Sub.cons rfl (Sub.cons rfl (Sub.cons rfl (Sub.cons rfl (Sub.cons rfl (Sub.cons rfl (Sub.cons rfl (Sub.cons rfl (Sub.cons rfl (Sub.cons rfl (Sub.nil _))))))))))))))
        · refine ⟨d11, o11, hT1, by simp [l9], hm, ?_⟩
          dsimp only
          rw [show n - (m + 1) = m' by omega]
          exact rowG_step Y9 hf
        · dsimp only; omega
    · obtain rfl : m = n := by omega
      rw [Nat.sub_self] at Y9
      have hYs := rowG_zero Y9
      have Z8 := uniG_step Z7 (hY.trans hYs)
      rw [Nat.sub_self, List.replicate_zero, List.append_nil] at o9
      have R9 := R7.low (by rw [← hpk]; exact d9) (Nat.lt_trans hpl hb03)
      have o9one := o9.sl.one
      have hlen : rows.length + 1 < 1000000 := by omega
      obtain ⟨hsz, ex9⟩ := cutH_ext d39.1
      have Rown := R9.own
      rw [← hsz] at Rown
      refine runJ ?_
      (refine s_app1V (bytes := 24) ((vl, ws)) Rown ex9 rfl rfl rfl rfl rfl rfl rfl rfl rfl (by first | exact rfl | exact congrArg some (congrArg I (by omega))) o9one rfl rfl (fun _ _ => trivial) (by omega) (by simp only [maxLen]; omega) ?_)
      intro v10 h10 o10 e10 k10 b10
      rw [hsz] at o10
      have x10 := x9.only k10 hpv
      refine runJ ?_
      (apply s_storeC; exact rfl; exact rfl; (first | exact rfl | exact SlF.one (by assumption) | exact SlF.one (OwnF.sl (by assumption)) | exact Var.one (by assumption)); exact rfl; exact rfl; exact x10; exact rfl)
      intro h11 x11 k11
      refine ⟨(by first | exact trivial | exact Ext.refl _ | assumption | exact Ext.only (by assumption) _ | exact Only.trans (Ext.only (by assumption) _) (by assumption)), ?_⟩
      rw [b4] at k11
      have hz34 := e4.1
      have R11 := R9.push (z := h7.size) (o9.base (Nat.le_trans hz34 (Nat.le_trans hs45 z7))) (fun k hk => (o9.blk k hk).1) (fun k hk => (R7.own.blk k hk).2) (by omega) d9.1 o10 k10 b10 k11
      have hge : ∀ j, vR.ownBlock = some j → h3.size ≤ j := fun j hj => (R9.own.blk j hj).1
      have d10 := only_own d39 k10 hge
      have d11 := only_own d10 k11 fun j hj => by cases hj; exact Nat.le_refl _
      have T10 := t9.own k10 (M := h.size) hpk' hBl (fun j hj => by have := hge j hj; omega)
      have T11 := T10.own k11 (M := h.size) hpk' hBl (fun j hj => by cases hj; omega)
      refine runJ ?_
      apply again_normal ((j + 1, v10), rows ++ [(vl, ws)], ds2)
      · exact (Sub.cons rfl (Sub.cons rfl (Sub.cons rfl (Sub.cons rfl (Sub.cons rfl (Sub.cons rfl (Sub.cons rfl (Sub.cons rfl (Sub.nil _)))))))))
      · refine ⟨d11, Nat.le_trans z7 (Nat.le_trans d9.1 (Nat.le_trans k10.1 k11.1)), hj, x11, R11, by dsimp only; rw [List.length_append]; simp [l7], T11, ?_⟩
        dsimp only
        rw [List.map_append]
        exact Z8
      · dsimp only; omega
  · obtain rfl : j = qs.length := by omega
    rw [List.drop_length] at Z7
    rw [uniG_zero Z7]
    refine runJ ?_
    (apply s_storeV; exact rfl; exact rfl; exact rfl; exact (OneAll.cons R7.own.sl.one OneAll.nil : OneAll [vR]); exact rfl; exact rfl; exact w67; exact rfl)
    intro h8 x8 k8
    refine ⟨trivial, ?_⟩
    have x8 : Var h8 p6 56 [vR] := x8
    rw [b3] at k8
    have dd := only_own ((e3.only _).trans d7) k8 fun j hj => by cases hj; exact Nat.le_refl _
    have T8 := t7.own k8 (M := h.size) hpk' hBl (fun j hj => by cases hj; exact Nat.le_refl _)
    refine runJ ?_
    exact finCT rfl rfl rfl x8 rfl rfl ⟨dd, vR, rows, _, rfl, (R7.low k8 hb03).base (Nat.le_of_lt hb03), rfl, T8⟩
end Go.Proofs.YtfcmdefigldpnaaGreatDoor

