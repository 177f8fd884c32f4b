/- Texts PckG to PckI of this work, joined: each says in its own head what it proves, and of which condition. -/
import Derived.Test.YtfcmdefigldpnaaDoorMPk24
/- Package pack: parameters and a secret are written. Condition: the table of math/bits reads as it is laid. -/
namespace Go.Proofs.YtfcmdefigldpnaaDoor
set_option linter.unusedVariables false
set_option maxRecDepth 8000
open Go Go.Den Go.RowKit Go.Dig

def sec1 (v : Int) : Nat := if v = 0 then 0 else if v = 1 then 1 else 2
def secB (s : List Int) : List Nat := s.map sec1

theorem Tryd_ent36 : Ent Tryd.prog 36 := ent_of Tryd.func36 (by kernel_rfl) rfl
set_option maxHeartbeats 1000000 in
theorem wparams_spec (L : Nat) (p : ParD) (h : Hp) (T : TB h) (A : ParAt h p) (P : parP p) (hN : p.n = ((2 ^ L : Nat) : Int)) (hL1 : 1 ≤ L) (hL9 : L ≤ 9) (hQ : ∀ q ∈ p.q, QOk L q) :
    CallsH Tryd.prog 36 [.agg p.cells.toArray] h fun v' h' => Ext h h' ∧ ∃ vb, v' = .tuple #[vb, N 0] ∧ OwnF h' h.size 5 Y vb (hdrB 1 (2 ^ L) p.t p.w.toNat p.q) := by
  have BG := fun h T A => begin_spec 1 L p h T A P hN hL1 hL9 hQ (by decide)
  unfold ParD.cells at BG ⊢
  (apply enter Tryd.func36 rfl Tryd.ntmps36 rfl)
  refine runJ ?_
  (apply s_box; exact rfl; exact rfl; exact rfl; exact rfl)
  intro p2 h1 x1 e1 b1
  (try dsimp only [Value.cells, List.toList_toArray] at x1)
  refine ⟨(by first | exact trivial | exact Ext.refl _ | assumption | exact Ext.trans (by assumption) (by assumption)), ?_⟩
  have x1 : Var h1 p2 25 [I p.n, U p.t, p.vq, I p.w] := x1
  refine runJ ?_
  apply (s_call Tryd_ent41 rfl rfl rfl)
  refine (BG h1 (T.ext e1) (A.ext e1)).mono ?_
  rintro _ h3 ⟨e3, w, k, vb, g, vq, vt, rfl, hk2, W3, G3, q3, S3⟩
  refine ⟨(by first | exact trivial | exact trivial), ?_⟩
  have w3 := W3.var
  refine runJ ?_
  exact fin2 rfl rfl rfl ⟨e1.trans e3, vb, rfl, W3.own.base (by have := e1.1; omega)⟩

theorem Tryd_ent25 : Ent Tryd.prog 25 := ent_of Tryd.func25 (by kernel_rfl) rfl
set_option maxHeartbeats 4000000 in
theorem secret_spec (L : Nat) (p : ParD) (vs : Value) (ss : List Int) (h : Hp) (T : TB h) (A : ParAt h p) (P : parP p) (hN : p.n = ((2 ^ L : Nat) : Int)) (hL1 : 1 ≤ L) (hL9 : L ≤ 9) (hQ : ∀ q ∈ p.q, QOk L q)
    (hs : SlF h I vs ss) (hl : ss.length = 2 ^ L) (ha : ∀ v ∈ ss, v = 0 ∨ v = 1 ∨ v = -1) :
    CallsH Tryd.prog 25 [.agg p.cells.toArray, vs] h fun v' h' => Ext h h' ∧ ∃ vb, v' = .tuple #[vb, N 0] ∧ OwnF h' h.size 5 Y vb (hdrB 4 (2 ^ L) p.t p.w.toNat p.q ++ secB ss) := by
  have BG := fun h T A => begin_spec 4 L p h T A P hN hL1 hL9 hQ (by decide)
  have hq8 : p.q.length ≤ 8 := P.2.2.1.2.2.2
  have hp9 : 2 ^ L ≤ 2 ^ 9 := Nat.pow_le_pow_right (by decide) hL9
  have hp1 : 2 ^ 1 ≤ 2 ^ L := Nat.pow_le_pow_right (by decide) hL1
  have e9 : (2 : Nat) ^ 9 = 512 := by decide
  have e1' : (2 : Nat) ^ 1 = 2 := by decide
  unfold ParD.cells at BG ⊢
  (apply enter Tryd.func25 rfl Tryd.ntmps25 rfl)
  refine runJ ?_
  (apply s_box; exact rfl; exact rfl; exact rfl; exact rfl)
  intro p2 h1 x1 e1 b1
  (try dsimp only [Value.cells, List.toList_toArray] at x1)
  refine ⟨(by first | exact trivial | exact Ext.refl _ | assumption | exact Ext.trans (by assumption) (by assumption)), ?_⟩
  have x1 : Var h1 p2 25 [I p.n, U p.t, p.vq, I p.w] := x1
  refine runJ ?_
  apply (s_call Tryd_ent41 rfl rfl rfl)
  refine (BG h1 (T.ext e1) (A.ext e1)).mono ?_
  rintro _ h3 ⟨e3, w, k, vb, g, vq, vt, rfl, hk2, W3, G3, q3, S3⟩
  refine ⟨(by first | exact trivial | exact trivial), ?_⟩
  have x3 := x1.ext e3
  have E3 := e1.trans e3
  have s3 := hs.ext E3
  have hB0 := hdrB_len 4 (2 ^ L) p.t p.w.toNat p.q
  generalize hbs0 : hdrB 4 (2 ^ L) p.t p.w.toNat p.q = B0 at *
  have hsz : h.size ≤ h1.size := e1.1
  have lov : ∀ j, vs.ownBlock = some j → j < k := fun j hj => by
    have := hs.lt (by omega) j hj
    omega
  refine runJ ?_
  rw [hN, hl, decide_eq_false (show ¬ ((2 ^ L : Nat) : Int) ≠ ((2 ^ L : Nat) : Int) by omega)]
  refine runJ ?_
  (first | (apply w_seqB; exact rfl; apply w_block; exact rfl) | skip)
  apply (w_loop (σ := Nat × Value) rfl (fun j => [(6, w), (27, vs), (28, N ss.length), (29, N j.1)])
    (fun j h' => j.1 ≤ ss.length ∧ WrAt h' w k j.2 (B0 ++ secB (ss.take j.1)) ∧ Grw h3 h' k vb j.2) (fun j => ss.length - j.1) (0, vb))
  · exact (Sub.cons rfl (Sub.cons rfl (Sub.cons rfl (Sub.cons rfl (Sub.nil _)))))
  · refine ⟨Nat.zero_le _, ?_, Grw.refl _ _ _⟩
    dsimp only
    rw [List.take_zero]
    show WrAt h3 w k vb (_ ++ [])
    rw [List.append_nil]; exact W3
  rintro ⟨j, v1⟩ h11 ⟨j1, W11, G11⟩
  dsimp only at j1 W11 G11 ⊢
  have s11 := sl_grw s3 W3 G11 lov
  have x11 := W11.var
  have o11 := W11.own
  have hk11 := W11.lt
  refine runJ ?_
  (apply w_condD; exact rfl; exact rfl) <;> intro hj
  · obtain ⟨v, hvj⟩ := get_lt hj
    have hva := ha v (List.mem_of_getElem? hvj)
    obtain ⟨hsz', ex⟩ := cutH_ext (show k + 1 ≤ h11.size from hk11)
    rw [← hsz'] at o11
    have hlb : (B0 ++ secB (ss.take j)).length ≤ 1000000 := by
      have : (secB (ss.take j)).length = (ss.take j).length := by unfold secB; rw [List.length_map]
      rw [List.length_append, this, List.length_take]
      omega
    have hsec : secB (ss.take (j + 1)) = secB (ss.take j) ++ [sec1 v] := by
      rw [take_snoc hvj]
      unfold secB
      rw [List.map_append]; rfl
    generalize hbs : B0 ++ secB (ss.take j) = bs at *
    rcases hva with rfl | rfl | rfl
    · refine runJ ?_
      apply s_convY (k0 := .i64) (a := 0) (isK_t rfl) rfl rfl rfl
      refine runJ ?_
      (refine s_app1 (bytes := 1) (0) o11 ex rfl rfl rfl rfl rfl rfl rfl rfl rfl (by first | exact rfl | exact congrArg some (congrArg I (by omega))) (fun _ => rfl) rfl rfl (fun _ _ => trivial) (by omega) (by simp only [maxLen]; omega) ?_)
      intro v2 h12 o12 e12 k12 b12
      rw [hsz'] at o12
      have o12one := o12.sl.one
      have y12 := x11.only k12 (wr_ne W11)
      refine runJ ?_
      (apply s_storeC; exact rfl; exact rfl; (first | exact rfl | exact SlF.one (by assumption) | exact SlF.one (OwnF.sl (by assumption)) | exact Var.one (by assumption)); exact rfl; exact rfl; exact y12; exact rfl)
      intro h13 x13 k13
      refine ⟨(by first | exact trivial | exact Ext.refl _ | assumption | exact Ext.only (by assumption) _ | exact Only.trans (Ext.only (by assumption) _) (by assumption)), ?_⟩
      obtain ⟨W13, G13⟩ := wr_step W11 k12 o12 b12 x13 k13
      have hbb : bs ++ [0] = B0 ++ secB (ss.take (j + 1)) := by rw [hsec, ← List.append_assoc, hbs]; rfl
      rw [hbb] at W13
      refine runJ ?_
      apply again_normal (j + 1, v2)
      · exact (Sub.cons rfl (Sub.cons rfl (Sub.cons rfl (Sub.cons rfl (Sub.nil _)))))
      · exact ⟨hj, W13, G11.trans G13⟩
      · dsimp only; omega
    · refine runJ ?_
      apply s_convY (k0 := .i64) (a := 1) (isK_t rfl) rfl rfl rfl
      refine runJ ?_
      (refine s_app1 (bytes := 1) (1) o11 ex rfl rfl rfl rfl rfl rfl rfl rfl rfl (by first | exact rfl | exact congrArg some (congrArg I (by omega))) (fun _ => rfl) rfl rfl (fun _ _ => trivial) (by omega) (by simp only [maxLen]; omega) ?_)
      intro v2 h12 o12 e12 k12 b12
      rw [hsz'] at o12
      have o12one := o12.sl.one
      have y12 := x11.only k12 (wr_ne W11)
      refine runJ ?_
      (apply s_storeC; exact rfl; exact rfl; (first | exact rfl | exact SlF.one (by assumption) | exact SlF.one (OwnF.sl (by assumption)) | exact Var.one (by assumption)); exact rfl; exact rfl; exact y12; exact rfl)
      intro h13 x13 k13
      refine ⟨(by first | exact trivial | exact Ext.refl _ | assumption | exact Ext.only (by assumption) _ | exact Only.trans (Ext.only (by assumption) _) (by assumption)), ?_⟩
      obtain ⟨W13, G13⟩ := wr_step W11 k12 o12 b12 x13 k13
      have hbb : bs ++ [1] = B0 ++ secB (ss.take (j + 1)) := by rw [hsec, ← List.append_assoc, hbs]; rfl
      rw [hbb] at W13
      refine runJ ?_
      apply again_normal (j + 1, v2)
      · exact (Sub.cons rfl (Sub.cons rfl (Sub.cons rfl (Sub.cons rfl (Sub.nil _)))))
      · exact ⟨hj, W13, G11.trans G13⟩
      · dsimp only; omega
    · refine runJ ?_
      (refine s_app1 (bytes := 1) (2) o11 ex rfl rfl rfl rfl rfl rfl rfl rfl rfl (by first | exact rfl | exact congrArg some (congrArg I (by omega))) (fun _ => rfl) rfl rfl (fun _ _ => trivial) (by omega) (by simp only [maxLen]; omega) ?_)
      intro v2 h12 o12 e12 k12 b12
      rw [hsz'] at o12
      have o12one := o12.sl.one
      have y12 := x11.only k12 (wr_ne W11)
      refine runJ ?_
      (apply s_storeC; exact rfl; exact rfl; (first | exact rfl | exact SlF.one (by assumption) | exact SlF.one (OwnF.sl (by assumption)) | exact Var.one (by assumption)); exact rfl; exact rfl; exact y12; exact rfl)
      intro h13 x13 k13
      refine ⟨(by first | exact trivial | exact Ext.refl _ | assumption | exact Ext.only (by assumption) _ | exact Only.trans (Ext.only (by assumption) _) (by assumption)), ?_⟩
      obtain ⟨W13, G13⟩ := wr_step W11 k12 o12 b12 x13 k13
      have hbb : bs ++ [2] = B0 ++ secB (ss.take (j + 1)) := by rw [hsec, ← List.append_assoc, hbs]; rfl
      rw [hbb] at W13
      refine runJ ?_
      apply again_normal (j + 1, v2)
      · exact (Sub.cons rfl (Sub.cons rfl (Sub.cons rfl (Sub.cons rfl (Sub.nil _)))))
      · exact ⟨hj, W13, G11.trans G13⟩
      · dsimp only; omega
  · obtain rfl : j = ss.length := by omega
    rw [List.take_length] at W11
    refine runJ ?_
    exact fin2 rfl rfl rfl ⟨G11.ext E3 (by omega) W3.up, v1, rfl, W11.own.base (by omega)⟩
end Go.Proofs.YtfcmdefigldpnaaDoor

/- Package pack: what a reader holds; numbers are read. No condition. -/
namespace Go.Proofs.YtfcmdefigldpnaaDoor
set_option linter.unusedVariables false
set_option maxRecDepth 8000
open Go Go.Den Go.RowKit Go.Dig

theorem cutV_own (s : Nat) (v : Value) (lo hi : Nat) : (cutV s v lo hi).ownBlock = none ∨ (cutV s v lo hi).ownBlock = v.ownBlock := by
  cases v with
  | slice a n c =>
    cases a with
    | none => left; simp only [cutV, Option.map_none]; split <;> rfl
    | some a =>
      right
      simp only [cutV, Option.map_some]
      split
      · rfl
      · simp only [Value.ownBlock, Addr.add]
        try (split <;> rfl)
  | _ => exact .inr rfl
theorem Cells.off {h : Hp} {p : Value} {cs : List Value} (s : Cells h p cs) (n m : Nat) : Cells h (ptrOff p n) ((cs.drop n).take m) := by
  obtain ⟨b, o, rfl, hc⟩ := s
  refine ⟨b, o + n, by simp [ptrOff, Addr.add_lit], fun j u hu => ?_⟩
  rw [List.getElem?_take] at hu
  split at hu
  · rw [List.getElem?_drop] at hu
    rw [Nat.add_assoc]; exact hc _ _ hu
  · cases hu

/-- How what is read stands to what was written: cut short (none), or whole with more behind it. -/
def Rl (md : Option (List Nat)) (bs F : List Nat) : Prop := match md with
  | none => ∃ s, s ≠ [] ∧ bs ++ s = F
  | some X => bs = F ++ X
theorem Rl.step {md : Option (List Nat)} {bs f F : List Nat} (h : Rl md bs (f ++ F)) : (bs.length < f.length ∧ md = none) ∨ (f.length ≤ bs.length ∧ bs.take f.length = f ∧ Rl md (bs.drop f.length) F) := by
  cases md with
  | some X =>
    have h : bs = f ++ F ++ X := h
    subst h
    refine .inr ⟨by simp only [List.length_append]; omega, ?_, ?_⟩
    · rw [List.append_assoc, List.take_left]
    · rw [List.append_assoc, List.drop_left]; rfl
  | none =>
    obtain ⟨s, hs, h⟩ := h
    rcases List.append_eq_append_iff.1 h with ⟨a, h1, h2⟩ | ⟨a, h1, h2⟩
    · subst h1
      rcases a with _ | ⟨x, a⟩
      · rw [List.append_nil, List.nil_append] at *
        exact .inr ⟨Nat.le_refl _, List.take_length, s, hs, by rw [List.drop_length, List.nil_append]; exact h2⟩
      · exact .inl ⟨by rw [List.length_append, List.length_cons]; omega, rfl⟩
    · subst h1
      refine .inr ⟨by rw [List.length_append]; omega, by rw [List.take_left], s, hs, by rw [List.drop_left]; exact h2.symm⟩

/-- A reader: the bytes that are left, parameters, an error. -/
structure RdS (h : Hp) (r : Value) (k : Nat) (vb : Value) (bs : List Nat) (e : Nat) (p : ParD) : Prop where mk ::
  pr : pblk r = some k
  var : Var h r 101 [vb, I p.n, U p.t, p.vq, I p.w, N e]
  row : SlF h Y vb bs
  lo : ∀ j, vb.ownBlock = some j → j < k
  al : ∀ b ∈ bs, b < 256
  ln : bs.length < 4611686018427387904
theorem RdS.ne {h : Hp} {r : Value} {k : Nat} {vb : Value} {bs : List Nat} {e : Nat} {p : ParD} (s : RdS h r k vb bs e p) : vb.ownBlock = none ∨ vb.ownBlock ≠ some k := by
  cases hv : vb.ownBlock with
  | none => exact .inl rfl
  | some j => exact .inr fun e => by have := Option.some.inj e; have := s.lo j hv; omega
def RdAt (h : Hp) (r : Value) (k : Nat) (md : Option (List Nat)) (F : List Nat) (e : Nat) (p : ParD) : Prop := ∃ vb bs, RdS h r k vb bs e p ∧ (e = 0 ∧ Rl md bs F ∨ e = 2 ∧ md = none)
theorem RdS.ext {h h' : Hp} {r : Value} {k : Nat} {vb : Value} {bs : List Nat} {e : Nat} {p : ParD} (s : RdS h r k vb bs e p) (x : Ext h h') : RdS h' r k vb bs e p := ⟨s.pr, s.var.ext x, s.row.ext x, s.lo, s.al, s.ln⟩
theorem RdAt.ext {h h' : Hp} {r : Value} {k : Nat} {md : Option (List Nat)} {F : List Nat} {e : Nat} {p : ParD} (s : RdAt h r k md F e p) (x : Ext h h') : RdAt h' r k md F e p := by
  obtain ⟨vb, bs, s, hc⟩ := s
  exact ⟨vb, bs, s.ext x, hc⟩
theorem RdAt.e2 {h : Hp} {r : Value} {k : Nat} {md : Option (List Nat)} {F : List Nat} {e : Nat} {p : ParD} (s : RdAt h r k md F e p) : e = 0 ∨ e = 2 := by
  obtain ⟨vb, bs, s, hc | hc⟩ := s
  · exact .inl hc.1
  · exact .inr hc.1
theorem RdAt.any {h : Hp} {r : Value} {k : Nat} {md : Option (List Nat)} {F : List Nat} {p : ParD} (s : RdAt h r k md F 2 p) (F' : List Nat) : RdAt h r k md F' 2 p := by
  obtain ⟨vb, bs, s, hc | hc⟩ := s
  · cases hc.1
  · exact ⟨vb, bs, s, .inr hc⟩

theorem Tryd_ent46 : Ent Tryd.prog 46 := ent_of Tryd.func46 (by kernel_rfl) rfl
theorem fail_spec (r vb : Value) (k e err : Nat) (bs : List Nat) (p : ParD) (yes : Bool) (h : Hp) (s : RdS h r k vb bs e p) :
    CallsH Tryd.prog 46 [r, .bool yes, N err] h fun v' h' => Only (pblk r) h h' ∧ RdS h' r k vb bs (if yes = true ∧ e = 0 then err else e) p := by
  have x := s.var
  cases yes with
  | false =>
    (apply enter Tryd.func46 rfl Tryd.ntmps46 rfl)
    refine runJ ?_
    exact fin0n rfl ⟨Only.refl _ _, by rw [if_neg (by simp)]; exact s⟩
  | true =>
    (apply enter Tryd.func46 rfl Tryd.ntmps46 rfl)
    refine runJ ?_
    (apply w_condD; exact rfl; exact rfl) <;> intro he
    · rw [if_pos ⟨rfl, he⟩]
      refine runJ ?_
      (apply s_storeC; exact rfl; exact rfl; (first | exact rfl | exact SlF.one (by assumption) | exact SlF.one (OwnF.sl (by assumption)) | exact Var.one (by assumption)); exact rfl; exact rfl; exact x; exact rfl)
      intro h2 x2 k2
      refine ⟨(by first | exact trivial | exact Ext.refl _ | assumption | exact Ext.only (by assumption) _ | exact Only.trans (Ext.only (by assumption) _) (by assumption)), ?_⟩
      refine runJ ?_
      have k2' := k2
      rw [s.pr] at k2'
      exact fin0n rfl ⟨k2, ⟨s.pr, x2, s.row.only k2' s.ne, s.lo, s.al, s.ln⟩⟩
    · rw [if_neg fun c => he c.2]
      refine runJ ?_
      exact fin0n rfl ⟨Only.refl _ _, s⟩
theorem failR_spec (r : Value) (k e err : Nat) (md : Option (List Nat)) (F : List Nat) (p : ParD) (yes : Bool) (h : Hp) (s : RdAt h r k md F e p) (hy : e = 0 → yes = false) :
    CallsH Tryd.prog 46 [r, .bool yes, N err] h fun v' h' => Only (pblk r) h h' ∧ RdAt h' r k md F e p := by
  obtain ⟨vb, bs, s, hc⟩ := s
  refine (fail_spec r vb k e err bs p yes h s).mono ?_
  rintro v' h' ⟨k1, s1⟩
  rw [if_neg fun c => by rw [hy c.2] at c; cases c.1] at s1
  exact ⟨k1, vb, bs, s1, hc⟩

theorem Tryd_ent45 : Ent Tryd.prog 45 := ent_of Tryd.func45 (by kernel_rfl) rfl
set_option maxHeartbeats 1000000 in
theorem rnumber_spec (r : Value) (k e : Nat) (md : Option (List Nat)) (f F : List Nat) (p : ParD) (h : Hp) (s : RdAt h r k md (f ++ F) e p) (hf : f.length ≤ 8) :
    CallsH Tryd.prog 45 [r, N f.length] h fun v' h' => Only (pblk r) h h' ∧ ∃ v e', v' = U v ∧ RdAt h' r k md F e' p ∧ v < 256 ^ f.length ∧ (e' = 0 → e = 0 ∧ v = vB f) := by
  obtain ⟨vb, bs, s, hc⟩ := s
  have hpos : 0 < 256 ^ f.length := Nat.pow_pos (by decide)
  generalize hn : f.length = n at *
  have x := s.var
  have row := s.row
  have ln := s.ln
  (apply enter Tryd.func45 rfl Tryd.ntmps45 rfl)
  refine runJ ?_
  apply (s_call Tryd_ent46 rfl rfl rfl)
  refine (fail_spec r vb k e 2 bs p _ h s).mono ?_
  rintro _ h1 ⟨k1, s1⟩
  refine ⟨(by first | exact trivial | exact trivial), ?_⟩
  have x1 := s1.var
  have row1 := s1.row
  rcases hc with ⟨rfl, hR⟩ | ⟨rfl, rfl⟩
  · rcases hR.step with ⟨hlt, rfl⟩ | ⟨hge, htk, hR2⟩
    · rw [hn] at hlt
      rw [if_pos ⟨decide_eq_true hlt, rfl⟩] at s1 x1
      refine runJ ?_
      exact fin1 rfl rfl ⟨k1, 0, 2, rfl, ⟨vb, bs, s1, .inr ⟨rfl, rfl⟩⟩, hpos, fun h => by cases h⟩
    · rw [hn] at hge htk hR2
      rw [if_neg (by simp; omega)] at s1 x1
      have hcl : (bs.take n).length = n := by rw [List.length_take]; omega
      have c1 := row1.cut (lo := 0) (hi := n) (Nat.zero_le _) (by omega)
      rw [List.drop_zero, Nat.sub_zero] at c1
      refine runJ ?_
      generalize hcs : bs.take n = cs at *
      apply (w_loop (σ := Nat) rfl (fun j => [(0, r), (1, N n), (5, U (vB (cs.take j))), (27, cutV 1 vb 0 n), (28, N cs.length), (29, N j)])
        (fun j h' => h1 = h' ∧ j ≤ cs.length) (fun j => cs.length - j) 0)
      · exact (Sub.cons rfl (Sub.cons rfl (Sub.cons rfl (Sub.cons rfl (Sub.cons rfl (Sub.cons rfl (Sub.nil _)))))))
      · exact ⟨rfl, Nat.zero_le _⟩
      rintro j h' ⟨rfl, j1⟩
      refine runJ ?_
      (apply w_condD; exact rfl; exact rfl) <;> intro hj
      · obtain ⟨c, hcj⟩ := get_lt hj
        have hcm : c ∈ cs := List.mem_of_getElem? hcj
        have hc8 : c < 256 := s.al c (List.mem_of_mem_take (by rw [hcs]; exact hcm))
        have hvl := vB_lt j (cs.take j) (by rw [List.length_take]; omega) fun b hb => s.al b (List.mem_of_mem_take (by rw [hcs]; exact List.mem_of_mem_take hb))
        have h7 : 256 ^ j ≤ 256 ^ 7 := Nat.pow_le_pow_right (by decide) (by omega)
        have e7 : (256 : Nat) ^ 7 = 72057594037927936 := by decide
        have hsn := vB_snoc (cs.take j) c
        rw [← take_snoc hcj] at hsn
        generalize vB (cs.take j) = v0 at *
        have hv0 : v0 < 72057594037927936 := by omega
        have hor : v0 * 2 ^ 8 ||| c = v0 * 256 + c := by
          rw [Nat.mul_comm v0 (2 ^ 8), ← Nat.two_pow_add_eq_or_of_lt (show c < 2 ^ 8 from hc8), Nat.mul_comm]
        refine runJ ?_
        rw [hor, ← hsn]
        apply again_normal (j + 1)
        · exact (Sub.cons rfl (Sub.cons rfl (Sub.cons rfl (Sub.cons rfl (Sub.cons rfl (Sub.cons rfl (Sub.nil _)))))))
        · exact ⟨rfl, hj⟩
        · omega
      · obtain rfl : j = cs.length := by omega
        rw [List.take_length]
        refine runJ ?_
        have c2 := row1.cut (lo := n) (hi := bs.length) hge (Nat.le_refl _)
        rw [List.take_of_length_le (by rw [List.length_drop]; exact Nat.le_refl _)] at c2
        (apply s_storeC; exact rfl; exact rfl; (first | exact rfl | exact SlF.one (by assumption) | exact SlF.one (OwnF.sl (by assumption)) | exact Var.one (by assumption)); exact rfl; exact rfl; exact x1; exact rfl)
        intro h2 x2 k2
        refine ⟨(by first | exact trivial | exact Ext.refl _ | assumption | exact Ext.only (by assumption) _ | exact Only.trans (Ext.only (by assumption) _) (by assumption)), ?_⟩
        have k2' := k2
        rw [s.pr] at k2'
        have hne2 : (cutV 1 vb n bs.length).ownBlock = none ∨ (cutV 1 vb n bs.length).ownBlock ≠ some k := by
          rcases cutV_own 1 vb n bs.length with e | e
          · exact .inl e
          · rw [e]; exact s.ne
        have hlo2 : ∀ j, (cutV 1 vb n bs.length).ownBlock = some j → j < k := by
          rcases cutV_own 1 vb n bs.length with e | e
          · rw [e]; intro j hj; cases hj
          · rw [e]; exact s.lo
        have hvl := vB_lt n cs hcl fun b hb => s.al b (List.mem_of_mem_take (by rw [hcs]; exact hb))
        refine runJ ?_
        exact fin1 rfl rfl ⟨k1.trans k2, vB cs, 0, rfl, ⟨_, _, ⟨s.pr, x2, c2.only k2' hne2, hlo2, fun b hb => s.al b (List.mem_of_mem_drop hb), by rw [List.length_drop]; omega⟩, .inl ⟨rfl, hR2⟩⟩, hvl, fun _ => ⟨rfl, by rw [htk]⟩⟩
  · rw [if_neg (by simp)] at s1 x1
    refine runJ ?_
    exact fin1 rfl rfl ⟨k1, 0, 2, rfl, ⟨vb, bs, s1, .inr ⟨rfl, rfl⟩⟩, hpos, fun h => by cases h⟩
end Go.Proofs.YtfcmdefigldpnaaDoor

/- Package pack: a reader reads parameters. Condition: the table of math/bits reads as it is laid. -/
namespace Go.Proofs.YtfcmdefigldpnaaDoor
set_option linter.unusedVariables false
set_option maxRecDepth 8000
open Go Go.Den Go.RowKit Go.Dig

/-- What is kept of the parameters in a reader. -/
structure RPar (h : Hp) (B : Nat) (p : ParD) : Prop where mk ::
  own : OwnF h B 22 U p.vq p.q
  al : Al 18446744073709551616 p.q
  n0 : 0 ≤ p.n ∧ p.n < 65536
  t0 : p.t < 4294967296
  w0 : 0 ≤ p.w ∧ p.w < 65536
  l0 : p.q.length < 256
theorem RPar.at {h : Hp} {B : Nat} {p : ParD} (s : RPar h B p) : ParAt h p := ⟨s.own.sl, s.al, by have := s.t0; omega, by have := s.l0; omega⟩
theorem RPar.ext {h h' : Hp} {B : Nat} {p : ParD} (s : RPar h B p) (e : Ext h h') : RPar h' B p := ⟨s.own.ext e, s.al, s.n0, s.t0, s.w0, s.l0⟩
theorem RPar.only {h h' : Hp} {k B : Nat} {p : ParD} (s : RPar h B p) (hB : k < B) (e : Only (some k) h h') : RPar h' B p := by
  refine ⟨s.own.only e ?_, s.al, s.n0, s.t0, s.w0, s.l0⟩
  cases hv : p.vq.ownBlock with
  | none => exact .inl rfl
  | some j => exact .inr fun e => by have := Option.some.inj e; have := (s.own.blk j hv).1; omega
def parZ : ParD := ⟨0, 0, .slice none 0 0, [], 0⟩
theorem RPar.zero (h : Hp) (B : Nat) : RPar h B parZ := ⟨OwnF.nil _ _ _ _, (by intro x hx; cases hx), by decide, by decide, by decide, by decide⟩
theorem RdAt.only {h h' : Hp} {r : Value} {k : Nat} {md : Option (List Nat)} {F : List Nat} {e : Nat} {p : ParD} (s : RdAt h r k md F e p) (x : Ext h h') : RdAt h' r k md F e p := s.ext x

/-- What a region that reads one more prime leaves alone. -/
def RC (h : Hp) (r : Value) (k : Nat) (p : ParD) (h' : Hp) : Prop := Two (some k) p.vq.ownBlock h h' ∧ ∃ vb e, Var h' r 101 [vb, I p.n, U p.t, p.vq, I p.w, N e]
theorem RdS.rc {h : Hp} {r : Value} {k : Nat} {vb : Value} {bs : List Nat} {e : Nat} {p : ParD} (s : RdS h r k vb bs e p) : RC h r k p h := ⟨Two.refl _ _ _, _, _, s.var⟩
theorem RC.ext {h h1 h2 : Hp} {r : Value} {k : Nat} {p : ParD} (c : RC h r k p h1) (e : Ext h1 h2) : RC h r k p h2 :=
  ⟨c.1.trans ⟨e.1, fun i hi _ _ => e.2 i hi⟩, let ⟨vb, x, hv⟩ := c.2; ⟨vb, x, hv.ext e⟩⟩
theorem RC.app {h h1 h2 : Hp} {r : Value} {k : Nat} {p : ParD} (c : RC h r k p h1) (e : Only p.vq.ownBlock h1 h2) (hne : pblk r ≠ p.vq.ownBlock) : RC h r k p h2 :=
  ⟨c.1.trans (only_two2 e), let ⟨vb, x, hv⟩ := c.2; ⟨vb, x, hv.only e hne⟩⟩
theorem RdS.kl {h : Hp} {r : Value} {k : Nat} {vb : Value} {bs : List Nat} {e : Nat} {p : ParD} (s : RdS h r k vb bs e p) : k < h.size := by
  obtain ⟨j, hj, hl⟩ := s.var.blk
  rw [s.pr] at hj; cases hj; exact hl
theorem wordsB_drop {q : List Nat} {i x : Nat} (h : q[i]? = some x) : wordsB (q.drop i) = numB x 8 ++ wordsB (q.drop (i + 1)) := by
  obtain ⟨hl, rfl⟩ := List.getElem?_eq_some_iff.1 h
  rw [List.drop_eq_getElem_cons hl, wordsB_cons]

theorem Tryd_ent44 : Ent Tryd.prog 44 := ent_of Tryd.func44 (by kernel_rfl) rfl
set_option maxHeartbeats 4000000 in
theorem rstart_spec (r : Value) (k kind n t w : Nat) (md : Option (List Nat)) (q F : List Nat) (vq0 : Value) (h : Hp) (T : ∀ h', Only (pblk r) h h' → TB h') (s : RdAt h r k md (hdrB kind n t w q ++ F) 0 parZ) (hk : kind < 256) (hn : n < 65536) (ht : t < 4294967296) (hw : w < 256) (hq : q.length < 256) (hqa : ∀ x ∈ q, x < 18446744073709551616)
    (P : parP ⟨(n : Int), t, vq0, q, (w : Int)⟩) :
    CallsH Tryd.prog 44 [r, U kind] h fun v' h' => Only (pblk r) h h' ∧ ∃ e p, RdAt h' r k md F e p ∧ RPar h' h.size p ∧ (e = 0 → p.n = (n : Int) ∧ p.t = t ∧ p.q = q ∧ p.w = (w : Int)) := by
  have hB : hdrB kind n t w q ++ F = [kind] ++ (numB n 2 ++ (numB t 4 ++ ([w] ++ ([q.length] ++ (wordsB q ++ F))))) := by
    unfold hdrB
    rw [Nat.mod_eq_of_lt hw, Nat.mod_eq_of_lt hq]
    simp only [List.append_assoc, List.cons_append, List.nil_append]
  rw [hB] at s
  have hpk : pblk r = some k := by obtain ⟨_, _, s, -⟩ := s; exact s.pr
  have hkh : k < h.size := by obtain ⟨_, _, s, -⟩ := s; exact s.kl
  have vB1 : ∀ x, vB [x] = x := fun x => by unfold vB; simp
  have vN2 : vB (numB n 2) = n := by rw [vB_num]; exact Nat.mod_eq_of_lt hn
  have vN4 : vB (numB t 4) = t := by rw [vB_num]; exact Nat.mod_eq_of_lt ht
  have l2 := numB_len n 2
  have l4 := numB_len t 4
  (apply enter Tryd.func44 rfl Tryd.ntmps44 rfl)
  refine runJ ?_
  refine s_callV rfl Tryd_ent45 rfl rfl rfl ?_
  refine (rnumber_spec r k 0 md [kind] _ parZ h s (by simp)).mono ?_
  rintro _ h1 ⟨k1, v1, e1, rfl, s1, b1, c1⟩
  refine ⟨(by first | exact trivial | exact trivial), ?_⟩
  rw [vB1] at c1
  refine runJ ?_
  apply (s_call Tryd_ent46 rfl rfl rfl)
  refine (failR_spec r k e1 3 md _ parZ _ h1 s1 (fun h => by rw [(c1 h).2]; simp)).mono ?_
  rintro _ h2 ⟨k2, s2⟩
  refine ⟨(by first | exact trivial | exact trivial), ?_⟩
  have K2 := k1.trans k2
  refine runJ ?_
  refine s_callV rfl Tryd_ent45 rfl rfl rfl ?_
  refine (rnumber_spec r k e1 md (numB n 2) _ parZ h2 s2 (by rw [l2]; decide)).mono ?_
  rintro _ h3 ⟨k3, v3, e3, rfl, s3, b3, c3⟩
  refine ⟨(by first | exact trivial | exact trivial), ?_⟩
  have b3' : v3 < 65536 := by rw [l2] at b3; exact b3
  rw [vN2] at c3
  have K3 := K2.trans k3
  refine runJ ?_
  refine s_callV rfl Tryd_ent45 rfl rfl rfl ?_
  refine (rnumber_spec r k e3 md (numB t 4) _ parZ h3 s3 (by rw [l4]; decide)).mono ?_
  rintro _ h4 ⟨k4, v4, e4, rfl, s4, b4, c4⟩
  refine ⟨(by first | exact trivial | exact trivial), ?_⟩
  have b4' : v4 < 4294967296 := by rw [l4] at b4; exact b4
  rw [vN4] at c4
  have K4 := K3.trans k4
  refine runJ ?_
  refine s_callV rfl Tryd_ent45 rfl rfl rfl ?_
  refine (rnumber_spec r k e4 md [w] _ parZ h4 s4 (by simp)).mono ?_
  rintro _ h5 ⟨k5, v5, e5, rfl, s5, b5, c5⟩
  refine ⟨(by first | exact trivial | exact trivial), ?_⟩
  have b5' : v5 < 256 := b5
  rw [vB1] at c5
  have K5 := K4.trans k5
  obtain ⟨vb5, bs5, S5, R5⟩ := s5
  have x5 := S5.var
  refine runJ ?_
  (apply (s_build ([N v3, U v4, .slice none 0 0, N v5])); exact rfl; exact rfl; exact rfl; (repeat (first | exact CellsAll.nil | (apply CellsAll.cons; (first | exact oneL (by assumption) | exact oneL (SlF.one (by assumption)) | exact oneL (SlF.one (OwnF.sl (by assumption))) | exact oneL (Var.one (by assumption)) | exact rfl)))); exact rfl; exact rfl)
  refine runJ ?_
  (apply s_storeP; exact rfl; exact rfl; exact rfl; exact (OneAll.cons rfl (OneAll.cons rfl (OneAll.cons rfl (OneAll.cons rfl OneAll.nil))) : OneAll [N v3, U v4, .slice none 0 0, N v5]); exact rfl; exact rfl; exact x5; exact rfl)
  intro h6 x6 k6
  refine ⟨trivial, ?_⟩
  have x6 : Var h6 r 101 [vb5, N v3, U v4, .slice none 0 0, N v5, N e5] := x6
  have k6' := k6
  rw [hpk] at k6'
  have S6 : RdS h6 r k vb5 bs5 e5 ⟨(v3 : Int), v4, .slice none 0 0, [], (v5 : Int)⟩ := ⟨hpk, x6, S5.row.only k6' S5.ne, S5.lo, S5.al, S5.ln⟩
  have s6 : RdAt h6 r k md _ e5 _ := ⟨vb5, bs5, S6, R5⟩
  have K6 := K5.trans k6
  refine runJ ?_
  refine s_callV rfl Tryd_ent45 rfl rfl rfl ?_
  refine (rnumber_spec r k e5 md [q.length] _ _ h6 s6 (by simp)).mono ?_
  rintro _ h7 ⟨k7, v7, e7, rfl, s7, b7, c7⟩
  refine ⟨(by first | exact trivial | exact trivial), ?_⟩
  have b7' : v7 < 256 := b7
  rw [vB1] at c7
  have K7 := K6.trans k7
  clear S5 S6 R5 x5 x6
  refine runJ ?_
  (first | (apply w_seqB; exact rfl; apply w_block; exact rfl) | skip)
  apply (w_loop (σ := Nat × ParD × Nat) rfl (fun j => [(0, r), (4, .func (.func 45) #[r] #[]), (5, U (v7 - j.1))])
    (fun j h' => j.1 ≤ v7 ∧ Only (pblk r) h h' ∧ RdAt h' r k md (wordsB (q.drop j.1) ++ F) j.2.2 j.2.1 ∧ RPar h' h.size j.2.1 ∧ j.2.1.q.length = j.1 ∧ (j.2.2 = 0 → v7 = q.length ∧ j.2.1.n = (n : Int) ∧ j.2.1.t = t ∧ j.2.1.q = q.take j.1 ∧ j.2.1.w = (w : Int))) (fun j => v7 - j.1) (0, ⟨(v3 : Int), v4, .slice none 0 0, [], (v5 : Int)⟩, e7))
  · exact (Sub.cons rfl (Sub.cons rfl (Sub.cons rfl (Sub.nil _))))
  · refine ⟨Nat.zero_le _, K7, s7, ⟨OwnF.nil _ _ _ _, (by intro x hx; cases hx), by dsimp only; omega, by dsimp only; omega, by dsimp only; omega, by simp⟩, rfl, fun h0 => ?_⟩
    obtain ⟨q1, q2⟩ := c7 h0
    obtain ⟨q3, q4⟩ := c5 q1
    obtain ⟨q5, q6⟩ := c4 q3
    obtain ⟨q7, q8⟩ := c3 q5
    exact ⟨q2, by dsimp only; omega, q6, rfl, by dsimp only; omega⟩
  rintro ⟨j, p, e⟩ h8 ⟨j1, K8, s8, R8, l8, c8⟩
  dsimp only at j1 s8 R8 l8 c8 ⊢
  obtain ⟨vb8, bs8, S8, T8⟩ := s8
  have x8 := S8.var
  refine runJ ?_
  have fin : ∀ (hE : e ≠ 0 ∨ j = v7), RdAt h8 r k md F e p ∧ (e = 0 → p.n = (n : Int) ∧ p.t = t ∧ p.q = q ∧ p.w = (w : Int)) := by
    intro hE
    have s8 : RdAt h8 r k md (wordsB (q.drop j) ++ F) e p := ⟨vb8, bs8, S8, T8⟩
    rcases s8.e2 with rfl | rfl
    · obtain ⟨q1, q2, q3, q4, q5⟩ := c8 rfl
      have hj : j = q.length := by
        rcases hE with h | h
        · exact absurd rfl h
        · omega
      subst hj
      rw [List.drop_length] at s8
      rw [List.take_length] at q4
      exact ⟨s8, fun _ => ⟨q2, q3, q4, q5⟩⟩
    · exact ⟨s8.any F, fun h => by cases h⟩
  have par : ∀ p : ParD, (p.n = (n : Int) ∧ p.t = t ∧ p.q = q ∧ p.w = (w : Int)) → parP p := fun p ⟨h1, h2, h3, h4⟩ => by
    obtain ⟨n', t', vq', q', w'⟩ := p
    dsimp only at h1 h2 h3 h4
    subst h1 h2 h3 h4
    exact P
  (apply s_splitG; exact rfl; exact rfl; exact rfl; exact rfl) <;> intro g1
  · refine runJ ?_
    (apply w_condD; exact rfl; exact rfl) <;> intro he
    · subst he
      obtain ⟨q1, q2, q3, q4, q5⟩ := c8 rfl
      obtain ⟨x, hxj⟩ := get_lt (l := q) (j := j) (by omega)
      have hxl := hqa x (List.mem_of_getElem? hxj)
      have s8 : RdAt h8 r k md (wordsB (q.drop j) ++ F) 0 p := ⟨vb8, bs8, S8, T8⟩
      rw [wordsB_drop hxj, List.append_assoc] at s8
      have l8x := numB_len x 8
      have vx : vB (numB x 8) = x := by rw [vB_num]; exact Nat.mod_eq_of_lt hxl
      have hkvq : pblk r ≠ p.vq.ownBlock := by rw [hpk]; intro e; have := (R8.own.blk k e.symm).1; omega
      refine runJN ?_
      (apply (r_drawnT 13 (RC h8 r k p)); exact rfl; exact mixed; kernel_rfl; exact rfl; exact S8.rc)
      refine runJ ?_
      refine s_loadCell (u := p.vq) (off := 1 + 2) rfl rfl (rd_cl fun h' hc => let ⟨vb, e, hv⟩ := hc.2; ⟨_, _, hv, rfl⟩) rfl ?_
      refine runJ ?_
      refine s_callV rfl Tryd_ent45 rfl rfl rfl ?_
      refine (rnumber_spec r k 0 md (numB x 8) _ p h8 s8 (by rw [l8x]; decide)).mono ?_
      rintro _ h9 ⟨k9, y, e9, rfl, ⟨vb9, bs9, S9, T9⟩, b9, c9⟩
      refine ⟨(by first | exact trivial | exact ⟨by rw [← hpk]; exact only_two1 k9, vb9, e9, S9.var⟩), ?_⟩
      have C9 : RC h8 r k p h9 := ⟨by rw [← hpk]; exact only_two1 k9, vb9, e9, S9.var⟩
      have k9' := k9
      rw [hpk] at k9'
      rw [l8x] at b9
      have e64 : (256 : Nat) ^ 8 = 18446744073709551616 := by decide
      rw [e64] at b9
      rw [vx] at c9
      have R9 := R8.only hkh k9'
      have K9 := K8.trans k9
      refine runJ ?_
      (apply (s_litF (f := U) [y] (fun _ => rfl)); exact rfl; exact rfl; exact rfl; exact rfl; exact rfl; exact rfl; exact rfl; exact rfl; omega)
      intro v10 h10 o10 e10 b10
      refine ⟨(by first | exact C9.ext e10 | exact trivial | exact Ext.refl _ | assumption | exact Ext.trans (by assumption) (by assumption)), ?_⟩
      have o910 := R9.own.ext e10
      have hB10 : h.size ≤ h10.size := Nat.le_trans K9.1 e10.1
      have hy1 : [y].length = 1 := rfl
      refine runJ ?_
      (apply (s_appendF (bytes := 8)); exact rfl; exact rfl; exact rfl; exact rfl; exact rfl; exact rfl; exact rfl; exact o910; exact o10.sl; exact fun _ => rfl; (first | exact Nat.le_refl _ | exact ext_size (by assumption) | omega); ((try simp only [maxLen]); (try simp only [List.length_nil]); (try simp only [List.length_append]); omega); ((try simp only [List.length_nil]); (try simp only [List.length_append]); omega))
      intro v11 h11 o11 k11 b11
      refine ⟨(by first | exact (C9.ext e10).app k11 hkvq | exact trivial | exact Ext.refl _ | assumption | exact Ext.trans (by assumption) (by assumption)), ?_⟩
      have x11 := (S9.var.ext e10).only k11 hkvq
      have o11one := o11.sl.one
      have hvbq : vb9.ownBlock = none ∨ vb9.ownBlock ≠ p.vq.ownBlock := by
        cases hv : vb9.ownBlock with
        | none => exact .inl rfl
        | some i => exact .inr fun e => by have := S9.lo i hv; have := (R8.own.blk i e.symm).1; omega
      refine runJ ?_
      apply tail_end
      refine runJ ?_
      (apply s_storeC; exact rfl; exact rfl; (first | exact rfl | exact SlF.one (by assumption) | exact SlF.one (OwnF.sl (by assumption)) | exact Var.one (by assumption)); exact rfl; exact rfl; exact x11; exact rfl)
      intro h12 x12 k12
      refine ⟨(by first | exact trivial | exact Ext.refl _ | assumption | exact Ext.only (by assumption) _ | exact Only.trans (Ext.only (by assumption) _) (by assumption)), ?_⟩
      have k12' := k12
      rw [hpk] at k12'
      have hne11 : v11.ownBlock = none ∨ v11.ownBlock ≠ some k := by
        cases hv : v11.ownBlock with
        | none => exact .inl rfl
        | some i => exact .inr fun e => by have := Option.some.inj e; have := (o11.blk i hv).1; omega
      have S12 : RdS h12 r k vb9 bs9 e9 ⟨p.n, p.t, v11, p.q ++ [y], p.w⟩ := ⟨hpk, x12, ((S9.row.ext e10).only k11 hvbq).only k12' S9.ne, S9.lo, S9.al, S9.ln⟩
      have s12 : RdAt h12 r k md (wordsB (q.drop (j + 1)) ++ F) e9 ⟨p.n, p.t, v11, p.q ++ [y], p.w⟩ := ⟨vb9, bs9, S12, T9⟩
      have K11 : Only (pblk r) h h11 := only_own (K9.trans (e10.only _)) k11 fun i hi => (R8.own.blk i hi).1
      refine runJ ?_
      rw [show v7 - j - 1 = v7 - (j + 1) by omega]
      apply again_normal (j + 1, ⟨p.n, p.t, v11, p.q ++ [y], p.w⟩, e9)
      · exact (Sub.cons rfl (Sub.cons rfl (Sub.cons rfl (Sub.nil _))))
      · refine ⟨by dsimp only; omega, K11.trans k12, s12, ⟨o11.only k12' hne11, fun a ha => ?_, R8.n0, R8.t0, R8.w0, ?_⟩, ?_, fun h0 => ?_⟩
        · rcases List.mem_append.1 ha with ha | ha
          · exact R8.al a ha
          · rw [List.mem_singleton.1 ha]; exact b9
        · dsimp only
          rw [List.length_append, l8]
          simp only [List.length_cons, List.length_nil]
          omega
        · dsimp only
          rw [List.length_append, l8]; rfl
        · obtain ⟨-, hy⟩ := c9 h0
          refine ⟨q1, q2, q3, ?_, q5⟩
          dsimp only
          rw [q4, hy, ← take_snoc hxj]
      · dsimp only; omega
    · refine runJ ?_
      have T8 := T h8 K8
      obtain ⟨s8f, F8⟩ := fin (.inl he)
      refine s_loadA [I p.n, U p.t, p.vq, I p.w] (off := 1) rfl rfl (rd_plain x8) rfl rfl rfl ?_
      refine runJ ?_
      apply (s_call Tryd_ent29 rfl rfl rfl)
      refine (check_spec p h8 T8 R8.at).mono ?_
      rintro _ h9 ⟨rfl, e9⟩
      refine ⟨(by first | exact trivial | exact trivial), ?_⟩
      refine runJ ?_
      apply (s_call Tryd_ent46 rfl rfl rfl)
      refine (failR_spec r k e 8 md F p _ h9 (s8f.ext e9) (fun h0 => by rw [if_pos (par p (F8 h0))]; rfl)).mono ?_
      rintro _ h10 ⟨k10, s10⟩
      refine ⟨(by first | exact trivial | exact trivial), ?_⟩
      have k10' := k10
      rw [hpk] at k10'
      refine runJ ?_
      exact fin0n rfl ⟨K8.trans ((e9.only _).trans k10), e, p, s10, (R8.ext e9).only hkh k10', F8⟩
  · refine runJ ?_
    have T8 := T h8 K8
    obtain ⟨s8f, F8⟩ := fin (.inr (by omega))
    refine s_loadA [I p.n, U p.t, p.vq, I p.w] (off := 1) rfl rfl (rd_plain x8) rfl rfl rfl ?_
    refine runJ ?_
    apply (s_call Tryd_ent29 rfl rfl rfl)
    refine (check_spec p h8 T8 R8.at).mono ?_
    rintro _ h9 ⟨rfl, e9⟩
    refine ⟨(by first | exact trivial | exact trivial), ?_⟩
    refine runJ ?_
    apply (s_call Tryd_ent46 rfl rfl rfl)
    refine (failR_spec r k e 8 md F p _ h9 (s8f.ext e9) (fun h0 => by rw [if_pos (par p (F8 h0))]; rfl)).mono ?_
    rintro _ h10 ⟨k10, s10⟩
    refine ⟨(by first | exact trivial | exact trivial), ?_⟩
    have k10' := k10
    rw [hpk] at k10'
    refine runJ ?_
    exact fin0n rfl ⟨K8.trans ((e9.only _).trans k10), e, p, s10, (R8.ext e9).only hkh k10', F8⟩
end Go.Proofs.YtfcmdefigldpnaaDoor

/- Package pack: a reader reads an element, and comes to an end. No condition. -/
namespace Go.Den
open Go Go.RowKit
section fin
variable {P : Program} {n : Nat} {fn : Func} {R : Value → Hp → Prop} {l : Fr} {h : Hp}
theorem finCCT {s s2 u : Nat} {t t2 e e2 : TypeId} {p p2 v3 : Value} {cs cs2 : List Value} (hr : fn.results = #[.cell s t, .cell s2 t2, .tmp u]) (hl : look l s = some p) (hl2 : look l s2 = some p2) (hl3 : look l u = some v3) (hv : Var h p e cs) (hv2 : Var h p2 e2 cs2) (ht : aggTy P t = true) (hz : (P.info? t).map (·.size) = some cs.length) (ht2 : aggTy P t2 = true) (hz2 : (P.info? t2).map (·.size) = some cs2.length) (k : R (.tuple #[.agg cs.toArray, .agg cs2.toArray, v3]) h) : At (Fin P n fn R) .ret l h :=
  ⟨⟨_, fun a w hf hw => by
    obtain ⟨ad, h1, h2⟩ := run_resCell (P := P) (w := w) (by rw [hw]; exact hv) ht hz
    obtain ⟨ad2, h3, h4⟩ := run_resCell (P := P) (w := w) (by rw [hw]; exact hv2) ht2 hz2
    simp [results, hr, hf.slots s p hl, hf.slots s2 p2 hl2, hf.slots u v3 hl3, h1, h2, h3, h4], k⟩⟩
theorem finCTT {s u u2 : Nat} {t e : TypeId} {p v2 v3 : Value} {cs : List Value} (hr : fn.results = #[.cell s t, .tmp u, .tmp u2]) (hl : look l s = some p) (hl2 : look l u = some v2) (hl3 : look l u2 = some v3) (hv : Var h p e cs) (ht : aggTy P t = true) (hz : (P.info? t).map (·.size) = some cs.length) (k : R (.tuple #[.agg cs.toArray, v2, v3]) h) : At (Fin P n fn R) .ret l h :=
  ⟨⟨_, fun a w hf hw => by
    obtain ⟨ad, h1, h2⟩ := run_resCell (P := P) (w := w) (by rw [hw]; exact hv) ht hz
    simp [results, hr, hf.slots s p hl, hf.slots u v2 hl2, hf.slots u2 v3 hl3, h1, h2], k⟩⟩
end fin
end Go.Den
namespace Go.Proofs.YtfcmdefigldpnaaDoor
set_option linter.unusedVariables false
set_option maxRecDepth 8000
open Go Go.Den Go.RowKit Go.Dig

theorem RdAt.high {h h' : Hp} {r : Value} {k : Nat} {md : Option (List Nat)} {F : List Nat} {e : Nat} {p : ParD} {r' : Option Nat} (s : RdAt h r k md F e p) (x : Only r' h h') (hr : ∀ j, r' = some j → k < j) : RdAt h' r k md F e p := by
  obtain ⟨vb, bs, S, hc⟩ := s
  refine ⟨vb, bs, ⟨S.pr, S.var.only x ?_, S.row.only x ?_, S.lo, S.al, S.ln⟩, hc⟩
  · rw [S.pr]; intro e; have := hr k e.symm; omega
  · cases hv : vb.ownBlock with
    | none => exact .inl rfl
    | some j => exact .inr fun e => by have := S.lo j hv; have := hr j e.symm; omega
theorem RPar.high {h h' : Hp} {B M : Nat} {p : ParD} {r' : Option Nat} (s : RPar h B p) (x : Only r' h h') (hM : ∀ j, p.vq.ownBlock = some j → j < M) (hr : ∀ j, r' = some j → M ≤ j) : RPar h' B p := by
  refine ⟨s.own.only x ?_, s.al, s.n0, s.t0, s.w0, s.l0⟩
  cases hv : p.vq.ownBlock with
  | none => exact .inl rfl
  | some j => exact .inr fun e => by have := hM j hv; have := hr j e.symm; omega
theorem RdAt.pk {h : Hp} {r : Value} {k : Nat} {md : Option (List Nat)} {F : List Nat} {e : Nat} {p : ParD} (s : RdAt h r k md F e p) : pblk r = some k ∧ k < h.size := by
  obtain ⟨_, _, s, -⟩ := s
  exact ⟨s.pr, s.kl⟩
/-- What comes out at the end. -/
def endE (md : Option (List Nat)) : Nat := match md with
  | none => 2
  | some [] => 0
  | some (_ :: _) => 14

theorem Tryd_ent48 : Ent Tryd.prog 48 := ent_of Tryd.func48 (by kernel_rfl) rfl
theorem rend_spec (r : Value) (k e : Nat) (md : Option (List Nat)) (p : ParD) (h : Hp) (s : RdAt h r k md [] e p) :
    CallsH Tryd.prog 48 [r] h fun v' h' => Only (pblk r) h h' ∧ v' = N (endE md) ∧ ∃ vb bs e', RdS h' r k vb bs e' p := by
  obtain ⟨vb, bs, S, hc⟩ := s
  have x := S.var
  have row := S.row
  (apply enter Tryd.func48 rfl Tryd.ntmps48 rfl)
  refine runJ ?_
  apply (s_call Tryd_ent46 rfl rfl rfl)
  refine (fail_spec r vb k e 14 bs p _ h S).mono ?_
  rintro _ h1 ⟨k1, S1⟩
  refine ⟨(by first | exact trivial | exact trivial), ?_⟩
  have hE : (if decide (0 < bs.length) = true ∧ e = 0 then 14 else e) = endE md := by
    rcases hc with ⟨rfl, hR⟩ | ⟨rfl, rfl⟩
    · cases md with
      | none =>
        obtain ⟨s, hs, h⟩ := hR
        simp at h
        exact absurd h.2 hs
      | some X =>
        have hX : bs = [] ++ X := hR
        rw [List.nil_append] at hX
        subst hX
        cases bs with
        | nil => rfl
        | cons x bs => rfl
    · rw [if_neg (by simp)]; rfl
  rw [hE] at S1
  have x1 := S1.var
  refine runJ ?_
  exact fin1 rfl rfl ⟨k1, rfl, _, _, _, S1⟩
end Go.Proofs.YtfcmdefigldpnaaDoor
