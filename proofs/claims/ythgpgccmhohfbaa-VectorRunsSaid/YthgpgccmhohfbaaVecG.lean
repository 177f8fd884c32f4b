/- Vector programs: a run. No condition. -/
import Derived.Test.YthgpgccmhohfbaaVecF
namespace Go.Proofs.Ythgpgccmhohfbaa
set_option linter.unusedVariables false
open Go Go.Den Go.RowKit

/-- What a run has in memory between two instructions. -/
structure RunI (h0 h : Hp) (m : Value) (D : MachD) (vO : Value) (out : List (Value × List Int)) : Prop where mk ::
  ext : Ext h0 h
  var : Var h m 50 D.cells
  own : OwnF h h0.size 51 Prod.fst D.vK D.kn
  knr : ∀ x ∈ D.kn, SlF h U x.1 x.2
  ownO : OwnF h h0.size 25 Prod.fst vO out
  outr : ∀ x ∈ out, SlF h I x.1 x.2
  mk0 : ∃ k, pblk m = some k ∧ h0.size ≤ k
  mK : pblk m ≠ D.vK.ownBlock
  mO : pblk m ≠ vO.ownBlock
  KO : D.vK.ownBlock = none ∨ D.vK.ownBlock ≠ vO.ownBlock
  knb : ∀ x ∈ D.kn, ∀ k, x.1.ownBlock = some k → k < h.size ∧ some k ≠ D.vK.ownBlock ∧ some k ≠ vO.ownBlock ∧ some k ≠ pblk m
  outb : ∀ x ∈ out, ∀ k, x.1.ownBlock = some k → k < h.size ∧ some k ≠ D.vK.ownBlock ∧ some k ≠ vO.ownBlock ∧ some k ≠ pblk m

theorem RunI.extend {h0 h h' : Hp} {m : Value} {D : MachD} {vO : Value} {out : List (Value × List Int)} (k : RunI h0 h m D vO out) (e : Ext h h') : RunI h0 h' m D vO out :=
  ⟨k.ext.trans e, k.var.ext e, k.own.ext e, fun x hx => (k.knr x hx).ext e, k.ownO.ext e, fun x hx => (k.outr x hx).ext e, k.mk0, k.mK, k.mO, k.KO,
   fun x hx j hj => ⟨Nat.lt_of_lt_of_le (k.knb x hx j hj).1 e.1, (k.knb x hx j hj).2⟩, fun x hx j hj => ⟨Nat.lt_of_lt_of_le (k.outb x hx j hj).1 e.1, (k.outb x hx j hj).2⟩⟩

theorem ne_of_some {v : Value} {r : Option Nat} (h : ∀ k, v.ownBlock = some k → some k ≠ r) : v.ownBlock = none ∨ v.ownBlock ≠ r := by
  cases hv : v.ownBlock with
  | none => exact .inl rfl
  | some k => exact .inr (h k hv)

def MachD.push (D : MachD) (v u : Value) (row : List Nat) : MachD := { D with vK := v, kn := D.kn ++ [(u, row)] }

theorem RunI.pushK {h0 h h2 h3 h4 : Hp} {m : Value} {D : MachD} {vO : Value} {out : List (Value × List Int)} (k : RunI h0 h m D vO out) {u v : Value} {row : List Nat} (e2 : Ext h h2) (o2 : OwnF h2 h.size 28 U u row)
    (o3 : OwnF h3 h0.size 51 Prod.fst v (D.kn ++ [(u, row)])) (k3 : Only D.vK.ownBlock h2 h3) (b3 : v.ownBlock = D.vK.ownBlock ∨ ∃ b, v.ownBlock = some b ∧ h2.size ≤ b)
    (x4 : Var h4 m 50 (D.push v u row).cells) (k4 : Only (pblk m) h3 h4) : RunI h0 h4 m (D.push v u row) vO out := by
  obtain ⟨mb, hm, hm0⟩ := k.mk0
  have hmlt : mb < h.size := by obtain ⟨j, hj, hlt⟩ := k.var.blk; rw [hm] at hj; cases hj; exact hlt
  have hKlt : ∀ j, D.vK.ownBlock = some j → h0.size ≤ j ∧ j < h.size := k.own.blk
  have hOlt : ∀ j, vO.ownBlock = some j → h0.size ≤ j ∧ j < h.size := k.ownO.blk
  have hu : ∀ j, u.ownBlock = some j → h.size ≤ j ∧ j < h2.size := o2.blk
  have s2 := e2.1
  have s3 := k3.1
  have s4 := k4.1
  -- the new block of the known rows is none that was there
  have vm : pblk m ≠ v.ownBlock := by
    rcases b3 with b3 | ⟨b, hb, hlt⟩
    · rw [b3]; exact k.mK
    · rw [hm, hb]; intro e; cases e; omega
  have vO' : v.ownBlock = none ∨ v.ownBlock ≠ vO.ownBlock := by
    rcases b3 with b3 | ⟨b, hb, hlt⟩
    · rw [b3]; exact k.KO
    · right; rw [hb]; intro e; have := hOlt b e.symm; omega
  have vn : ∀ j, j < h2.size → some j ≠ D.vK.ownBlock → some j ≠ v.ownBlock := fun j hj hne => by
    rcases b3 with b3 | ⟨b, hb, hlt⟩
    · rw [b3]; exact hne
    · rw [hb]; intro e; cases e; omega
  have hK3 : h0.size ≤ h.size := k.ext.1
  have e3 : Ext h0 h3 := k3.old (k.ext.trans e2) fun j hj => (hKlt j hj).1
  have e4 : Ext h0 h4 := k4.old e3 fun j hj => by rw [hm] at hj; cases hj; exact hm0
  refine ⟨e4, x4, ?_, ?_, ?_, ?_, k.mk0, vm, k.mO, vO', ?_, ?_⟩
  · exact o3.only k4 (.inr fun e => vm e.symm)
  · intro x hx
    rcases List.mem_append.1 hx with hx | hx
    · have h1 := (k.knr x hx).ext e2
      have h2 := h1.only k3 (ne_of_some fun j hj => (k.knb x hx j hj).2.1)
      exact h2.only k4 (ne_of_some fun j hj => (k.knb x hx j hj).2.2.2)
    · simp only [List.mem_singleton] at hx
      subst hx
      have h2 := o2.sl.only k3 (ne_of_some fun j hj e => by have := hu j hj; have := hKlt j e.symm; omega)
      exact h2.only k4 (ne_of_some fun j hj e => by have := hu j hj; rw [hm] at e; cases e; omega)
  · refine ((k.ownO.ext e2).only k3 (ne_of_some fun j hj e => ?_)).only k4 (ne_of_some fun j hj e => ?_)
    · rcases k.KO with h | h
      · rw [h] at e; cases e
      · rw [hj, ← e] at h; exact h rfl
    · exact k.mO (by rw [← e, hj])
  · intro x hx
    have h1 := (k.outr x hx).ext e2
    have h2 := h1.only k3 (ne_of_some fun j hj => (k.outb x hx j hj).2.1)
    exact h2.only k4 (ne_of_some fun j hj => (k.outb x hx j hj).2.2.2)
  · intro x hx j hj
    rcases List.mem_append.1 hx with hx | hx
    · obtain ⟨g1, g2, g3, g4⟩ := k.knb x hx j hj
      exact ⟨by omega, vn j (by omega) g2, g3, g4⟩
    · simp only [List.mem_singleton] at hx
      subst hx
      have := hu j hj
      refine ⟨by omega, vn j (by omega) fun e => ?_, fun e => ?_, fun e => ?_⟩
      · have := hKlt j e.symm; omega
      · have := hOlt j e.symm; omega
      · rw [hm] at e; cases e; omega
  · intro x hx j hj
    obtain ⟨g1, g2, g3, g4⟩ := k.outb x hx j hj
    exact ⟨by omega, vn j (by omega) g2, g3, g4⟩

theorem RunI.pushO {h0 h h2 h3 : Hp} {m : Value} {D : MachD} {vO : Value} {out : List (Value × List Int)} (k : RunI h0 h m D vO out) {u v : Value} {row : List Int} (e2 : Ext h h2) (o2 : OwnF h2 h.size 3 I u row)
    (o3 : OwnF h3 h0.size 25 Prod.fst v (out ++ [(u, row)])) (k3 : Only vO.ownBlock h2 h3) (b3 : v.ownBlock = vO.ownBlock ∨ ∃ b, v.ownBlock = some b ∧ h2.size ≤ b) : RunI h0 h3 m D v (out ++ [(u, row)]) := by
  obtain ⟨mb, hm, hm0⟩ := k.mk0
  have hmlt : mb < h.size := by obtain ⟨j, hj, hlt⟩ := k.var.blk; rw [hm] at hj; cases hj; exact hlt
  have hKlt : ∀ j, D.vK.ownBlock = some j → h0.size ≤ j ∧ j < h.size := k.own.blk
  have hOlt : ∀ j, vO.ownBlock = some j → h0.size ≤ j ∧ j < h.size := k.ownO.blk
  have hu : ∀ j, u.ownBlock = some j → h.size ≤ j ∧ j < h2.size := o2.blk
  have s2 := e2.1
  have s3 := k3.1
  have vm : pblk m ≠ v.ownBlock := by
    rcases b3 with b3 | ⟨b, hb, hlt⟩
    · rw [b3]; exact k.mO
    · rw [hm, hb]; intro e; cases e; omega
  have vK' : D.vK.ownBlock = none ∨ D.vK.ownBlock ≠ v.ownBlock := by
    rcases b3 with b3 | ⟨b, hb, hlt⟩
    · rw [b3]; exact k.KO
    · right; rw [hb]; intro e; have := hKlt b e; omega
  have vn : ∀ j, j < h2.size → some j ≠ vO.ownBlock → some j ≠ v.ownBlock := fun j hj hne => by
    rcases b3 with b3 | ⟨b, hb, hlt⟩
    · rw [b3]; exact hne
    · rw [hb]; intro e; cases e; omega
  have e3 : Ext h0 h3 := k3.old (k.ext.trans e2) fun j hj => (hOlt j hj).1
  refine ⟨e3, (k.var.ext e2).only k3 k.mO, (k.own.ext e2).only k3 k.KO, ?_, o3, ?_, k.mk0, k.mK, vm, vK', ?_, ?_⟩
  · intro x hx
    exact ((k.knr x hx).ext e2).only k3 (ne_of_some fun j hj => (k.knb x hx j hj).2.2.1)
  · intro x hx
    rcases List.mem_append.1 hx with hx | hx
    · exact ((k.outr x hx).ext e2).only k3 (ne_of_some fun j hj => (k.outb x hx j hj).2.2.1)
    · simp only [List.mem_singleton] at hx
      subst hx
      exact o2.sl.only k3 (ne_of_some fun j hj e => by have := hu j hj; have := hOlt j e.symm; omega)
  · intro x hx j hj
    obtain ⟨g1, g2, g3, g4⟩ := k.knb x hx j hj
    exact ⟨by omega, g2, vn j (by omega) g3, g4⟩
  · intro x hx j hj
    rcases List.mem_append.1 hx with hx | hx
    · obtain ⟨g1, g2, g3, g4⟩ := k.outb x hx j hj
      exact ⟨by omega, g2, vn j (by omega) g3, g4⟩
    · simp only [List.mem_singleton] at hx
      subst hx
      have := hu j hj
      refine ⟨by omega, fun e => ?_, vn j (by omega) fun e => ?_, fun e => ?_⟩
      · have := hKlt j e.symm; omega
      · have := hOlt j e.symm; omega
      · rw [hm] at e; cases e; omega

theorem runF_snoc (V : VecD) (irs : List (List Int)) (s t : Nat) (code : List Ins) {j : Nat} {x : Ins} (h : code[j]? = some x) : runF V irs s t (code.take (j + 1)) = runF V irs s t (code.take j) ++ [stepF V irs s t (runF V irs s t (code.take j)) x] := by
  unfold runF
  rw [take_snoc h, List.foldl_append]; rfl
theorem runF_len (V : VecD) (irs : List (List Int)) (s t : Nat) (code : List Ins) : ∀ j, j ≤ code.length → (runF V irs s t (code.take j)).length = j
  | 0, _ => by simp [runF]
  | j + 1, h => by
    obtain ⟨x, hx⟩ := get_lt (l := code) (j := j) (by omega)
    rw [runF_snoc _ _ _ _ _ hx, List.length_append, runF_len V irs s t code j (by omega)]; rfl
end Go.Proofs.Ythgpgccmhohfbaa
