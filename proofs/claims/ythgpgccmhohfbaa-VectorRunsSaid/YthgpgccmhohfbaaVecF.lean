/- Vector programs: what a run makes, in plain words. No condition. -/
import Derived.Test.YthgpgccmhohfbaaVecE
import Derived.Test.YthgpgccmhohfbaaDenJ
namespace Go.Proofs.Ythgpgccmhohfbaa
set_option linter.unusedVariables false
open Go Go.Den Go.RowKit

def stepF (V : VecD) (irs : List (List Int)) (s t : Nat) (known : List (List Nat)) (x : Ins) : List Nat :=
  if x.op = 1 then inputN ((V.ins.map (·.sl)).getD x.k.toNat []) (irs.getD x.k.toNat []) s t
  else if x.op = 2 then rowN ((V.pls.map (·.2)).getD x.k.toNat []) s t
  else if x.op = 8 then (known.getD x.a.toNat []).drop x.k.toNat ++ (known.getD x.a.toNat []).take x.k.toNat
  else if x.op = 3 then List.zipWith (addm · · t) (known.getD x.a.toNat []) (known.getD x.b.toNat [])
  else if x.op = 6 then List.zipWith (mulm · · t) (known.getD x.a.toNat []) (known.getD x.b.toNat [])
  else if x.op = 4 then List.zipWith (addm · · t) (known.getD x.a.toNat []) (rowN ((V.pls.map (·.2)).getD x.k.toNat []) s t)
  else List.zipWith (mulm · · t) (known.getD x.a.toNat []) (rowN ((V.pls.map (·.2)).getD x.k.toNat []) s t)
def runF (V : VecD) (irs : List (List Int)) (s t : Nat) (code : List Ins) : List (List Nat) := code.foldl (fun kn x => kn ++ [stepF V irs s t kn x]) []

theorem form_nats {x : Ins} {i : Nat} {V : VecD} (h : formP x i V) : ∃ op to a b k : Nat, x = ⟨op, to, a, b, k⟩ := by
  obtain ⟨op, to, a, b, k⟩ := x
  unfold formP at h
  simp only at h
  refine ⟨op.toNat, to.toNat, a.toNat, b.toNat, k.toNat, ?_⟩
  simp only [Ins.mk.injEq]
  omega

theorem getD_map {α β : Type} (f : α → β) (l : List α) (k : Nat) (x : α) (d : β) (h : l[k]? = some x) : (l.map f).getD k d = f x := by
  simp [List.getD_eq_getElem?_getD, h]

theorem step_ok {D : MachD} {op to a b k i : Nat} {irs : List (List Int)} {known : List (List Nat)} (h : formP ⟨op, to, a, b, k⟩ i D.V) (hs : D.V.slots = D.s) (hp : ∀ x ∈ D.V.pls, (x.2.length : Int) ≤ D.V.slots) (hq : ∀ x ∈ D.V.ins, placesP x.sl D.V.slots)
    (hir : D.ir.map (·.2) = irs) (hfit : irs.map (·.length) = D.V.ins.map (·.sl.length)) (hkn : D.kn.map (·.2) = known) (hi : known.length = i) : StepR D op a b k (stepF D.V irs D.s D.t known ⟨op, to, a, b, k⟩) := by
  subst hir hkn
  have hl : D.kn.length = i := by simpa using hi
  unfold formP at h
  simp only at h
  unfold stepF
  simp only [Int.toNat_natCast]
  obtain ⟨-, h⟩ := h
  have gk : ∀ j : Nat, (j : Int) < i → ∃ r, D.kn[j]? = some r := fun j hj => get_lt (by omega)
  have gp : (k : Int) < D.V.pls.length → ∃ r, D.V.pls[k]? = some r := fun hj => get_lt (by omega)
  rcases h with ⟨h1, h2, h3, h4, h5⟩ | ⟨h1, h2, h3, h4, h5⟩ | ⟨h1, h2, h3, h4⟩ | ⟨h1, h2, h3, h4, h5⟩ | ⟨h1, h2, h3, h4, h5⟩
  · have : op = 1 := by omega
    subst this
    obtain ⟨x0, hx0⟩ := get_lt (l := D.V.ins) (j := k) (by omega)
    have hlen : D.ir.length = D.V.ins.length := by have := congrArg List.length hfit; simpa using this
    obtain ⟨r, hr⟩ := get_lt (l := D.ir) (j := k) (by omega)
    have hf2 : r.2.length = x0.sl.length := by
      have := congrArg (fun l => l[k]?) hfit
      simpa [hx0, hr] using this
    rw [if_pos (by decide), getD_map _ _ _ _ _ hx0, getD_map _ _ _ _ _ hr]
    exact .input x0 r rfl hx0 hr hf2 (by rw [← hs]; exact (hq x0 (List.mem_of_getElem? hx0)).1)
  · have : op = 2 := by omega
    subst this
    obtain ⟨pl, hpl⟩ := gp h5
    rw [if_neg (by decide), if_pos (by decide), getD_map _ _ _ _ _ hpl]
    exact .const pl rfl hpl (by have := hp pl (List.mem_of_getElem? hpl); omega)
  · obtain ⟨ra, ha⟩ := gk a h2.2
    obtain ⟨rb, hb⟩ := gk b h3.2
    rcases h1 with h1 | h1
    · have : op = 3 := by omega
      subst this
      rw [if_neg (by decide), if_neg (by decide), if_neg (by decide), if_pos (by decide), getD_map _ _ _ _ _ ha, getD_map _ _ _ _ _ hb]
      exact .add ra rb rfl ha hb
    · have : op = 6 := by omega
      subst this
      rw [if_neg (by decide), if_neg (by decide), if_neg (by decide), if_neg (by decide), if_pos (by decide), getD_map _ _ _ _ _ ha, getD_map _ _ _ _ _ hb]
      exact .mul ra rb rfl ha hb
  · obtain ⟨ra, ha⟩ := gk a h2.2
    obtain ⟨pl, hpl⟩ := gp h5
    have hl := hp pl (List.mem_of_getElem? hpl)
    rcases h1 with h1 | h1
    · have : op = 4 := by omega
      subst this
      rw [if_neg (by decide), if_neg (by decide), if_neg (by decide), if_neg (by decide), if_neg (by decide), if_pos (by decide), getD_map _ _ _ _ _ ha, getD_map _ _ _ _ _ hpl]
      exact .addP ra pl rfl ha hpl (by omega)
    · have : op = 5 := by omega
      subst this
      rw [if_neg (by decide), if_neg (by decide), if_neg (by decide), if_neg (by decide), if_neg (by decide), if_neg (by decide), getD_map _ _ _ _ _ ha, getD_map _ _ _ _ _ hpl]
      exact .mulP ra pl rfl ha hpl (by omega)
  · have : op = 8 := by omega
    subst this
    obtain ⟨ra, ha⟩ := gk a h2.2
    rw [if_neg (by decide), if_neg (by decide), if_pos (by decide), getD_map _ _ _ _ _ ha]
    exact .turn ra rfl ha (by omega)

theorem liftm_lt {v : Int} {t : Nat} (ht : 0 < t) : liftm v t < t := by
  unfold liftm
  rw [if_neg (by omega)]
  have := Int.emod_lt_of_pos v (b := (t : Int)) (by omega)
  have := Int.emod_nonneg v (b := (t : Int)) (by omega)
  omega
theorem foldl_put_lt {t : Nat} (ht : 0 < t) : ∀ (ps : List (Int × Int)) (o : List Nat), (∀ y ∈ o, y < t) → ∀ y ∈ ps.foldl (putN t) o, y < t
  | [], o, h => h
  | p :: ps, o, h => by
    rw [List.foldl_cons]
    refine foldl_put_lt ht ps _ fun y hy => ?_
    unfold putN at hy
    rcases List.mem_or_eq_of_mem_set hy with hy | rfl
    · exact h y hy
    · exact liftm_lt ht
theorem zipWith_lt {g : Nat → Nat → Nat} {t : Nat} (hg : ∀ a b, g a b < t) (xs ys : List Nat) : ∀ y ∈ List.zipWith g xs ys, y < t := fun y hy => by
  obtain ⟨i, hi, rfl⟩ := List.getElem_of_mem hy
  simp only [List.getElem_zipWith]
  exact hg _ _
/-- What a step makes has as many numbers as there are slots, each below t. -/
theorem stepR_ok {D : MachD} {op a b k : Nat} {out : List Nat} (h : StepR D op a b k out) (ht : 0 < D.t) (hk : ∀ r ∈ D.kn, r.2.length = D.s ∧ ∀ y ∈ r.2, y < D.t) : out.length = D.s ∧ ∀ y ∈ out, y < D.t := by
  have hrow : ∀ l : List Int, ∀ y ∈ rowN l D.s D.t, y < D.t := fun l y hy => by
    rcases List.mem_append.1 hy with hy | hy
    · obtain ⟨z, -, rfl⟩ := List.mem_map.1 hy
      exact liftm_lt ht
    · rw [(List.mem_replicate.1 hy).2]; exact ht
  rcases h with ⟨x0, r, rfl, hi, hr, hl, hp⟩ | ⟨pl, rfl, hk', hl⟩ | ⟨r, rfl, hk', hkk⟩ | ⟨ra, rb, rfl, ha, hb⟩ | ⟨ra, rb, rfl, ha, hb⟩ | ⟨ra, pl, rfl, ha, hk', hl⟩ | ⟨ra, pl, rfl, ha, hk', hl⟩
  · exact ⟨by unfold inputN; rw [foldl_put_len]; simp, foldl_put_lt ht _ _ fun y hy => by rw [(List.mem_replicate.1 hy).2]; exact ht⟩
  · exact ⟨rowN_len hl, hrow _⟩
  · obtain ⟨h1, h2⟩ := hk r (List.mem_of_getElem? hk')
    refine ⟨by simp; omega, fun y hy => ?_⟩
    rcases List.mem_append.1 hy with hy | hy
    · exact h2 y (List.mem_of_mem_drop hy)
    · exact h2 y (List.mem_of_mem_take hy)
  · obtain ⟨h1, -⟩ := hk ra (List.mem_of_getElem? ha)
    obtain ⟨h2, -⟩ := hk rb (List.mem_of_getElem? hb)
    exact ⟨by simp [h1, h2], zipWith_lt (fun a b => addm_lt ht) _ _⟩
  · obtain ⟨h1, -⟩ := hk ra (List.mem_of_getElem? ha)
    obtain ⟨h2, -⟩ := hk rb (List.mem_of_getElem? hb)
    exact ⟨by simp [h1, h2], zipWith_lt (fun a b => mulm_lt ht) _ _⟩
  · obtain ⟨h1, -⟩ := hk ra (List.mem_of_getElem? ha)
    exact ⟨by simp [h1, rowN_len hl], zipWith_lt (fun a b => addm_lt ht) _ _⟩
  · obtain ⟨h1, -⟩ := hk ra (List.mem_of_getElem? ha)
    exact ⟨by simp [h1, rowN_len hl], zipWith_lt (fun a b => mulm_lt ht) _ _⟩

/-- Do the inputs fit? -/
def fitP (V : VecD) (irs : List (List Int)) : Prop := irs.map (·.length) = V.ins.map (·.sl.length)
/-- The error of a run. -/
def RunE (V : VecD) (irs : List (List Int)) (t e : Nat) : Prop :=
  (e = 3 ∧ ¬ checkP V) ∨ (e = 1 ∧ checkP V ∧ (t < 2 ∨ 1073741824 < t)) ∨ (e = 12 ∧ checkP V ∧ ¬ (t < 2 ∨ 1073741824 < t) ∧ ¬ fitP V irs) ∨ (e = 0 ∧ checkP V ∧ ¬ (t < 2 ∨ 1073741824 < t) ∧ fitP V irs)
theorem RunE.same {V : VecD} {irs : List (List Int)} {t e e' : Nat} (h : RunE V irs t e) (h' : RunE V irs t e') : e = e' := by
  unfold RunE at h h'
  by_cases h1 : checkP V <;> by_cases h2 : (t < 2 ∨ 1073741824 < t) <;> by_cases h3 : fitP V irs <;> simp [h1, h2, h3] at h h' <;> omega
end Go.Proofs.Ythgpgccmhohfbaa
