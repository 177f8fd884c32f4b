/- Vector programs: what stands in one slot behind a step, in plain words. No condition. -/
import Derived.Test.YthgpgccmhohfbaaVecL
namespace Go.Proofs.Ythgpgccmhohfbaa
set_option linter.unusedVariables false
open Go Go.Den Go.RowKit

theorem foldl_put_miss {t : Nat} {i : Nat} : ∀ (ps : List (Int × Int)) (o : List Nat), (∀ p ∈ ps, p.1 ≠ (i : Int) ∧ 0 ≤ p.1) → (ps.foldl (putN t) o)[i]? = o[i]?
  | [], o, _ => rfl
  | p :: ps, o, h => by
    rw [List.foldl_cons, foldl_put_miss ps _ (fun q hq => h q (by simp [hq]))]
    obtain ⟨h1, h2⟩ := h p (by simp)
    unfold putN
    rw [List.getElem?_set_ne (by omega)]
theorem foldl_put_hit {t : Nat} {i : Nat} {y : Int} : ∀ (ps : List (Int × Int)) (o : List Nat), i < o.length → (ps.map (·.1)).Nodup → (∀ p ∈ ps, 0 ≤ p.1) → ((i : Int), y) ∈ ps → (ps.foldl (putN t) o)[i]? = some (liftm y t)
  | [], o, _, _, _, h => by cases h
  | p :: ps, o, hl, hn, h0, h => by
    rw [List.foldl_cons]
    simp only [List.map_cons, List.nodup_cons] at hn
    rcases List.mem_cons.1 h with rfl | h
    · rw [foldl_put_miss ps _ (fun q hq => ⟨fun e => hn.1 (List.mem_map.2 ⟨q, hq, e⟩), h0 q (by simp [hq])⟩)]
      unfold putN
      simp [hl]
    · exact foldl_put_hit ps _ (by unfold putN; simpa using hl) hn.2 (fun q hq => h0 q (by simp [hq])) h

theorem inputN_hit {sl l : List Int} {s t e : Nat} {i : Nat} {y : Int} (hp : placesP sl s) (hlen : l.length = sl.length) (he : sl[e]? = some (i : Int)) (hy : l[e]? = some y) : (inputN sl l s t)[i]? = some (liftm y t) := by
  have hi := (hp.1 _ (List.mem_of_getElem? he)).2
  refine foldl_put_hit _ _ (by simp; omega) ?_ ?_ ?_
  · rw [List.map_fst_zip (by omega)]; exact hp.2
  · intro p hq
    have := List.of_mem_zip (a := p.1) (b := p.2) hq
    exact (hp.1 _ this.1).1
  · exact List.mem_of_getElem? (i := e) (by simp [List.getElem?_zip_eq_some, he, hy])
theorem inputN_miss {sl l : List Int} {s t : Nat} {i : Nat} (hp : placesP sl s) (hi : i < s) (hn : (i : Int) ∉ sl) : (inputN sl l s t)[i]? = some 0 := by
  unfold inputN
  rw [foldl_put_miss _ _ (fun p hq => ?_)]
  · simp [hi]
  · have := List.of_mem_zip (a := p.1) (b := p.2) hq
    exact ⟨fun e => hn (e ▸ this.1), (hp.1 _ this.1).1⟩
theorem rowN_at {l : List Int} {s t i : Nat} {y : Int} (h : l[i]? = some y) : (rowN l s t)[i]? = some (liftm y t) := by
  have := (List.getElem?_eq_some_iff.1 h).1
  unfold rowN
  rw [List.getElem?_append_left (by simpa using this), List.getElem?_map, h]; rfl
theorem rowN_out {l : List Int} {s t i : Nat} (hi : i < s) (h : ¬ i < l.length) : (rowN l s t)[i]? = some 0 := by
  unfold rowN
  rw [List.getElem?_append_right (by simp; omega), List.getElem?_replicate, if_pos (by simp; omega)]
theorem turn_at {r : List Nat} {s k i : Nat} (hl : r.length = s) (hk : k < s) (hi : i < s) : (r.drop k ++ r.take k)[i]? = r[(i + k) % s]? := by
  by_cases h : i < s - k
  · rw [List.getElem?_append_left (by simp; omega), List.getElem?_drop, Nat.mod_eq_of_lt (by omega), Nat.add_comm]
  · rw [List.getElem?_append_right (by simp; omega), List.getElem?_take, if_pos (by simp; omega), List.length_drop, hl]
    congr 1
    have : i + k = (i + k - s) + s := by omega
    rw [this, Nat.add_mod_right, Nat.mod_eq_of_lt (by omega)]
    omega
theorem zip_at {g : Nat → Nat → Nat} {xs ys : List Nat} {i a b : Nat} (ha : xs[i]? = some a) (hb : ys[i]? = some b) : (List.zipWith g xs ys)[i]? = some (g a b) := by
  simp [List.getElem?_zipWith, ha, hb]

/-- What is known of rows, and of what they tell. -/
structure KnT (s t : Nat) (kn : List (List Nat)) (out : List (Value × List Int)) : Prop where mk ::
  len : ∀ r ∈ kn, r.length = s ∧ ∀ y ∈ r, y < t
  tl : out.map (·.2) = told t kn
theorem KnT.at {s t : Nat} {kn : List (List Nat)} {out : List (Value × List Int)} (K : KnT s t kn out) (ht : 2 ≤ t) (ht2 : t ≤ 1073741824) {a i : Nat} (ha : a < kn.length) (hi : i < s) :
    ∃ (x : Value × List Int) (r : List Nat) (y : Nat), out[a]? = some x ∧ kn[a]? = some r ∧ r[i]? = some y ∧ x.2[i]? = some (centerm y t) ∧ y < t ∧ liftm (centerm y t) t = y ∧ x.2.length = s ∧ r.length = s := by
  have hl : out.length = kn.length := by have := congrArg List.length K.tl; simpa [told] using this
  obtain ⟨x, hx⟩ := get_lt (l := out) (j := a) (by omega)
  obtain ⟨r, hr⟩ := get_lt (l := kn) (j := a) ha
  obtain ⟨h1, h2⟩ := K.len r (List.mem_of_getElem? hr)
  obtain ⟨y, hy⟩ := get_lt (l := r) (j := i) (by omega)
  have hx2 : x.2 = r.map fun y => centerm y t := by have := congrArg (fun l => l[a]?) K.tl; simpa [hx, told, hr] using this
  have hyt := h2 y (List.mem_of_getElem? hy)
  exact ⟨x, r, y, hx, hr, hy, by rw [hx2, List.getElem?_map, hy]; rfl, hyt, lift_center (by omega) (by omega) hyt, by rw [hx2, List.length_map, h1], h1⟩
end Go.Proofs.Ythgpgccmhohfbaa
