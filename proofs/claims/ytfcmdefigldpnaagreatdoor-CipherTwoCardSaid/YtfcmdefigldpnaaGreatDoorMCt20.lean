/- Texts DenN to DenW of this work, joined, without what the law does not lean on. -/
import Derived.Test.YtfcmdefigldpnaaGreatDoorMCt19
namespace Go.Den
set_option linter.unusedVariables false
set_option maxRecDepth 8000
open Go Go.RowKit

section floats
variable {P : Program} {ops : Array Oper} {C : World → Prop} {E F : Nat → Bool} {K X : World → World → Prop} {Φ : Nat → Value → World → Prop} {an : Nat → Nat → Bool}

/-- What is told of the floats that have come up. -/
def Told (Φ : Nat → Value → World → Prop) (fl : List (Nat × Value)) (w : World) : Prop := ∀ p ∈ fl, Φ p.1 p.2 w
/-- .. of those among them that j waits for. -/
def ToldTo (Φ : Nat → Value → World → Prop) (an : Nat → Nat → Bool) (j : Nat) (fl : List (Nat × Value)) (w : World) : Prop := ∀ p ∈ fl, an j p.1 = true → Φ p.1 p.2 w

/-- The operations in the order of the list, from any world of the class, of D, and of what is told of the floats. -/
def MixK (P : Program) (ops : Array Oper) (C : World → Prop) (E F : Nat → Bool) (K X : World → World → Prop) (Φ : Nat → Value → World → Prop) (an : Nat → Nat → Bool) (Q : Act → World → Prop) : List Nat → (World → Prop) → List (Nat × Value) → Act → Prop
  | [], D, fl, a => ∀ w, C w → D w → Told Φ fl w → Q a w
  | i :: L, D, fl, a => ∃ o, ops[i]? = some o ∧
      ((∃ v, (F i = true → Wanted ops o a = false) ∧ Stab P ops C o v a ∧ MixK P ops C E F K X Φ an Q L D fl (a.put o.dst v)) ∨
       (F i = true ∧ Wanted ops o a = true ∧ (∀ w, C w → ToldTo Φ an i fl w → Eff P o a w fun v w' => X w w' ∧ C w' ∧ Φ i v w') ∧
          ∀ v, (∃ w, C w ∧ D w ∧ Told Φ fl w ∧ Φ i v w) → MixK P ops C E F K X Φ an Q L D ((i, v) :: fl) (a.put o.dst v)) ∨
       (E i = true ∧ Wanted ops o a = true ∧ ∀ w, C w → D w → Told Φ fl w → Eff P o a w fun v w' => C w' ∧ ∃ D' : World → Prop, (∀ w1 w2, D' w1 → X w1 w2 → D' w2) ∧ D' w' ∧
          ((K w w' ∧ MixK P ops C E F K X Φ an Q L D' fl (a.put o.dst v)) ∨ ((L.all fun i => !F i) = true ∧ MixK P ops C E F K X Φ an Q L D' [] (a.put o.dst v)))))

theorem Told.of {fl fl' : List (Nat × Value)} {w : World} (h : ∀ p, p ∈ fl → p ∈ fl') (k : Told Φ fl' w) : Told Φ fl w := fun p hp => k p (h p hp)
theorem ToldTo.of {fl fl' : List (Nat × Value)} {w : World} {j : Nat} (h : ∀ p, p ∈ fl → p ∈ fl') (k : ToldTo Φ an j fl' w) : ToldTo Φ an j fl w := fun p hp => k p (h p hp)

/-- The list of the floats may be told in another order. -/
theorem MixK.perm {Q : Act → World → Prop} : ∀ (L : List Nat) (D : World → Prop) (fl fl' : List (Nat × Value)) (a : Act), (∀ p, p ∈ fl ↔ p ∈ fl') →
    MixK P ops C E F K X Φ an Q L D fl a → MixK P ops C E F K X Φ an Q L D fl' a
  | [], D, fl, fl', a, hp, h => fun w hC hD hT => h w hC hD (hT.of fun p hq => (hp p).1 hq)
  | i :: L, D, fl, fl', a, hp, h => by
    obtain ⟨o, ho, h⟩ := h
    refine ⟨o, ho, ?_⟩
    rcases h with ⟨v, hn, hv, k⟩ | ⟨hF, hW, hx, k⟩ | ⟨hE, hW, k⟩
    · exact .inl ⟨v, hn, hv, MixK.perm L D fl fl' _ hp k⟩
    · refine .inr (.inl ⟨hF, hW, fun w hC hT => hx w hC (hT.of fun p hq => (hp p).1 hq), fun v ⟨w, hC, hD, hT, hv⟩ => ?_⟩)
      exact MixK.perm L D ((i, v) :: fl) ((i, v) :: fl') _ (fun p => by simp only [List.mem_cons, hp p]) (k v ⟨w, hC, hD, hT.of fun p hq => (hp p).1 hq, hv⟩)
    · refine .inr (.inr ⟨hE, hW, fun w hC hD hT => Eff_mono (fun v w' hk => ?_) (k w hC hD (hT.of fun p hq => (hp p).1 hq))⟩)
      obtain ⟨hC', D', hX, hD', hk⟩ := hk
      refine ⟨hC', D', hX, hD', ?_⟩
      rcases hk with ⟨h1, h2⟩ | h1
      · exact .inl ⟨h1, MixK.perm L D' fl fl' _ hp h2⟩
      · exact .inr h1

/-- Taking one operation ahead of those before it: a stable one. -/
structure Opn2 (ops : Array Oper) (oi oj : Oper) : Prop where mk ::
  ej : ∀ (a : Act) (u : Value), execOp (a.put oi.dst u).eval oj = execOp a.eval oj
  wj : ∀ (a : Act) (u : Value), Wanted ops oj (a.put oi.dst u) = Wanted ops oj a
  ei : ∀ (a : Act) (u : Value), execOp (a.put oj.dst u).eval oi = execOp a.eval oi
  wi : ∀ (a : Act) (u : Value), Wanted ops oi (a.put oj.dst u) = Wanted ops oi a
  pc : ∀ (a : Act) (u v : Value), (a.put oi.dst u).put oj.dst v = (a.put oj.dst v).put oi.dst u
theorem Opn2.of {i j : Nat} {oi oj : Oper} (hs : NoSel ops) (hi : ops[i]? = some oi) (hj : ops[j]? = some oj) (h : oi.apart ops oj = true) : Opn2 ops oi oj := by
  obtain ⟨h1, h2, h3⟩ := Oper.apart_spec h
  have hsi : ∀ cs b, oi.op ≠ .select cs b := fun cs b => hs i oi cs b hi
  have hsj : ∀ cs b, oj.op ≠ .select cs b := fun cs b => hs j oj cs b hj
  exact ⟨fun a u => execOp_put oj hsj a oi.dst u h1, fun a u => wanted_put oj a oi.dst u h1, fun a u => execOp_put oi hsi a oj.dst u h3, fun a u => wanted_put oi a oj.dst u h3, fun a u v => Act.put_comm a u v h2⟩

/-- What one operation, taken ahead, does. -/
def Ahead (P : Program) (ops : Array Oper) (C : World → Prop) (E F : Nat → Bool) (K X : World → World → Prop) (Φ : Nat → Value → World → Prop) (an : Nat → Nat → Bool) (Q : Act → World → Prop) (j : Nat) (oj : Oper) (L : List Nat) (D : World → Prop) (fl : List (Nat × Value)) (a : Act) : Prop :=
  (∃ v, (F j = true → Wanted ops oj a = false) ∧ Stab P ops C oj v a ∧ MixK P ops C E F K X Φ an Q L D fl (a.put oj.dst v)) ∨
  (F j = true ∧ Wanted ops oj a = true ∧ (∀ w, C w → ToldTo Φ an j fl w → Eff P oj a w fun v w' => X w w' ∧ C w' ∧ Φ j v w') ∧
    ∀ v, (∃ w, C w ∧ D w ∧ Told Φ fl w ∧ Φ j v w) → MixK P ops C E F K X Φ an Q L D ((j, v) :: fl) (a.put oj.dst v)) ∨
  (E j = true ∧ Wanted ops oj a = true ∧ ∀ w, C w → D w → Told Φ fl w → Eff P oj a w fun v w' => C w' ∧ ∃ D' : World → Prop, (∀ w1 w2, D' w1 → X w1 w2 → D' w2) ∧ D' w' ∧
    ((K w w' ∧ MixK P ops C E F K X Φ an Q L D' fl (a.put oj.dst v)) ∨ ((L.all fun i => !F i) = true ∧ MixK P ops C E F K X Φ an Q L D' [] (a.put oj.dst v))))

theorem all_mid {p : Nat → Bool} {pre post : List Nat} {j : Nat} (h : ((pre ++ j :: post).all p) = true) : p j = true ∧ ((pre ++ post).all p) = true := by
  simp only [List.all_append, List.all_cons, Bool.and_eq_true] at h ⊢
  exact ⟨h.2.1, h.1, h.2.2⟩

theorem pullK (hs : NoSel ops) (hKX : ∀ w w', X w w' → K w w') (hΦ : ∀ i v w w', Φ i v w → K w w' → Φ i v w') {Q : Act → World → Prop} {j : Nat} {oj : Oper} (hj : ops[j]? = some oj) (hEF : ¬ (E j = true ∧ F j = true)) (post : List Nat) :
    ∀ (pre : List Nat) (D : World → Prop) (fl : List (Nat × Value)) (a : Act) (w : World), (∀ w1 w2, D w1 → X w1 w2 → D w2) → C w → D w → Told Φ fl w →
    (∀ i ∈ pre, (∀ oi, ops[i]? = some oi → oi.apart ops oj = true) ∧ ¬ ((E i = true ∨ F i = true) ∧ E j = true) ∧ an j i = false ∧ an i j = false) →
    MixK P ops C E F K X Φ an Q (pre ++ j :: post) D fl a → Ahead P ops C E F K X Φ an Q j oj (pre ++ post) D fl a
  | [], D, fl, a, w, _, _, _, _, _, h => by
    obtain ⟨o, ho, h⟩ := h
    rw [hj] at ho; cases ho
    exact h
  | i :: pre, D, fl, a, w, hD, hC, hDw, hT, hp, h => by
    obtain ⟨oi, hi, h⟩ := h
    obtain ⟨hap, hch, ha1, ha2⟩ := hp i (by simp)
    have hp' : ∀ i ∈ pre, (∀ oi, ops[i]? = some oi → oi.apart ops oj = true) ∧ ¬ ((E i = true ∨ F i = true) ∧ E j = true) ∧ an j i = false ∧ an i j = false := fun k hk => hp k (by simp [hk])
    have A := Opn2.of hs hi hj (hap oi hi)
    rcases h with ⟨u, hnu, hu, h⟩ | ⟨hF, hW, hx, h⟩ | ⟨hE, hW, h⟩
    · -- past a stable one
      have mk : ∀ v, (F i = true → Wanted ops oi (a.put oj.dst v) = false) ∧ Stab P ops C oi u (a.put oj.dst v) := fun v => ⟨fun hf => by rw [A.wi a v]; exact hnu hf, hu.of_same (A.ei a v) (A.wi a v)⟩
      rcases pullK hs hKX hΦ hj hEF post pre D fl (a.put oi.dst u) w hD hC hDw hT hp' h with ⟨v, hn, hv, k⟩ | ⟨hFj, hWj, hxj, k⟩ | ⟨hEj, hWj, k⟩
      · refine .inl ⟨v, fun hf => by rw [← A.wj a u]; exact hn hf, hv.of_same (A.ej a u).symm (A.wj a u).symm, oi, hi, .inl ⟨u, (mk v).1, (mk v).2, ?_⟩⟩
        rw [← A.pc a u v]; exact k
      · refine .inr (.inl ⟨hFj, by rw [← A.wj a u]; exact hWj, fun w1 c1 t1 => ?_, fun v hv => ⟨oi, hi, .inl ⟨u, (mk v).1, (mk v).2, ?_⟩⟩⟩)
        · have := hxj w1 c1 t1
          unfold Eff at this ⊢
          rwa [A.ej a u] at this
        · rw [← A.pc a u v]; exact k v hv
      · refine .inr (.inr ⟨hEj, by rw [← A.wj a u]; exact hWj, fun w1 c1 d1 t1 => ?_⟩)
        have := k w1 c1 d1 t1
        unfold Eff at this ⊢
        rw [A.ej a u] at this
        refine EffUpon_mono (fun v w' hk => ?_) this
        obtain ⟨hC', D', hX, hD', hk⟩ := hk
        refine ⟨hC', D', hX, hD', ?_⟩
        rcases hk with ⟨h1, h2⟩ | ⟨h1, h2⟩
        · exact .inl ⟨h1, oi, hi, .inl ⟨u, (mk v).1, (mk v).2, by rw [← A.pc a u v]; exact h2⟩⟩
        · by_cases hFi : F i = true
          · exact absurd ⟨.inr hFi, hEj⟩ hch
          · exact .inr ⟨by simp only [List.cons_append, List.all_cons, Bool.and_eq_true]; exact ⟨by simp [hFi], h1⟩, oi, hi, .inl ⟨u, (mk v).1, (mk v).2, by rw [← A.pc a u v]; exact h2⟩⟩
    · -- past a float
      have hEj : ¬ E j = true := fun e => hch ⟨.inr hF, e⟩
      have step : ∀ u, (∃ w, C w ∧ D w ∧ Told Φ fl w ∧ Φ i u w) → Ahead P ops C E F K X Φ an Q j oj (pre ++ post) D ((i, u) :: fl) (a.put oi.dst u) := fun u hu => by
        have k := h u hu
        obtain ⟨w1, c1, d1, t1, f1⟩ := hu
        exact pullK hs hKX hΦ hj hEF post pre D ((i, u) :: fl) (a.put oi.dst u) w1 hD c1 d1 (fun p hq => by
          rcases List.mem_cons.1 hq with rfl | hq
          · exact f1
          · exact t1 p hq) hp' k
      obtain ⟨u0, w0, hx0, hc0, hf0⟩ := EffUpon_some (hx w hC fun p hq _ => hT p hq)
      have hw0 : ∃ w, C w ∧ D w ∧ Told Φ fl w ∧ Φ i u0 w := ⟨w0, hc0, hD _ _ hDw hx0, fun p hq => hΦ _ _ _ _ (hT p hq) (hKX _ _ hx0), hf0⟩
      rcases step u0 hw0 with ⟨v0, hn0, hv0, -⟩ | ⟨hFj, hWj, hxj, -⟩ | ⟨hEj', -, -⟩
      · have hv0' : Stab P ops C oj v0 a := hv0.of_same (A.ej a u0).symm (A.wj a u0).symm
        have hn0' : F j = true → Wanted ops oj a = false := fun hf => by rw [← A.wj a u0]; exact hn0 hf
        refine .inl ⟨v0, hn0', hv0', oi, hi, .inr (.inl ⟨hF, by rw [A.wi a v0]; exact hW, fun w1 c1 t1 => ?_, fun u hu => ?_⟩)⟩
        · have := hx w1 c1 t1
          unfold Eff at this ⊢
          rwa [A.ei a v0]
        · rcases step u hu with ⟨v, hn, hv, k⟩ | ⟨hFj, hWj, -, -⟩ | ⟨hEj', -, -⟩
          · have hv' : Stab P ops C oj v a := hv.of_same (A.ej a u).symm (A.wj a u).symm
            rw [Stab.unique hC hv' hv0'] at k
            rw [← A.pc a u v0]; exact k
          · rw [A.wj a u, hn0' hFj] at hWj; cases hWj
          · exact absurd hEj' hEj
      · have hWj' : Wanted ops oj a = true := by rw [← A.wj a u0]; exact hWj
        refine .inr (.inl ⟨hFj, hWj', fun w1 c1 t1 => ?_, fun v hv => ⟨oi, hi, .inr (.inl ⟨hF, by rw [A.wi a v]; exact hW, fun w1 c1 t1 => ?_, fun u hu => ?_⟩)⟩⟩)
        · have := hxj w1 c1 (fun p hq hap => by
            rcases List.mem_cons.1 hq with rfl | hq
            · rw [ha1] at hap; cases hap
            · exact t1 p hq hap)
          unfold Eff at this ⊢
          rwa [A.ej a u0] at this
        · have := hx w1 c1 (fun p hq hap => t1 p (List.mem_cons_of_mem _ hq) hap)
          unfold Eff at this ⊢
          rwa [A.ei a v]
        · obtain ⟨w1, c1, d1, t1, f1⟩ := hu
          have hu' : ∃ w, C w ∧ D w ∧ Told Φ fl w ∧ Φ i u w := ⟨w1, c1, d1, fun p hq => t1 p (List.mem_cons_of_mem _ hq), f1⟩
          rcases step u hu' with ⟨v1, hn, hv1, k⟩ | ⟨-, -, -, k⟩ | ⟨hEj', -, -⟩
          · have := hn hFj
            rw [A.wj a u, hWj'] at this; cases this
          · rw [← A.pc a u v]
            refine MixK.perm (pre ++ post) D _ _ _ (fun p => ?_) (k v ⟨w1, c1, d1, fun p hq => ?_, t1 (j, v) (by simp)⟩)
            · simp only [List.mem_cons]; constructor
              · rintro (h | h | h) <;> simp [h]
              · rintro (h | h | h) <;> simp [h]
            · rcases List.mem_cons.1 hq with rfl | hq
              · exact f1
              · exact t1 p (List.mem_cons_of_mem _ hq)
          · exact absurd hEj' hEj
      · exact absurd hEj' hEj
    · -- past an acting one
      have hEj : ¬ E j = true := fun e => hch ⟨.inl hE, e⟩
      have go : ∀ (D' : World → Prop) (fl' : List (Nat × Value)) (u : Value) (w' : World), (∀ w1 w2, D' w1 → X w1 w2 → D' w2) → C w' → D' w' → Told Φ fl' w' → MixK P ops C E F K X Φ an Q (pre ++ j :: post) D' fl' (a.put oi.dst u) →
          Ahead P ops C E F K X Φ an Q j oj (pre ++ post) D' fl' (a.put oi.dst u) := fun D' fl' u w' x1 x2 x3 x4 k => pullK hs hKX hΦ hj hEF post pre D' fl' (a.put oi.dst u) w' x1 x2 x3 x4 hp' k
      by_cases hk : F j = true ∧ Wanted ops oj a = true
      · obtain ⟨hFj, hWj⟩ := hk
        have noF : ((pre ++ j :: post).all fun i => !F i) = true → False := fun hh => by
          have := (all_mid hh).1
          rw [hFj] at this; cases this
        have both : ∀ (D' : World → Prop) (u : Value) (w' : World), (∀ w1 w2, D' w1 → X w1 w2 → D' w2) → C w' → D' w' → Told Φ fl w' → MixK P ops C E F K X Φ an Q (pre ++ j :: post) D' fl (a.put oi.dst u) →
            (∀ w, C w → ToldTo Φ an j fl w → Eff P oj (a.put oi.dst u) w fun v w' => X w w' ∧ C w' ∧ Φ j v w') ∧
            ∀ v, (∃ w, C w ∧ D' w ∧ Told Φ fl w ∧ Φ j v w) → MixK P ops C E F K X Φ an Q (pre ++ post) D' ((j, v) :: fl) ((a.put oi.dst u).put oj.dst v) := fun D' u w' x1 x2 x3 x4 k => by
          rcases go D' fl u w' x1 x2 x3 x4 k with ⟨v1, hn, -, -⟩ | ⟨-, -, y1, y2⟩ | ⟨hEj', -, -⟩
          · have := hn hFj
            rw [A.wj a u, hWj] at this; cases this
          · exact ⟨y1, y2⟩
          · exact absurd hEj' hEj
        obtain ⟨u0, w0, hc0, D0, x0, d0, hk0⟩ := EffUpon_some (h w hC hDw hT)
        rcases hk0 with ⟨hK0, k0⟩ | ⟨hh, -⟩
        · obtain ⟨y1, -⟩ := both D0 u0 w0 x0 hc0 d0 (fun p hq => hΦ _ _ _ _ (hT p hq) hK0) k0
          refine .inr (.inl ⟨hFj, hWj, fun w1 c1 t1 => ?_, fun v hv => ⟨oi, hi, .inr (.inr ⟨hE, by rw [A.wi a v]; exact hW, fun w1 c1 d1 t1 => ?_⟩)⟩⟩)
          · have := y1 w1 c1 t1
            unfold Eff at this ⊢
            rwa [A.ej a u0] at this
          · have := h w1 c1 d1 (fun p hq => t1 p (List.mem_cons_of_mem _ hq))
            unfold Eff at this ⊢
            rw [A.ei a v]
            refine EffUpon_mono (fun u w' hk => ?_) this
            obtain ⟨hC', D', hX, hD', hk⟩ := hk
            refine ⟨hC', D', hX, hD', ?_⟩
            rcases hk with ⟨hK, k⟩ | ⟨hh, -⟩
            · have t' : Told Φ fl w' := fun p hq => hΦ _ _ _ _ (t1 p (List.mem_cons_of_mem _ hq)) hK
              refine .inl ⟨hK, ?_⟩
              rw [← A.pc a u v]
              exact (both D' u w' hX hC' hD' t' k).2 v ⟨w', hC', hD', t', hΦ _ _ _ _ (t1 (j, v) (by simp)) hK⟩
            · exact (noF hh).elim
        · exact (noF hh).elim
      · have hk' : F j = true → Wanted ops oj a = false := fun hf => by
          cases hb : Wanted ops oj a with
          | false => rfl
          | true => exact absurd ⟨hf, hb⟩ hk
        have one : ∀ (D' : World → Prop) (fl' : List (Nat × Value)) (u : Value) (w' : World), (∀ w1 w2, D' w1 → X w1 w2 → D' w2) → C w' → D' w' → Told Φ fl' w' → MixK P ops C E F K X Φ an Q (pre ++ j :: post) D' fl' (a.put oi.dst u) →
            ∃ v, Stab P ops C oj v a ∧ MixK P ops C E F K X Φ an Q (pre ++ post) D' fl' ((a.put oj.dst v).put oi.dst u) := fun D' fl' u w' x1 x2 x3 x4 k => by
          rcases go D' fl' u w' x1 x2 x3 x4 k with ⟨v1, -, y1, y2⟩ | ⟨hFj, hWj, -, -⟩ | ⟨hEj', -, -⟩
          · exact ⟨v1, y1.of_same (A.ej a u).symm (A.wj a u).symm, by rw [← A.pc a u v1]; exact y2⟩
          · rw [A.wj a u, hk' hFj] at hWj; cases hWj
          · exact absurd hEj' hEj
        have told : ∀ w1 w', Told Φ fl w1 → K w1 w' → Told Φ fl w' := fun w1 w' t1 hK p hq => hΦ _ _ _ _ (t1 p hq) hK
        have nil : ∀ w', Told Φ [] w' := fun w' p hq => by cases hq
        obtain ⟨u0, w0, hc0, D0, x0, d0, hk0⟩ := EffUpon_some (h w hC hDw hT)
        obtain ⟨v0, hv0⟩ : ∃ v, Stab P ops C oj v a := by
          rcases hk0 with ⟨hK0, k0⟩ | ⟨hh, k0⟩
          · obtain ⟨v, y, -⟩ := one D0 fl u0 w0 x0 hc0 d0 (told _ _ hT hK0) k0
            exact ⟨v, y⟩
          · obtain ⟨v, y, -⟩ := one D0 [] u0 w0 x0 hc0 d0 (nil _) k0
            exact ⟨v, y⟩
        refine .inl ⟨v0, hk', hv0, oi, hi, .inr (.inr ⟨hE, by rw [A.wi a v0]; exact hW, fun w1 c1 d1 t1 => ?_⟩)⟩
        have := h w1 c1 d1 t1
        unfold Eff at this ⊢
        rw [A.ei a v0]
        refine EffUpon_mono (fun u w' hk => ?_) this
        obtain ⟨hC', D', hX, hD', hk⟩ := hk
        refine ⟨hC', D', hX, hD', ?_⟩
        rcases hk with ⟨hK, k⟩ | ⟨hh, k⟩
        · obtain ⟨v, y1, y2⟩ := one D' fl u w' hX hC' hD' (told _ _ t1 hK) k
          rw [Stab.unique hC y1 hv0] at y2
          exact .inl ⟨hK, y2⟩
        · obtain ⟨v, y1, y2⟩ := one D' [] u w' hX hC' hD' (nil _) k
          rw [Stab.unique hC y1 hv0] at y2
          exact .inr ⟨(all_mid hh).2, y2⟩

/-- Is i an ancestor of j? -/
def ancB (ops : List Oper) (j i : Nat) : Bool := Nat.blt i j && ((ancGo ops #[]).getD j 0).testBit i

/-- What is asked of a region with floats: as regionOk, but of two that act the earlier one may float if the later one does. -/
def regionOkK (ops : List Oper) (E F : Nat → Bool) : Bool :=
  let A := ops.toArray
  let an := ancGo ops #[]
  Region.noSelect A &&
  ops.zipIdx.all fun (oj, j) =>
    !(E j && F j) &&
    oj.after.toList.all (fun e => !Region.binds .any e || Nat.blt e.on j) &&
    (ops.take j).zipIdx.all fun (oi, i) =>
      ((oj.after.toList.any fun e => Region.binds .any e && Nat.beq e.on i) || oi.apart A oj) &&
      (!((E i || F i) && E j) || (an.getD j 0).testBit i)

theorem regionOkK_spec {l : List Oper} (h : regionOkK l E F = true) : NoSel l.toArray ∧
    (∀ j oj, l[j]? = some oj → ∀ e ∈ oj.after.toList, Region.binds .any e = true → e.on < j) ∧
    (∀ j oj, l[j]? = some oj → ¬ (E j = true ∧ F j = true)) ∧
    (∀ i j oi oj, i < j → l[i]? = some oi → l[j]? = some oj → ((∃ e ∈ oj.after.toList, Region.binds .any e = true ∧ e.on = i) ∨ oi.apart l.toArray oj = true) ∧
      ((E i = true ∨ F i = true) → E j = true → ((ancGo l #[]).getD j 0).testBit i = true)) := by
  unfold regionOkK at h
  simp only [Bool.and_eq_true] at h
  obtain ⟨h0, h⟩ := h
  refine ⟨Region.noSelect_spec h0, fun j oj hj e he hb => ?_, fun j oj hj => ?_, fun i j oi oj hij hi hj => ?_⟩
  · have h1 := zipIdx_all h hj
    simp only [Bool.and_eq_true, List.all_eq_true] at h1
    have := h1.1.2 e he
    simp only [hb, Bool.not_true, Bool.false_or] at this
    exact Nat.le_of_ble_eq_true this
  · have h1 := zipIdx_all h hj
    simp only [Bool.and_eq_true] at h1
    rintro ⟨h2, h3⟩
    have := h1.1.1
    rw [h2, h3] at this; cases this
  · have h1 := zipIdx_all h hj
    simp only [Bool.and_eq_true] at h1
    have h2 := zipIdx_all h1.2 (show (l.take j)[i]? = some oi by rw [List.getElem?_take, if_pos hij]; exact hi)
    simp only [Bool.and_eq_true, Bool.or_eq_true] at h2
    obtain ⟨h3, h4⟩ := h2
    refine ⟨?_, fun ei ej => ?_⟩
    · rcases h3 with h3 | h3
      · rw [List.any_eq_true] at h3
        obtain ⟨e, he, hb⟩ := h3
        simp only [Bool.and_eq_true] at hb
        exact .inl ⟨e, he, hb.1, Nat.eq_of_beq_eq_true hb.2⟩
      · exact .inr h3
    · rcases ei with ei | ei <;> simpa [ei, ej] using h4

theorem any_of_mixK {l : List Oper} {Q : Exit → Act → World → Prop} (h : regionOkK l E F = true) (hKX : ∀ w w', X w w' → K w w') (hΦ : ∀ i v w w', Φ i v w → K w w' → Φ i v w') : ∀ (m : Nat) (L : List Nat) (listed : Array Bool) (D : World → Prop) (fl : List (Nat × Value)) (a : Act) (w : World),
    L.length = m → L.Pairwise (· < ·) → (∀ i, i ∈ L ↔ i < l.length ∧ listed.getD i true = false) → listed.size = l.length →
    Closed l.toArray (fun i => listed.getD i false) → (∀ w1 w2, D w1 → X w1 w2 → D w2) → C w → D w → Told Φ fl w → MixK P l.toArray C E F K X Φ (ancB l) (fun a w => Q .normal a w) L D fl a → wpAny P .any l.toArray Q m listed a w := by
  obtain ⟨hs, hback, hEF, hpair⟩ := regionOkK_spec h
  intro m
  induction m with
  | zero =>
    intro L listed D fl a w hlen hsort hmem hsz hcl hD hC hDw hT hm
    have hL : L = [] := List.length_eq_zero_iff.1 hlen
    subst hL
    refine ⟨?_, hm w hC hDw hT⟩
    rw [List.eq_nil_iff_forall_not_mem]
    intro j hj
    obtain ⟨h1, o, ho, -⟩ := mem_ready.1 hj
    have hjl : j < l.length := by simpa using (Array.getElem?_eq_some_iff.1 ho).1
    have := (hmem j).2 ⟨hjl, h1⟩
    simp at this
  | succ m ih =>
    intro L listed D fl a w hlen hsort hmem hsz hcl hD hC hDw hT hm
    refine ⟨fun hnil => ?_, fun j hj => ?_⟩
    · cases L with
      | nil => simp at hlen
      | cons k L' =>
        exfalso
        have hk := (hmem k).1 (by simp)
        have hkr : k ∈ Region.ready .any l.toArray listed := by
          refine mem_ready.2 ⟨hk.2, l[k]'hk.1, by simp [hk.1], fun e he hb => ?_⟩
          have hlt := hback k (l[k]'hk.1) (by simp [hk.1]) e (by simpa using he) hb
          have hlt' : e.on < l.length := Nat.lt_trans hlt hk.1
          cases hg : listed.getD e.on true with
          | true =>
            rw [Array.getD_eq_getD_getElem?] at hg ⊢
            rw [Array.getElem?_eq_getElem (by omega)] at hg ⊢
            simpa using hg
          | false =>
            have hin := (hmem e.on).2 ⟨hlt', hg⟩
            rcases List.mem_cons.1 hin with heq | hin'
            · omega
            · have := (List.pairwise_cons.1 hsort).1 _ hin'
              omega
        rw [hnil] at hkr
        cases hkr
    · obtain ⟨hj1, oj, hoj, hjall⟩ := mem_ready.1 hj
      have hjl : j < l.length := by simpa using (Array.getElem?_eq_some_iff.1 hoj).1
      have hoj' : l[j]? = some oj := by simpa using hoj
      have hjL : j ∈ L := (hmem j).2 ⟨hjl, hj1⟩
      obtain ⟨pre, post, rfl⟩ := List.append_of_mem hjL
      have hpre : ∀ i ∈ pre, i < j := fun i hi => by
        have := List.pairwise_append.1 hsort
        exact this.2.2 i hi j (by simp)
      have hdep : ∀ e ∈ oj.after.toList, Region.binds .any e = true → listed.getD e.on false = true := fun e he hb => hjall e (by simpa using he) hb
      have hap : ∀ i ∈ pre, (∀ oi, l.toArray[i]? = some oi → oi.apart l.toArray oj = true) ∧ ¬ ((E i = true ∨ F i = true) ∧ E j = true) ∧ ancB l j i = false ∧ ancB l i j = false := fun i hi => by
        have hi1 := (hmem i).1 (by simp [hi])
        have hif : listed.getD i false = false := by
          have h1 := hi1.2
          rw [Array.getD_eq_getD_getElem?] at h1 ⊢
          rw [Array.getElem?_eq_getElem (by omega)] at h1 ⊢
          simpa using h1
        have hnb : ¬ ((ancGo l #[]).getD j 0).testBit i = true := fun hb => by
          have := anc_sound (ops := l.toArray) hcl l #[] (by simp) (by simp) (fun k _ hk => ⟨l[k]'(by simpa using hk), by simp at hk; simp [hk]⟩) (by simp) j oj hoj (by simpa using hjl) hdep i hb
          rw [hif] at this
          cases this
        refine ⟨fun oi hoi => ?_, fun ⟨e1, e2⟩ => ?_, ?_, ?_⟩
        · obtain ⟨hor, -⟩ := hpair i j oi oj (hpre i hi) (by simpa using hoi) hoj'
          rcases hor with ⟨e, he, hb, heq⟩ | hap
          · have := hdep e he hb
            rw [heq, hif] at this
            cases this
          · exact hap
        · obtain ⟨-, hch⟩ := hpair i j (l[i]'hi1.1) oj (hpre i hi) (by simp [hi1.1]) hoj'
          exact hnb (hch e1 e2)
        · unfold ancB
          rw [Bool.and_eq_false_iff]
          exact .inr (by simpa using hnb)
        · unfold ancB
          rw [Bool.and_eq_false_iff]
          refine .inl ?_
          cases hb : Nat.blt j i with
          | false => rfl
          | true => have := Nat.le_of_ble_eq_true hb; have := hpre i hi; omega
      have hmem' : ∀ i, i ∈ pre ++ post ↔ i < l.length ∧ (listed.setIfInBounds j true).getD i true = false := fun i => by
        have hnd : i ∈ pre ++ post ↔ i ∈ pre ++ j :: post ∧ i ≠ j := by
          have hq := List.pairwise_append.1 hsort
          have hq2 := List.pairwise_cons.1 hq.2.1
          constructor
          · intro hi
            refine ⟨by rcases List.mem_append.1 hi with hi | hi <;> simp [hi], fun heq => ?_⟩
            subst heq
            rcases List.mem_append.1 hi with hi | hi
            · exact Nat.lt_irrefl _ (hpre _ hi)
            · exact Nat.lt_irrefl _ (hq2.1 _ hi)
          · rintro ⟨hi, hne⟩
            rcases List.mem_append.1 hi with hi | hi
            · simp [hi]
            · rcases List.mem_cons.1 hi with hi | hi
              · exact absurd hi hne
              · simp [hi]
        rw [hnd, hmem i]
        by_cases hij : j = i
        · subst hij
          have hset : (listed.setIfInBounds j true).getD j true = true := by
            rw [Array.getD_eq_getD_getElem?, Array.getElem?_setIfInBounds_self_of_lt (by omega)]; rfl
          rw [hset]
          simp
        · rw [getD_set_ne true hij]
          constructor
          · rintro ⟨⟨h1, h2⟩, -⟩; exact ⟨h1, h2⟩
          · rintro ⟨h1, h2⟩; exact ⟨⟨h1, h2⟩, fun e => hij e.symm⟩
      have hcl' : Closed l.toArray (fun i => (listed.setIfInBounds j true).getD i false) := fun k o hk hl e he hb => by
        by_cases hkj : j = k
        · subst hkj
          rw [hoj] at hk; cases hk
          exact getD_set_true (hdep e he hb)
        · have hl' : listed.getD k false = true := by
            have := getD_set_ne (listed := listed) false hkj
            simp only [this] at hl
            exact hl
          exact getD_set_true (hcl k o hk hl' e he hb)
      have hlen' : (pre ++ post).length = m := by simp at hlen ⊢; omega
      have hsort' : (pre ++ post).Pairwise (· < ·) := by
        refine hsort.sublist ?_
        exact List.Sublist.append_left (List.sublist_cons_self _ _) _
      have next : ∀ D' fl' a' w', (∀ w1 w2, D' w1 → X w1 w2 → D' w2) → C w' → D' w' → Told Φ fl' w' → MixK P l.toArray C E F K X Φ (ancB l) (fun a w => Q .normal a w) (pre ++ post) D' fl' a' → wpAny P .any l.toArray Q m (listed.setIfInBounds j true) a' w' := fun D' fl' a' w' x0 x1 x2 x3 hm' =>
        ih (pre ++ post) (listed.setIfInBounds j true) D' fl' a' w' hlen' hsort' hmem' (by simpa using hsz) hcl' x0 x1 x2 x3 hm'
      unfold wpOp
      simp only [hoj]
      rcases pullK hs hKX hΦ hoj (hEF j oj hoj') post pre D fl a w hD hC hDw hT hap hm with ⟨v, -, hv, k⟩ | ⟨-, hW, hx, k⟩ | ⟨-, hW, k⟩
      · rcases hv with ⟨hW, hr⟩ | ⟨hW, rfl⟩
        · rw [if_pos (show Region.wanted _ _ = true from hW)]
          refine .inl ?_
          unfold Oper.wp
          rw [hr w hC]
          exact next _ _ _ _ hD hC hDw hT k
        · rw [if_neg (by unfold Wanted at hW; rw [hW]; exact Bool.false_ne_true)]
          exact next _ _ _ _ hD hC hDw hT k
      · rw [if_pos (show Region.wanted _ _ = true from hW)]
        refine .inl (wp_of_Eff (fun v w' hk => ?_) (hx w hC fun p hq _ => hT p hq))
        obtain ⟨h1, h2, h3⟩ := hk
        have t' : Told Φ fl w' := fun p hq => hΦ _ _ _ _ (hT p hq) (hKX _ _ h1)
        exact next _ _ _ _ hD h2 (hD _ _ hDw h1) (fun p hq => by
          rcases List.mem_cons.1 hq with rfl | hq
          · exact h3
          · exact t' p hq) (k v ⟨w', h2, hD _ _ hDw h1, t', h3⟩)
      · rw [if_pos (show Region.wanted _ _ = true from hW)]
        refine .inl (wp_of_Eff (fun v w' hk => ?_) (k w hC hDw hT))
        obtain ⟨hC', D', hX, hD', hk⟩ := hk
        rcases hk with ⟨hK, k⟩ | ⟨-, k⟩
        · exact next _ _ _ _ hX hC' hD' (fun p hq => hΦ _ _ _ _ (hT p hq) hK) k
        · exact next _ _ _ _ hX hC' hD' (fun p hq => by cases hq) k

/-- A region with floats. -/
theorem region_drawnK {id : Nat} {l : List Oper} {Q : Exit → Act → World → Prop} {a : Act} {w : World} (hm : P.follows .mixedOrders = true) (hok : regionOkK l E F = true) (hKX : ∀ w w', X w w' → K w w') (hΦ : ∀ i v w w', Φ i v w → K w w' → Φ i v w')
    (D : World → Prop) (hD : ∀ w1 w2, D w1 → X w1 w2 → D w2) (hDw : D { w with drawn := w.drawn + 1 })
    (hC : C { w with drawn := w.drawn + 1 }) (h : MixK P l.toArray C E F K X Φ (ancB l) (fun a w => Q .normal a w) (List.range l.length) D [] a) :
    (Code.region id l.toArray true).wp P Q a w := by
  refine wp_region_any hm ?_
  have := any_of_mixK (P := P) (C := C) (Q := Q) hok hKX hΦ l.length (List.range l.length) (Array.replicate l.length false) D [] a { w with drawn := w.drawn + 1 } (by simp) List.pairwise_lt_range
    (fun i => by
      rw [List.mem_range]
      constructor
      · intro hi
        refine ⟨hi, ?_⟩
        rw [Array.getD_eq_getD_getElem?, Array.getElem?_eq_getElem (by simpa using hi)]
        simp
      · exact fun hi => hi.1)
    (by simp) (fun k o _ hk e _ _ => by
      exfalso
      by_cases hlt : k < l.length
      · simp [Array.getD_eq_getD_getElem?, hlt] at hk
      · simp [Array.getD_eq_getD_getElem?, hlt] at hk) hD hC hDw (fun p hq => by cases hq) h
  simpa using this
end floats
end Go.Den


namespace Go.Den
set_option linter.unusedVariables false
set_option maxRecDepth 8000
open Go Go.RowKit

/-- What is left of a region with floats, from number i on, wherever the heap stands in D. -/
structure SK (P : Program) (n : Nat) (ops : List Oper) (Ch : Hp → Prop) (E F : Nat → Bool) (K : Hp → Hp → Prop) (Φ : Nat → Value → Hp → Prop) (Q : Post) (i : Nat) (D : Hp → Prop) (fl : List (Nat × Value)) (l : Fr) : Prop where mk ::
  run : ∀ a w0, Fits l n a → MixK P ops.toArray (fun w' => Oth w0 w' ∧ Ch w'.heap) E F (fun w w' => Oth w w' ∧ K w.heap w'.heap) (fun w w' => Oth w w' ∧ Ext w.heap w'.heap) (fun i v w => Φ i v w.heap) (ancB ops)
    (fun a w' => lift n Q w0 .normal a w') (List.range' i (ops.length - i)) (fun w' => D w'.heap) fl a

section rules
variable {P : Program} {n : Nat} {Q : Post} {l : Fr} {ops : List Oper} {Ch : Hp → Prop} {E F : Nat → Bool} {K : Hp → Hp → Prop} {Φ : Nat → Value → Hp → Prop} {i : Nat} {D : Hp → Prop} {fl : List (Nat × Value)}

theorem k_done (hk : opAt ops i = none) (k : ∀ h, Ch h → D h → (∀ p ∈ fl, Φ p.1 p.2 h) → At Q .normal l h) : SK P n ops Ch E F K Φ Q i D fl l := SK.mk fun a w0 hf => by
  rw [opAt_eq, List.getElem?_eq_none_iff] at hk
  rw [Nat.sub_eq_zero_of_le hk]
  exact fun w hC hD hT => ⟨l, hf, (k w.heap hC.2 hD hT).get, hC.1⟩

/-- A float. -/
theorem k_float {o : Oper} (ho : opAt ops i = some o) (hF : F i = true) (hg : gd ops l o.guard = some true)
    (hx : ∀ a w h, Fits l n a → w.heap = h → Ch h → (∀ p ∈ fl, ancB ops i p.1 = true → Φ p.1 p.2 h) → Eff P o a w fun v w' => Oth w w' ∧ Ext h w'.heap ∧ Ch w'.heap ∧ Φ i v w'.heap)
    (hl : ∀ a v, Fits l n a → ∃ l', Fits l' n (a.put o.dst v) ∧ SK P n ops Ch E F K Φ Q (i + 1) D ((i, v) :: fl) l') : SK P n ops Ch E F K Φ Q i D fl l := SK.mk fun a w0 hf => by
  obtain ⟨h1, h2⟩ := s_step ho
  rw [h2]
  refine ⟨o, h1, .inr (.inl ⟨hF, gd_wanted hf hg, fun w hC hT => Eff_mono (fun v w' hk => ?_) (hx a w w.heap hf rfl hC.2 hT), fun v _ => ?_⟩)⟩
  · exact ⟨⟨hk.1, hk.2.1⟩, ⟨hC.1.trans hk.1, hk.2.2.1⟩, hk.2.2.2⟩
  · obtain ⟨l', g1, g2⟩ := hl a v hf
    exact g2.run _ w0 g1

/-- A chained operation. -/
theorem k_act {o : Oper} (ho : opAt ops i = some o) (hE : E i = true) (hg : gd ops l o.guard = some true)
    (k : ∀ h, Ch h → D h → (∀ p ∈ fl, Φ p.1 p.2 h) → ∀ a w, Fits l n a → w.heap = h → Eff P o a w fun v w' => Oth w w' ∧ Ch w'.heap ∧ ∃ D' l', (∀ h1 h2, D' h1 → Ext h1 h2 → D' h2) ∧ D' w'.heap ∧ Fits l' n (a.put o.dst v) ∧
      ((K h w'.heap ∧ SK P n ops Ch E F K Φ Q (i + 1) D' fl l') ∨ ((List.range' (i + 1) (ops.length - (i + 1))).all (fun i => !F i) = true ∧ SK P n ops Ch E F K Φ Q (i + 1) D' [] l'))) : SK P n ops Ch E F K Φ Q i D fl l := SK.mk fun a w0 hf => by
  obtain ⟨h1, h2⟩ := s_step ho
  rw [h2]
  refine ⟨o, h1, .inr (.inr ⟨hE, gd_wanted hf hg, fun w hC hD hT => Eff_mono (fun v w' hk => ?_) (k w.heap hC.2 hD hT a w hf rfl)⟩)⟩
  obtain ⟨g1, g2, D', l', g3, g4, g5, g6⟩ := hk
  refine ⟨⟨hC.1.trans g1, g2⟩, fun w' => D' w'.heap, fun w1 w2 x y => g3 _ _ x y.2, g4, ?_⟩
  rcases g6 with ⟨g6, g7⟩ | ⟨g6, g7⟩
  · exact .inl ⟨⟨g1, g6⟩, g7.run _ w0 g5⟩
  · exact .inr ⟨g6, g7.run _ w0 g5⟩

theorem wantedK_take {j : Nat} {o : Oper} (a : Act) (hg : (match o.guard with | none => true | some g => Nat.blt g.1 j) = true) : Wanted (ops.take j).toArray o a = Wanted ops.toArray o a := by
  unfold Wanted Region.wanted
  cases hq : o.guard with
  | none => rfl
  | some g =>
    obtain ⟨g, want⟩ := g
    rw [hq] at hg
    have hlt : g < j := Nat.le_of_ble_eq_true hg
    have e : (ops.take j)[g]? = ops[g]? := by rw [List.getElem?_take, if_pos hlt]
    simp only [yielded, List.getElem?_toArray, e]

theorem mixK_of_mix {C : World → Prop} {Ew Kw : World → World → Prop} {Φw : Nat → Value → World → Prop} {an : Nat → Nat → Bool} {Qm Qk : Act → World → Prop} {Dw : World → Prop} {j : Nat} (hg : (ops.take j).all (fun o => match o.guard with | none => true | some g => Nat.blt g.1 j) = true) {w : World} {rest : List Nat}
    (hrest : ∀ a', Qm a' w → MixK P ops.toArray C E F Kw Ew Φw an Qk rest Dw fl a') : ∀ (L : List Nat) (a : Act), (∀ k ∈ L, F k = false) →
    Mix P (ops.take j).toArray C (fun _ => false) Qm L a w → MixK P ops.toArray C E F Kw Ew Φw an Qk (L ++ rest) Dw fl a
  | [], a, _, h => hrest a h
  | i :: L, a, hF, h => by
    obtain ⟨o, ho, h⟩ := h
    have ho' : (ops.take j)[i]? = some o := by simpa using ho
    have hmem : o ∈ ops.take j := List.mem_of_getElem? ho'
    have hgo := List.all_eq_true.1 hg o hmem
    have hoo : ops.toArray[i]? = some o := by
      rw [List.getElem?_take] at ho'
      split at ho'
      · simpa using ho'
      · cases ho'
    rcases h with ⟨v, hv, k⟩ | ⟨hE, -, -⟩
    · refine ⟨o, hoo, .inl ⟨v, fun hf => (by rw [hF i (by simp)] at hf; cases hf), ?_, mixK_of_mix hg hrest L _ (fun k hk => hF k (by simp [hk])) k⟩⟩
      unfold Stab at hv ⊢
      rw [← wantedK_take a hgo]
      exact hv
    · cases hE

/-- A stretch of operations that do not act, up to number j: by the rules for a region without floats, over its first j operations. -/
theorem k_run {j : Nat} (h : Hp) (hj : Nat.ble j ops.length = true) (hij : Nat.ble i j = true) (hg : (ops.take j).all (fun o => match o.guard with | none => true | some g => Nat.blt g.1 j) = true) (hF : (List.range' i (j - i)).all (fun k => !F k) = true)
    (k : S P n (ops.take j) Ch (fun _ => false) (fun e l' _ => e = .normal ∧ SK P n ops Ch E F K Φ Q j D fl l') i l h) : SK P n ops Ch E F K Φ Q i D fl l := SK.mk fun a w0 hf => by
  have hj := Nat.le_of_ble_eq_true hj
  have hij := Nat.le_of_ble_eq_true hij
  have hlen : (ops.take j).length = j := by rw [List.length_take]; omega
  have hm := k.run a { w0 with heap := h } w0 hf rfl ⟨rfl, rfl, rfl⟩
  rw [hlen] at hm
  have hr : List.range' i (ops.length - i) = List.range' i (j - i) ++ List.range' j (ops.length - j) := by
    have := List.range'_append_1 (s := i) (m := j - i) (n := ops.length - j)
    rw [show i + (j - i) = j by omega, show (j - i) + (ops.length - j) = ops.length - i by omega] at this
    exact this.symm
  rw [hr]
  refine mixK_of_mix hg (fun a' hq => ?_) _ a (fun k hk => by simpa using List.all_eq_true.1 hF k hk) hm
  obtain ⟨l', g1, ⟨-, g2⟩, -⟩ := hq
  exact g2.run a' w0 g1

/-- A chained call of a Go function. -/
theorem k_call {d : Nat} {f : FuncId} {args : List Operand} {at_ : Array TypeId} {vs : List Value} {ty : TypeId} {ps : String} {af : Array Edge} {g : Option (Nat × Bool)} (ho : opAt ops i = some ⟨some d, .call ⟨.value (.func f), args.toArray, at_⟩, ty, ps, af, g⟩) (hg : gd ops l g = some true) (hE : E i = true) (hb : Nat.blt d n = true) (he : Ent P f) (ha : evs l args = some vs)
    (k : ∀ h, Ch h → D h → (∀ p ∈ fl, Φ p.1 p.2 h) → CallsH P f vs h fun v h' => Ch h' ∧
      ((K h h' ∧ SK P n ops Ch E F K Φ Q (i + 1) (Ext h') fl ((d, v) :: l)) ∨ ((List.range' (i + 1) (ops.length - (i + 1))).all (fun i => !F i) = true ∧ SK P n ops Ch E F K Φ Q (i + 1) (Ext h') [] ((d, v) :: l)))) : SK P n ops Ch E F K Φ Q i D fl l :=
  k_act ho hE hg fun h hC hD hT a w hf hw => by
    unfold Eff
    rw [run_static, he]
    have : args.toArray.map a.eval = vs.toArray := by simp [hf.evs ha]
    rw [this]
    refine (k h hC hD hT w hw).mono fun e w' hq => ?_
    obtain ⟨v, rfl, ⟨h1, h2⟩, h3⟩ := hq
    exact ⟨h3, h1, Ext w'.heap, _, fun _ _ x y => x.trans y, Ext.refl _, hf.put d v hb, h2⟩

end rules
end Go.Den


namespace Go.Den
set_option linter.unusedVariables false
set_option maxRecDepth 8000
open Go Go.RowKit

section rules
variable {P : Program} {n : Nat} {Q : Post} {l : Fr} {ops : List Oper} {Ch : Hp → Prop} {E F : Nat → Bool} {K : Hp → Hp → Prop} {Φ : Nat → Value → Hp → Prop} {i : Nat} {D : Hp → Prop} {fl : List (Nat × Value)}

/-- A drawn region with floats, where some operations that do not act (R) wait for all that do. -/
theorem r_drawnKR {c : Code} {h : Hp} (Ch : Hp → Prop) (F R : Nat → Bool) (K : Hp → Hp → Prop) (Φ : Nat → Value → Hp → Prop) (hc : tagOf c = .region true) (hm : P.follows .mixedOrders = true) (hok : regionOkK (opsOf c) (fun i => (effB (opsOf c) i || R i) && !F i) F = true)
    (hKX : ∀ h h', Ext h h' → K h h') (hΦ : ∀ i v h h', Φ i v h → K h h' → Φ i v h') (hC : Ch h)
    (k : SK P n (opsOf c) Ch (fun i => (effB (opsOf c) i || R i) && !F i) F K Φ Q 0 (Ext h) [] l) : W P n c Q l h := W.mk fun a w hf hw => by
  cases c <;> cases hc
  rename_i id ops
  have hrun := k.run a w hf
  rw [Nat.sub_zero, ← List.range_eq_range'] at hrun
  have := region_drawnK (P := P) (id := id) (l := ops.toList) (Q := lift n Q w) (a := a) (w := w) hm hok (C := fun w' => Oth w w' ∧ Ch w'.heap) (K := fun w w' => Oth w w' ∧ K w.heap w'.heap) (X := fun w w' => Oth w w' ∧ Ext w.heap w'.heap) (Φ := fun i v w => Φ i v w.heap)
    (fun w w' x => ⟨x.1, hKX _ _ x.2⟩) (fun i v w w' x y => hΦ i v _ _ x y.2) (fun w' => Ext h w'.heap) (fun w1 w2 x y => x.trans y.2) (by rw [← hw]; exact Ext.refl _) ⟨⟨rfl, rfl, rfl⟩, by rw [← hw] at hC; exact hC⟩ hrun
  simpa using this

/-- A float: what it hands back is known to be such a value. -/
theorem k_floatX {o : Oper} (ho : opAt ops i = some o) (hF : F i = true) (hg : gd ops l o.guard = some true)
    (hx : ∀ a w h, Fits l n a → w.heap = h → Ch h → (∀ p ∈ fl, ancB ops i p.1 = true → Φ p.1 p.2 h) → Eff P o a w fun v w' => Oth w w' ∧ Ext h w'.heap ∧ Ch w'.heap ∧ Φ i v w'.heap)
    (hl : ∀ a v, (∃ h, Ch h ∧ Φ i v h) → Fits l n a → ∃ l', Fits l' n (a.put o.dst v) ∧ SK P n ops Ch E F K Φ Q (i + 1) D ((i, v) :: fl) l') : SK P n ops Ch E F K Φ Q i D fl l := SK.mk fun a w0 hf => by
  obtain ⟨h1, h2⟩ := s_step ho
  rw [h2]
  refine ⟨o, h1, .inr (.inl ⟨hF, gd_wanted hf hg, fun w hC hT => Eff_mono (fun v w' hk => ?_) (hx a w w.heap hf rfl hC.2 hT), fun v hv => ?_⟩)⟩
  · exact ⟨⟨hk.1, hk.2.1⟩, ⟨hC.1.trans hk.1, hk.2.2.1⟩, hk.2.2.2⟩
  · obtain ⟨w, hC, -, -, hp⟩ := hv
    obtain ⟨l', g1, g2⟩ := hl a v ⟨w.heap, hC.2, hp⟩ hf
    exact g2.run _ w0 g1
theorem k_fcallX {d : Nat} {f : FuncId} {args : List Operand} {at_ : Array TypeId} {vs : List Value} {ty : TypeId} {ps : String} {af : Array Edge} {g : Option (Nat × Bool)} (ho : opAt ops i = some ⟨some d, .call ⟨.value (.func f), args.toArray, at_⟩, ty, ps, af, g⟩) (hg : gd ops l g = some true) (hF : F i = true) (hb : Nat.blt d n = true) (he : Ent P f) (ha : evs l args = some vs)
    (hx : ∀ h, Ch h → (∀ p ∈ fl, ancB ops i p.1 = true → Φ p.1 p.2 h) → CallsH P f vs h fun v h' => Ext h h' ∧ Ch h' ∧ Φ i v h')
    (k : ∀ v, (∃ h, Ch h ∧ Φ i v h) → SK P n ops Ch E F K Φ Q (i + 1) D ((i, v) :: fl) ((d, v) :: l)) : SK P n ops Ch E F K Φ Q i D fl l :=
  k_floatX ho hF hg (fun a w h hf hw hC hT => by
    unfold Eff
    rw [run_static, he]
    have : args.toArray.map a.eval = vs.toArray := by simp [hf.evs ha]
    rw [this]
    refine (hx h hC hT w hw).mono fun e w' hq => ?_
    obtain ⟨v, rfl, ⟨h1, h2, h3⟩, h4⟩ := hq
    exact ⟨h4, h1, h2, h3⟩) (fun a v hv hf => ⟨_, hf.put d v hb, k v hv⟩)

variable {h : Hp} {d : Nat} {t : TypeId} {x : Operand}
/-- A load of one cell that every heap of the class has alike. -/
theorem s_loadCell {p u : Value} {off : Nat} (hx : ev l x = some (ptrOff p off)) (ht : plainTy P t = true) (hs : Rd Ch E i h (fun h' => ∃ e cs, Var h' p e cs ∧ nth cs off = some u)) (hb : Nat.blt d n = true)
    (k : S P n ops Ch E Q (i + 1) ((d, u) :: l) h) : O P n ops Ch E Q i d (.load t x) l h :=
  s_read hb _ hs (fun a w' hf hs => by
    obtain ⟨e, cs, hs, hj⟩ := hs
    rw [nth_eq] at hj
    obtain ⟨g, rfl, hc⟩ := hs.cell hj
    have hl := run_load1 (P := P) (t := t) (a := (⟨g, 0, none⟩ : Addr).add off) (w := w') ht (by rw [Addr.add_lit, cell?_cellH, Nat.zero_add]; exact hc)
    simp only [execOp, hf.ev hx, ptrOff, Sem.run_bind, hl]; rfl) k
theorem rd_cl {p : Hp → Prop} (hp : ∀ h', Ch h' → p h') : Rd Ch E i h p := ⟨.inr hp⟩
end rules
end Go.Den


namespace Go.Den
set_option linter.unusedVariables false
set_option maxRecDepth 8000
open Go Go.RowKit

theorem Own.neT {h : Hp} {B s n : Nat} {e e2 : TypeId} {v p : Value} {cs ds : List Value} (o : Own h B e s v n cs) (x : Var h p e2 ds) (hne : Nat.beq e e2 = false) : v.ownBlock = none ∨ v.ownBlock ≠ pblk p := by
  obtain ⟨-, ⟨rfl, -⟩ | ⟨g, cap, cur, rfl, -, hg, -⟩⟩ := o
  · exact .inl rfl
  · obtain ⟨b, rfl, hb⟩ := x
    refine .inr fun e => ?_
    have e : some g = some b := e
    cases e
    rw [hg] at hb
    simp only [Option.some.injEq, Obj.cells.injEq] at hb
    have := hb.2.1
    subst this
    simp at hne

section rules
variable {P : Program} {n : Nat} {Q : Post} {l : Fr} {ops : List Oper} {Ch : Hp → Prop} {E F : Nat → Bool} {K : Hp → Hp → Prop} {Φ : Nat → Value → Hp → Prop} {i : Nat} {D : Hp → Prop} {fl : List (Nat × Value)}

/-- A variable of noughts: it floats. -/
theorem k_alloc {d : Nat} {t : TypeId} {cs : List Value} {ty : TypeId} {ps : String} {af : Array Edge} {g : Option (Nat × Bool)} (ho : opAt ops i = some ⟨some d, .alloc t, ty, ps, af, g⟩) (hg : gd ops l g = some true) (hF : F i = true) (hb : Nat.blt d n = true)
    (hi : (P.info? t).bind (fun i => i.zero.map fun z => z.cells.toList) = some cs)
    (hk : ∀ h p h', Ch h → Var h' p t cs → Ext h h' → pblk p = some h.size → Ch h' ∧ Φ i p h')
    (k : ∀ p, SK P n ops Ch E F K Φ Q (i + 1) D ((i, p) :: fl) ((d, p) :: l)) : SK P n ops Ch E F K Φ Q i D fl l :=
  k_float ho hF hg (fun a w h hf hw hC hT => by
    subst hw
    cases hq : P.info? t with
    | none => rw [hq] at hi; cases hi
    | some inf =>
      rw [hq] at hi
      simp only [Option.bind_some] at hi
      cases hz : inf.zero with
      | none => rw [hz] at hi; cases hi
      | some z =>
        rw [hz] at hi
        simp only [Option.map_some, Option.some.injEq] at hi
        have hv : Var (w.alloc (.cells z.cells t)).heap (.pointer (some ⟨w.heap.size, 0, none⟩)) t cs := ⟨w.heap.size, rfl, by rw [← hi, Array.toArray_toList]; exact heap_alloc_new w _⟩
        have := hk _ _ _ hC hv (Ext.push _ _) rfl
        unfold Eff
        simp only [execOp, Sem.run_bind, run_allocV hq hz]
        exact ⟨⟨rfl, rfl, rfl⟩, Ext.push _ _, this.1, this.2⟩) (fun a v hf => ⟨_, hf.put d v hb, k v⟩)

/-- A store of a whole variable, behind all floats. -/
theorem k_storeV {t e : TypeId} {x y : Operand} {p u : Value} {cs us : List Value} {ty : TypeId} {ps : String} {af : Array Edge} {g : Option (Nat × Bool)} (D' : Hp → Prop) (ho : opAt ops i = some ⟨none, .store t x y, ty, ps, af, g⟩) (hg : gd ops l g = some true) (hE : E i = true)
    (hx : ev l x = some p) (hy : ev l y = some u) (hu : u.cells.toList = us) (h1 : OneAll us) (ht : (P.info? t).map (·.size) = some us.length) (hl : us.length = cs.length)
    (hnf : (List.range' (i + 1) (ops.length - (i + 1))).all (fun i => !F i) = true) (hD' : ∀ h1 h2, D' h1 → Ext h1 h2 → D' h2)
    (hv : ∀ h, Ch h → D h → (∀ p ∈ fl, Φ p.1 p.2 h) → Var h p e cs)
    (hs : ∀ h h', Ch h → D h → (∀ p ∈ fl, Φ p.1 p.2 h) → Var h' p e us → Only (pblk p) h h' → Ch h' ∧ D' h')
    (k : SK P n ops Ch E F K Φ Q (i + 1) D' [] l) : SK P n ops Ch E F K Φ Q i D fl l :=
  k_act ho hE hg fun h hC hD hT a w hf hw => by
    have hv := hv h hC hD hT
    have hs := hs h
    subst hw
    obtain ⟨g, rfl, hgc⟩ := hv
    have hus : u.cells.size = us.length := by rw [← hu]; simp
    have hr := run_storeVar (P := P) (w := w) (t := t) (off := 0) (u := u) hgc (by rw [hus]; exact ht) (by rw [hu]; exact h1.all) (by rw [hus]; omega)
    rw [hu, hus] at hr
    have hg' := setRow_heap w g cs.toArray (cs.take 0 ++ us ++ cs.drop (0 + us.length)).toArray e _ hgc
    have hcell : cs.take 0 ++ us ++ cs.drop (0 + us.length) = us := by
      rw [List.take_zero, List.nil_append, Nat.zero_add, hl, List.drop_of_length_le (Nat.le_refl _), List.append_nil]
    have := hs _ hC hD hT ⟨g, rfl, by rw [hcell] at hg'; exact hg'⟩ ⟨by simp, fun j _ hj => setRow_other w g j _ (fun q => hj (by simp [pblk, q]))⟩
    have hz : (⟨g, 0, none⟩ : Addr).add 0 = ⟨g, 0, none⟩ := by simp [Addr.add_lit]
    (try rw [hcell] at hr)
    (try rw [hcell] at this)
    unfold Eff
    simp only [execOp, hf.ev hx, hf.ev hy, Instr.storeAt, Instr.sureAddr, Sem.run_bind, Sem.run_pure, Result.andThen_ok, hr]
    exact ⟨⟨rfl, rfl, rfl⟩, this.1, D', l, hD', this.2, hf.putNone _, .inr ⟨hnf, k⟩⟩
end rules
end Go.Den

