/- Texts DenA to DenA of this work, joined: each says in its own head what it proves, and of which condition. -/
import Derived.Test.YtbhhagdnbkkjpaaDoorRows
import Derived.WalkKit
/- Own calculus, part A: a region whose order is drawn may be run in the order of its text, if all its operations but a chain of them yield one value in every world of a class. No condition. -/
namespace Go.Den
set_option linter.unusedVariables false
set_option maxRecDepth 8000
open Go Go.RowKit

section order
variable {P : Program} {ops : Array Oper} {C : World → Prop} {E : Nat → Bool}

/-- An operation that acts: what it hands back, and the world behind it. -/
def EffUpon (P : Program) (K : Value → World → Prop) : Result Next → Prop
  | .ok (.value v) w' => K v w'
  | .ok .skip w' => K undef w'
  | .ok (.enter f args) w' => Calls P f args w' fun
      | .returned v, w'' => K v w''
      | _, _ => False
  | _ => False

def Eff (P : Program) (o : Oper) (a : Act) (w : World) (K : Value → World → Prop) : Prop := EffUpon P K ((execOp a.eval o).run P w)

theorem EffUpon_mono {K K' : Value → World → Prop} (hk : ∀ v w, K v w → K' v w) {r : Result Next} (h : EffUpon P K r) : EffUpon P K' r := by
  cases r with
  | ok n w' =>
    cases n <;> simp only [EffUpon] at h ⊢
    case value v => exact hk _ _ h
    case skip => exact hk _ _ h
    case enter f args =>
      refine h.mono fun e w'' he => ?_
      cases e with
      | returned v => exact hk _ _ he
      | panicked c => exact he
      | outgrown => exact he
  | halt x w' => exact h

theorem Eff_mono {o : Oper} {a : Act} {w : World} {K K' : Value → World → Prop} (hk : ∀ v w, K v w → K' v w) (h : Eff P o a w K) : Eff P o a w K' := EffUpon_mono hk h

theorem EffUpon_some {K : Value → World → Prop} {r : Result Next} (h : EffUpon P K r) : ∃ v w', K v w' := by
  cases r with
  | ok n w' =>
    cases n <;> simp only [EffUpon] at h
    case value v => exact ⟨_, _, h⟩
    case skip => exact ⟨_, _, h⟩
    case enter f args =>
      obtain ⟨e, w'', fr, he, -⟩ := h []
      cases e with
      | returned v => exact ⟨_, _, he⟩
      | panicked c => exact he.elim
      | outgrown => exact he.elim
  | halt x w' => exact h.elim

theorem wp_of_Eff {o : Oper} {a : Act} {w : World} {K : Value → World → Prop} {K' : Act → World → Prop} {Q : Exit → Act → World → Prop}
    (hk : ∀ v w', K v w' → K' (a.put o.dst v) w') (h : Eff P o a w K) : o.wp P a w K' Q := by
  unfold Eff at h
  unfold Oper.wp
  generalize (execOp a.eval o).run P w = r at *
  cases r with
  | ok n w' =>
    cases n <;> simp only [EffUpon] at h <;> simp only [Oper.upon]
    case value v => exact hk _ _ h
    case skip => exact hk _ _ h
    case enter f args =>
      refine h.mono fun e w'' he => ?_
      cases e with
      | returned v => exact hk _ _ he
      | panicked c => exact he.elim
      | outgrown => exact he.elim
  | halt x w' => exact h.elim

def Wanted (ops : Array Oper) (o : Oper) (a : Act) : Bool := Region.wanted o (yielded ops a.tmps)

/-- In every world of the class the operation yields this one value (or is passed over). -/
def Stab (P : Program) (ops : Array Oper) (C : World → Prop) (o : Oper) (v : Value) (a : Act) : Prop :=
  (Wanted ops o a = true ∧ ∀ w', C w' → (execOp a.eval o).run P w' = .ok (.value v) w') ∨ (Wanted ops o a = false ∧ v = undef)

theorem Stab.of_same {o : Oper} {v : Value} {a a' : Act} (h : Stab P ops C o v a) (he : execOp a'.eval o = execOp a.eval o) (hw : Wanted ops o a' = Wanted ops o a) : Stab P ops C o v a' := by
  unfold Stab at *; rw [he, hw]; exact h

theorem Stab.unique {o : Oper} {v u : Value} {a : Act} {w : World} (hw : C w) (h : Stab P ops C o v a) (k : Stab P ops C o u a) : v = u := by
  rcases h with ⟨h1, h2⟩ | ⟨h1, h2⟩ <;> rcases k with ⟨k1, k2⟩ | ⟨k1, k2⟩
  · have a1 := h2 w hw; rw [k2 w hw] at a1; cases a1; rfl
  · rw [h1] at k1; cases k1
  · rw [h1] at k1; cases k1
  · rw [h2, k2]

/-- The operations, by number, in the order of the list. -/
def Mix (P : Program) (ops : Array Oper) (C : World → Prop) (E : Nat → Bool) (Q : Act → World → Prop) : List Nat → Act → World → Prop
  | [], a, w => Q a w
  | i :: L, a, w => ∃ o, ops[i]? = some o ∧
      ((∃ v, Stab P ops C o v a ∧ Mix P ops C E Q L (a.put o.dst v) w) ∨
       (E i = true ∧ Wanted ops o a = true ∧ Eff P o a w fun v w' => C w' ∧ Mix P ops C E Q L (a.put o.dst v) w'))

def NoSel (ops : Array Oper) : Prop := ∀ (j : Nat) (o : Oper) cs b, ops[j]? = some o → o.op ≠ .select cs b

theorem pull (hs : NoSel ops) {Q : Act → World → Prop} {j : Nat} {oj : Oper} (hj : ops[j]? = some oj) (post : List Nat) : ∀ (pre : List Nat) (a : Act) (w : World), C w →
    (∀ i ∈ pre, (∀ oi, ops[i]? = some oi → oi.apart ops oj = true) ∧ ¬ (E i = true ∧ E j = true)) →
    Mix P ops C E Q (pre ++ j :: post) a w →
    (∃ v, Stab P ops C oj v a ∧ Mix P ops C E Q (pre ++ post) (a.put oj.dst v) w) ∨
    (E j = true ∧ Wanted ops oj a = true ∧ Eff P oj a w fun v w' => C w' ∧ Mix P ops C E Q (pre ++ post) (a.put oj.dst v) w')
  | [], a, w, _, _, h => by
    obtain ⟨o, ho, h⟩ := h
    rw [hj] at ho; cases ho
    exact h
  | i :: pre, a, w, hC, hp, h => by
    obtain ⟨oi, hi, h⟩ := h
    obtain ⟨hap, hch⟩ := hp i (by simp)
    have hp' : ∀ i ∈ pre, (∀ oi, ops[i]? = some oi → oi.apart ops oj = true) ∧ ¬ (E i = true ∧ E j = true) := fun k hk => hp k (by simp [hk])
    obtain ⟨h1, h2, h3⟩ := Oper.apart_spec (hap oi hi)
    have hsi : ∀ cs b, oi.op ≠ .select cs b := fun cs b => hs i oi cs b hi
    have hsj : ∀ cs b, oj.op ≠ .select cs b := fun cs b => hs j oj cs b hj
    -- j does not see what i writes; i does not see what j writes
    have ej : ∀ (a : Act) (u : Value), execOp (a.put oi.dst u).eval oj = execOp a.eval oj := fun a u => execOp_put oj hsj a oi.dst u h1
    have wj : ∀ (a : Act) (u : Value), Wanted ops oj (a.put oi.dst u) = Wanted ops oj a := fun a u => wanted_put oj a oi.dst u h1
    have ei : ∀ (a : Act) (u : Value), execOp (a.put oj.dst u).eval oi = execOp a.eval oi := fun a u => execOp_put oi hsi a oj.dst u h3
    have wi : ∀ (a : Act) (u : Value), Wanted ops oi (a.put oj.dst u) = Wanted ops oi a := fun a u => wanted_put oi a oj.dst u h3
    have pc : ∀ (a : Act) (u v : Value), (a.put oi.dst u).put oj.dst v = (a.put oj.dst v).put oi.dst u := fun a u v => Act.put_comm a u v h2
    rcases h with ⟨u, hu, h⟩ | ⟨hE, hW, h⟩
    · rcases pull hs hj post pre (a.put oi.dst u) w hC hp' h with ⟨v, hv, k⟩ | ⟨hEj, hWj, k⟩
      · refine .inl ⟨v, hv.of_same (ej a u).symm (wj a u).symm, oi, hi, .inl ⟨u, hu.of_same (ei a v) (wi a v), ?_⟩⟩
        rw [← pc a u v]; exact k
      · refine .inr ⟨hEj, by rw [← wj a u]; exact hWj, ?_⟩
        unfold Eff at k ⊢
        rw [ej a u] at k
        exact EffUpon_mono (fun v w' hk => ⟨hk.1, oi, hi, .inl ⟨u, hu.of_same (ei a v) (wi a v), by rw [← pc a u v]; exact hk.2⟩⟩) k
    · have hEj : ¬ E j = true := fun e => hch ⟨hE, e⟩
      have step : Eff P oi a w fun u w' => C w' ∧ ∃ v, Stab P ops C oj v a ∧ Mix P ops C E Q (pre ++ post) ((a.put oj.dst v).put oi.dst u) w' := by
        refine Eff_mono (fun u w' hk => ⟨hk.1, ?_⟩) h
        rcases pull hs hj post pre (a.put oi.dst u) w' hk.1 hp' hk.2 with ⟨v, hv, k⟩ | ⟨hEj', -, -⟩
        · exact ⟨v, hv.of_same (ej a u).symm (wj a u).symm, by rw [← pc a u v]; exact k⟩
        · exact absurd hEj' hEj
      obtain ⟨u0, w0, hc0, v0, hv0, -⟩ := EffUpon_some step
      refine .inl ⟨v0, hv0, oi, hi, .inr ⟨hE, by rw [wi a v0]; exact hW, ?_⟩⟩
      unfold Eff at step ⊢
      rw [ei a v0]
      refine EffUpon_mono (fun u w' hk => ?_) step
      obtain ⟨hc, v, hv, k⟩ := hk
      rw [Stab.unique hC hv hv0] at k
      exact ⟨hc, k⟩

/-! ### The checks over a region's edges -/

def maskOf (acc : Array Nat) : List Edge → Nat
  | [] => 0
  | e :: es => if Region.binds .any e then (2 ^ e.on ||| acc.getD e.on 0) ||| maskOf acc es else maskOf acc es

def ancGo : List Oper → Array Nat → Array Nat
  | [], acc => acc
  | o :: os, acc => ancGo os (acc.push (maskOf acc o.after.toList))

def Closed (ops : Array Oper) (lst : Nat → Bool) : Prop := ∀ j o, ops[j]? = some o → lst j = true → ∀ e ∈ o.after.toList, Region.binds .any e = true → lst e.on = true

theorem mask_sound {acc : Array Nat} {lst : Nat → Bool} (hacc : ∀ k, lst k = true → ∀ i, (acc.getD k 0).testBit i = true → lst i = true) :
    ∀ (es : List Edge), (∀ e ∈ es, Region.binds .any e = true → lst e.on = true) → ∀ i, (maskOf acc es).testBit i = true → lst i = true
  | [], _, i, h => by simp [maskOf] at h
  | e :: es, he, i, h => by
    unfold maskOf at h
    have ih := mask_sound hacc es (fun e' h' => he e' (by simp [h']))
    by_cases hb : Region.binds .any e = true
    · rw [if_pos hb, Nat.testBit_or, Nat.testBit_or] at h
      have hl := he e (by simp) hb
      simp only [Bool.or_eq_true] at h
      rcases h with (h | h) | h
      · rw [Nat.testBit_two_pow] at h
        have : e.on = i := by simpa using h
        rw [← this]; exact hl
      · exact hacc _ hl _ h
      · exact ih _ h
    · rw [if_neg hb] at h; exact ih _ h

theorem anc_sound {ops : Array Oper} {lst : Nat → Bool} (hcl : Closed ops lst) : ∀ (os : List Oper) (acc : Array Nat), (∀ j, os[j]? = ops[acc.size + j]?) →
    (∀ k o, k < acc.size → ops[k]? = some o → (∀ e ∈ o.after.toList, Region.binds .any e = true → lst e.on = true) → ∀ i, (acc.getD k 0).testBit i = true → lst i = true) →
    (∀ k, acc.size ≤ k → k < acc.size + os.length → ∃ o, ops[k]? = some o) → (∀ k, k < acc.size → ∃ o, ops[k]? = some o) →
    ∀ k o, ops[k]? = some o → k < acc.size + os.length → (∀ e ∈ o.after.toList, Region.binds .any e = true → lst e.on = true) → ∀ i, ((ancGo os acc).getD k 0).testBit i = true → lst i = true
  | [], acc, _, hacc, _, _, k, o, ho, hk, he, i, h => hacc k o (by simpa using hk) ho he i h
  | x :: os, acc, hos, hacc, hex, hex', k, o, ho, hk, he, i, h => by
    have hx : ops[acc.size]? = some x := by simpa using (hos 0).symm
    refine anc_sound hcl os (acc.push (maskOf acc x.after.toList)) (fun j => by have := hos (j + 1); simpa [Nat.add_assoc, Nat.add_comm 1 j] using this) ?_ (fun k h1 h2 => hex k (by simp at h1; omega) (by simp at h2 ⊢; omega)) (fun k h1 => by
        simp at h1
        by_cases hk : k < acc.size
        · exact hex' k hk
        · exact ⟨x, by rw [show k = acc.size by omega]; exact hx⟩) k o ho (by simp at hk ⊢; omega) he i h
    intro k' o' hk' ho' he' i' h'
    simp at hk'
    have inner : ∀ k, lst k = true → ∀ i, (acc.getD k 0).testBit i = true → lst i = true := fun k'' hl i'' hi'' => by
      by_cases hlt : k'' < acc.size
      · obtain ⟨o'', ho''⟩ := hex' k'' hlt
        exact hacc k'' o'' hlt ho'' (fun e he hb => hcl k'' o'' ho'' hl e he hb) i'' hi''
      · rw [Array.getD_eq_getD_getElem?, Array.getElem?_eq_none (by omega)] at hi''
        simp at hi''
    by_cases hlt : k' < acc.size
    · refine hacc k' o' hlt ho' he' i' ?_
      rw [Array.getD_eq_getD_getElem?, Array.getElem?_push, if_neg (by omega), ← Array.getD_eq_getD_getElem?] at h'
      exact h'
    · have hke : k' = acc.size := by omega
      subst hke
      rw [hx] at ho'; cases ho'
      rw [Array.getD_eq_getD_getElem?, Array.getElem?_push, if_pos rfl] at h'
      exact mask_sound inner _ he' i' h'

/-- All that is asked of a region: no select; edges lead back; two operations, one behind the other, are apart, or the later one waits for the earlier one; of two that act the later one comes behind the earlier one. -/
def regionOk (ops : List Oper) (E : Nat → Bool) : Bool :=
  let A := ops.toArray
  let an := ancGo ops #[]
  Region.noSelect A &&
  ops.zipIdx.all fun (oj, j) =>
    oj.after.toList.all (fun e => !Region.binds .any e || Nat.blt e.on j) &&
    (ops.take j).zipIdx.all fun (oi, i) =>
      ((oj.after.toList.any fun e => Region.binds .any e && Nat.beq e.on i) || oi.apart A oj) &&
      (!(E i && E j) || (an.getD j 0).testBit i)

theorem zipIdx_all {α : Type} {p : α × Nat → Bool} {l : List α} (h : l.zipIdx.all p = true) {j : Nat} {x : α} (hj : l[j]? = some x) : p (x, j) = true := by
  rw [List.all_eq_true] at h
  refine h (x, j) ?_
  rw [List.mem_zipIdx_iff_getElem?]
  exact hj

theorem regionOk_spec {l : List Oper} (h : regionOk l E = true) : NoSel l.toArray ∧
    (∀ j oj, l[j]? = some oj → ∀ e ∈ oj.after.toList, Region.binds .any e = true → e.on < j) ∧
    (∀ i j oi oj, i < j → l[i]? = some oi → l[j]? = some oj → ((∃ e ∈ oj.after.toList, Region.binds .any e = true ∧ e.on = i) ∨ oi.apart l.toArray oj = true) ∧
      (E i = true → E j = true → ((ancGo l #[]).getD j 0).testBit i = true)) := by
  unfold regionOk at h
  simp only [Bool.and_eq_true] at h
  obtain ⟨h0, h⟩ := h
  refine ⟨Region.noSelect_spec h0, fun j oj hj e he hb => ?_, fun i j oi oj hij hi hj => ?_⟩
  · have h1 := zipIdx_all h hj
    simp only [Bool.and_eq_true, List.all_eq_true] at h1
    have := h1.1 e he
    simp only [hb, Bool.not_true, Bool.false_or] at this
    exact Nat.le_of_ble_eq_true this
  · have h1 := zipIdx_all h hj
    simp only [Bool.and_eq_true] at h1
    have h2 := zipIdx_all h1.2 (show (l.take j)[i]? = some oi by rw [List.getElem?_take, if_pos hij]; exact hi)
    simp only [Bool.and_eq_true, Bool.or_eq_true] at h2
    obtain ⟨h3, h4⟩ := h2
    refine ⟨?_, fun ei ej => ?_⟩
    · rcases h3 with h3 | h3
      · rw [List.any_eq_true] at h3
        obtain ⟨e, he, hb⟩ := h3
        simp only [Bool.and_eq_true] at hb
        exact .inl ⟨e, he, hb.1, Nat.eq_of_beq_eq_true hb.2⟩
      · exact .inr h3
    · simpa [ei, ej] using h4

theorem any_of_mix {l : List Oper} {Q : Exit → Act → World → Prop} (h : regionOk l E = true) : ∀ (m : Nat) (L : List Nat) (listed : Array Bool) (a : Act) (w : World),
    L.length = m → L.Pairwise (· < ·) → (∀ i, i ∈ L ↔ i < l.length ∧ listed.getD i true = false) → listed.size = l.length →
    Closed l.toArray (fun i => listed.getD i false) → C w → Mix P l.toArray C E (fun a w => Q .normal a w) L a w → wpAny P .any l.toArray Q m listed a w := by
  obtain ⟨hs, hback, hpair⟩ := regionOk_spec h
  intro m
  induction m with
  | zero =>
    intro L listed a w hlen hsort hmem hsz hcl hC hm
    have hL : L = [] := List.length_eq_zero_iff.1 hlen
    subst hL
    refine ⟨?_, hm⟩
    rw [List.eq_nil_iff_forall_not_mem]
    intro j hj
    obtain ⟨h1, o, ho, -⟩ := mem_ready.1 hj
    have hjl : j < l.length := by simpa using (Array.getElem?_eq_some_iff.1 ho).1
    have := (hmem j).2 ⟨hjl, h1⟩
    simp at this
  | succ m ih =>
    intro L listed a w hlen hsort hmem hsz hcl hC hm
    refine ⟨fun hnil => ?_, fun j hj => ?_⟩
    · -- the first that is left may come up
      cases L with
      | nil => simp at hlen
      | cons k L' =>
        exfalso
        have hk := (hmem k).1 (by simp)
        have hkr : k ∈ Region.ready .any l.toArray listed := by
          refine mem_ready.2 ⟨hk.2, l[k]'hk.1, by simp [hk.1], fun e he hb => ?_⟩
          have hlt := hback k (l[k]'hk.1) (by simp [hk.1]) e (by simpa using he) hb
          have hlt' : e.on < l.length := Nat.lt_trans hlt hk.1
          cases hg : listed.getD e.on true with
          | true =>
            rw [Array.getD_eq_getD_getElem?] at hg ⊢
            rw [Array.getElem?_eq_getElem (by omega)] at hg ⊢
            simpa using hg
          | false =>
            have hin := (hmem e.on).2 ⟨hlt', hg⟩
            rcases List.mem_cons.1 hin with heq | hin'
            · omega
            · have := (List.pairwise_cons.1 hsort).1 _ hin'
              omega
        rw [hnil] at hkr
        cases hkr
    · obtain ⟨hj1, oj, hoj, hjall⟩ := mem_ready.1 hj
      have hjl : j < l.length := by simpa using (Array.getElem?_eq_some_iff.1 hoj).1
      have hoj' : l[j]? = some oj := by simpa using hoj
      have hjL : j ∈ L := (hmem j).2 ⟨hjl, hj1⟩
      obtain ⟨pre, post, rfl⟩ := List.append_of_mem hjL
      have hpre : ∀ i ∈ pre, i < j := fun i hi => by
        have := List.pairwise_append.1 hsort
        exact this.2.2 i hi j (by simp)
      have hdep : ∀ e ∈ oj.after.toList, Region.binds .any e = true → listed.getD e.on false = true := fun e he hb => hjall e (by simpa using he) hb
      have hap : ∀ i ∈ pre, (∀ oi, l.toArray[i]? = some oi → oi.apart l.toArray oj = true) ∧ ¬ (E i = true ∧ E j = true) := fun i hi => by
        have hi1 := (hmem i).1 (by simp [hi])
        have hif : listed.getD i false = false := by
          have h1 := hi1.2
          rw [Array.getD_eq_getD_getElem?] at h1 ⊢
          rw [Array.getElem?_eq_getElem (by omega)] at h1 ⊢
          simpa using h1
        refine ⟨fun oi hoi => ?_, fun ⟨e1, e2⟩ => ?_⟩
        · obtain ⟨hor, -⟩ := hpair i j oi oj (hpre i hi) (by simpa using hoi) hoj'
          rcases hor with ⟨e, he, hb, heq⟩ | hap
          · have := hdep e he hb
            rw [heq, hif] at this
            cases this
          · exact hap
        · obtain ⟨-, hch⟩ := hpair i j (l[i]'hi1.1) oj (hpre i hi) (by simp [hi1.1]) hoj'
          have hb := hch e1 e2
          have := anc_sound (ops := l.toArray) hcl l #[] (by simp) (by simp) (fun k _ hk => ⟨l[k]'(by simpa using hk), by simp at hk; simp [hk]⟩) (by simp) j oj hoj (by simpa using hjl) hdep i hb
          rw [hif] at this
          cases this
      have hmem' : ∀ i, i ∈ pre ++ post ↔ i < l.length ∧ (listed.setIfInBounds j true).getD i true = false := fun i => by
        have hnd : i ∈ pre ++ post ↔ i ∈ pre ++ j :: post ∧ i ≠ j := by
          have hq := List.pairwise_append.1 hsort
          have hq2 := List.pairwise_cons.1 hq.2.1
          constructor
          · intro hi
            refine ⟨by rcases List.mem_append.1 hi with hi | hi <;> simp [hi], fun heq => ?_⟩
            subst heq
            rcases List.mem_append.1 hi with hi | hi
            · exact Nat.lt_irrefl _ (hpre _ hi)
            · exact Nat.lt_irrefl _ (hq2.1 _ hi)
          · rintro ⟨hi, hne⟩
            rcases List.mem_append.1 hi with hi | hi
            · simp [hi]
            · rcases List.mem_cons.1 hi with hi | hi
              · exact absurd hi hne
              · simp [hi]
        rw [hnd, hmem i]
        by_cases hij : j = i
        · subst hij
          have hset : (listed.setIfInBounds j true).getD j true = true := by
            rw [Array.getD_eq_getD_getElem?, Array.getElem?_setIfInBounds_self_of_lt (by omega)]; rfl
          rw [hset]
          simp
        · rw [getD_set_ne true hij]
          constructor
          · rintro ⟨⟨h1, h2⟩, -⟩; exact ⟨h1, h2⟩
          · rintro ⟨h1, h2⟩; exact ⟨⟨h1, h2⟩, fun e => hij e.symm⟩
      have hcl' : Closed l.toArray (fun i => (listed.setIfInBounds j true).getD i false) := fun k o hk hl e he hb => by
        by_cases hkj : j = k
        · subst hkj
          rw [hoj] at hk; cases hk
          exact getD_set_true (hdep e he hb)
        · have hl' : listed.getD k false = true := by
            have := getD_set_ne (listed := listed) false hkj
            simp only [this] at hl
            exact hl
          exact getD_set_true (hcl k o hk hl' e he hb)
      have hlen' : (pre ++ post).length = m := by simp at hlen ⊢; omega
      have hsort' : (pre ++ post).Pairwise (· < ·) := by
        refine hsort.sublist ?_
        exact List.Sublist.append_left (List.sublist_cons_self _ _) _
      have next : ∀ a' w', C w' → Mix P l.toArray C E (fun a w => Q .normal a w) (pre ++ post) a' w' → wpAny P .any l.toArray Q m (listed.setIfInBounds j true) a' w' := fun a' w' hC' hm' =>
        ih (pre ++ post) (listed.setIfInBounds j true) a' w' hlen' hsort' hmem' (by simpa using hsz) hcl' hC' hm'
      unfold wpOp
      simp only [hoj]
      rcases pull hs hoj post pre a w hC hap hm with ⟨v, hv, k⟩ | ⟨-, hW, k⟩
      · rcases hv with ⟨hW, hr⟩ | ⟨hW, rfl⟩
        · rw [if_pos (show Region.wanted _ _ = true from hW)]
          refine .inl ?_
          unfold Oper.wp
          rw [hr w hC]
          exact next _ _ hC k
        · rw [if_neg (by unfold Wanted at hW; rw [hW]; exact Bool.false_ne_true)]
          exact next _ _ hC k
      · rw [if_pos (show Region.wanted _ _ = true from hW)]
        exact .inl (wp_of_Eff (fun v w' hk => next _ _ hk.1 hk.2) k)

/-- A region whose order is drawn, run in the order of its text. -/
theorem region_drawn {id : Nat} {l : List Oper} {Q : Exit → Act → World → Prop} {a : Act} {w : World} (hm : P.follows .mixedOrders = true) (hok : regionOk l E = true)
    (hC : C { w with drawn := w.drawn + 1 }) (h : Mix P l.toArray C E (fun a w => Q .normal a w) (List.range l.length) a { w with drawn := w.drawn + 1 }) :
    (Code.region id l.toArray true).wp P Q a w := by
  refine wp_region_any hm ?_
  have := any_of_mix (P := P) (C := C) (Q := Q) hok l.length (List.range l.length) (Array.replicate l.length false) a { w with drawn := w.drawn + 1 } (by simp) List.pairwise_lt_range
    (fun i => by
      rw [List.mem_range]
      constructor
      · intro hi
        refine ⟨hi, ?_⟩
        rw [Array.getD_eq_getD_getElem?, Array.getElem?_eq_getElem (by simpa using hi)]
        simp
      · exact fun hi => hi.1)
    (by simp) (fun k o _ hk e _ _ => by
      exfalso
      by_cases hlt : k < l.length
      · simp [Array.getD_eq_getD_getElem?, hlt] at hk
      · simp [Array.getD_eq_getD_getElem?, hlt] at hk) hC h
  simpa using this

/-- A region whose order is the text's. -/
theorem wpOps_of_mix {ops : Array Oper} {Q : Exit → Act → World → Prop} : ∀ (L : List Nat) (a : Act) (w : World),
    Mix P ops (fun _ => True) (fun _ => true) (fun a w => Q .normal a w) L a w → wpOps P ops Q L a w
  | [], _, _, h => h
  | i :: L, a, w, h => by
    obtain ⟨o, ho, h⟩ := h
    unfold wpOps
    simp only [ho]
    rcases h with ⟨v, hv, k⟩ | ⟨-, hW, k⟩
    · rcases hv with ⟨hW, hr⟩ | ⟨hW, rfl⟩
      · rw [if_pos (show Region.wanted _ _ = true from hW)]
        refine .inl ?_
        unfold Oper.wp
        rw [hr w trivial]
        exact wpOps_of_mix L _ _ k
      · rw [if_neg (by unfold Wanted at hW; rw [hW]; exact Bool.false_ne_true)]
        exact wpOps_of_mix L _ _ k
    · rw [if_pos (show Region.wanted _ _ = true from hW)]
      exact .inl (wp_of_Eff (fun v w' hk => wpOps_of_mix L _ _ hk.2) k)

theorem region_plain {id : Nat} {l : List Oper} {Q : Exit → Act → World → Prop} {a : Act} {w : World}
    (h : Mix P l.toArray (fun _ => True) (fun _ => true) (fun a w => Q .normal a w) (List.range l.length) a w) : (Code.region id l.toArray false).wp P Q a w :=
  wp_region (by simpa using wpOps_of_mix _ _ _ h)

end order
end Go.Den
