/- Texts DenA to DenF of this work, joined: each says in its own head what it proves, and of which condition. -/
import Derived.Test.YtfgfmempmkjlnaaDoorRows
import Derived.WalkKit
/- Own calculus, part A: a region whose order is drawn may be run in the order of its text, if all its operations but a chain of them yield one value in every world of a class. No condition. -/
namespace Go.Den
set_option linter.unusedVariables false
set_option maxRecDepth 8000
open Go Go.RowKit

section order
variable {P : Program} {ops : Array Oper} {C : World → Prop} {E : Nat → Bool}

/-- An operation that acts: what it hands back, and the world behind it. -/
def EffUpon (P : Program) (K : Value → World → Prop) : Result Next → Prop
  | .ok (.value v) w' => K v w'
  | .ok .skip w' => K undef w'
  | .ok (.enter f args) w' => Calls P f args w' fun
      | .returned v, w'' => K v w''
      | _, _ => False
  | _ => False

def Eff (P : Program) (o : Oper) (a : Act) (w : World) (K : Value → World → Prop) : Prop := EffUpon P K ((execOp a.eval o).run P w)

theorem EffUpon_mono {K K' : Value → World → Prop} (hk : ∀ v w, K v w → K' v w) {r : Result Next} (h : EffUpon P K r) : EffUpon P K' r := by
  cases r with
  | ok n w' =>
    cases n <;> simp only [EffUpon] at h ⊢
    case value v => exact hk _ _ h
    case skip => exact hk _ _ h
    case enter f args =>
      refine h.mono fun e w'' he => ?_
      cases e with
      | returned v => exact hk _ _ he
      | panicked c => exact he
      | outgrown => exact he
  | halt x w' => exact h

theorem Eff_mono {o : Oper} {a : Act} {w : World} {K K' : Value → World → Prop} (hk : ∀ v w, K v w → K' v w) (h : Eff P o a w K) : Eff P o a w K' := EffUpon_mono hk h

theorem EffUpon_some {K : Value → World → Prop} {r : Result Next} (h : EffUpon P K r) : ∃ v w', K v w' := by
  cases r with
  | ok n w' =>
    cases n <;> simp only [EffUpon] at h
    case value v => exact ⟨_, _, h⟩
    case skip => exact ⟨_, _, h⟩
    case enter f args =>
      obtain ⟨e, w'', fr, he, -⟩ := h []
      cases e with
      | returned v => exact ⟨_, _, he⟩
      | panicked c => exact he.elim
      | outgrown => exact he.elim
  | halt x w' => exact h.elim

theorem wp_of_Eff {o : Oper} {a : Act} {w : World} {K : Value → World → Prop} {K' : Act → World → Prop} {Q : Exit → Act → World → Prop}
    (hk : ∀ v w', K v w' → K' (a.put o.dst v) w') (h : Eff P o a w K) : o.wp P a w K' Q := by
  unfold Eff at h
  unfold Oper.wp
  generalize (execOp a.eval o).run P w = r at *
  cases r with
  | ok n w' =>
    cases n <;> simp only [EffUpon] at h <;> simp only [Oper.upon]
    case value v => exact hk _ _ h
    case skip => exact hk _ _ h
    case enter f args =>
      refine h.mono fun e w'' he => ?_
      cases e with
      | returned v => exact hk _ _ he
      | panicked c => exact he.elim
      | outgrown => exact he.elim
  | halt x w' => exact h.elim

def Wanted (ops : Array Oper) (o : Oper) (a : Act) : Bool := Region.wanted o (yielded ops a.tmps)

/-- In every world of the class the operation yields this one value (or is passed over). -/
def Stab (P : Program) (ops : Array Oper) (C : World → Prop) (o : Oper) (v : Value) (a : Act) : Prop :=
  (Wanted ops o a = true ∧ ∀ w', C w' → (execOp a.eval o).run P w' = .ok (.value v) w') ∨ (Wanted ops o a = false ∧ v = undef)

theorem Stab.of_same {o : Oper} {v : Value} {a a' : Act} (h : Stab P ops C o v a) (he : execOp a'.eval o = execOp a.eval o) (hw : Wanted ops o a' = Wanted ops o a) : Stab P ops C o v a' := by
  unfold Stab at *; rw [he, hw]; exact h

theorem Stab.unique {o : Oper} {v u : Value} {a : Act} {w : World} (hw : C w) (h : Stab P ops C o v a) (k : Stab P ops C o u a) : v = u := by
  rcases h with ⟨h1, h2⟩ | ⟨h1, h2⟩ <;> rcases k with ⟨k1, k2⟩ | ⟨k1, k2⟩
  · have a1 := h2 w hw; rw [k2 w hw] at a1; cases a1; rfl
  · rw [h1] at k1; cases k1
  · rw [h1] at k1; cases k1
  · rw [h2, k2]

/-- The operations, by number, in the order of the list. -/
def Mix (P : Program) (ops : Array Oper) (C : World → Prop) (E : Nat → Bool) (Q : Act → World → Prop) : List Nat → Act → World → Prop
  | [], a, w => Q a w
  | i :: L, a, w => ∃ o, ops[i]? = some o ∧
      ((∃ v, Stab P ops C o v a ∧ Mix P ops C E Q L (a.put o.dst v) w) ∨
       (E i = true ∧ Wanted ops o a = true ∧ Eff P o a w fun v w' => C w' ∧ Mix P ops C E Q L (a.put o.dst v) w'))

def NoSel (ops : Array Oper) : Prop := ∀ (j : Nat) (o : Oper) cs b, ops[j]? = some o → o.op ≠ .select cs b

theorem pull (hs : NoSel ops) {Q : Act → World → Prop} {j : Nat} {oj : Oper} (hj : ops[j]? = some oj) (post : List Nat) : ∀ (pre : List Nat) (a : Act) (w : World), C w →
    (∀ i ∈ pre, (∀ oi, ops[i]? = some oi → oi.apart ops oj = true) ∧ ¬ (E i = true ∧ E j = true)) →
    Mix P ops C E Q (pre ++ j :: post) a w →
    (∃ v, Stab P ops C oj v a ∧ Mix P ops C E Q (pre ++ post) (a.put oj.dst v) w) ∨
    (E j = true ∧ Wanted ops oj a = true ∧ Eff P oj a w fun v w' => C w' ∧ Mix P ops C E Q (pre ++ post) (a.put oj.dst v) w')
  | [], a, w, _, _, h => by
    obtain ⟨o, ho, h⟩ := h
    rw [hj] at ho; cases ho
    exact h
  | i :: pre, a, w, hC, hp, h => by
    obtain ⟨oi, hi, h⟩ := h
    obtain ⟨hap, hch⟩ := hp i (by simp)
    have hp' : ∀ i ∈ pre, (∀ oi, ops[i]? = some oi → oi.apart ops oj = true) ∧ ¬ (E i = true ∧ E j = true) := fun k hk => hp k (by simp [hk])
    obtain ⟨h1, h2, h3⟩ := Oper.apart_spec (hap oi hi)
    have hsi : ∀ cs b, oi.op ≠ .select cs b := fun cs b => hs i oi cs b hi
    have hsj : ∀ cs b, oj.op ≠ .select cs b := fun cs b => hs j oj cs b hj
    -- j does not see what i writes; i does not see what j writes
    have ej : ∀ (a : Act) (u : Value), execOp (a.put oi.dst u).eval oj = execOp a.eval oj := fun a u => execOp_put oj hsj a oi.dst u h1
    have wj : ∀ (a : Act) (u : Value), Wanted ops oj (a.put oi.dst u) = Wanted ops oj a := fun a u => wanted_put oj a oi.dst u h1
    have ei : ∀ (a : Act) (u : Value), execOp (a.put oj.dst u).eval oi = execOp a.eval oi := fun a u => execOp_put oi hsi a oj.dst u h3
    have wi : ∀ (a : Act) (u : Value), Wanted ops oi (a.put oj.dst u) = Wanted ops oi a := fun a u => wanted_put oi a oj.dst u h3
    have pc : ∀ (a : Act) (u v : Value), (a.put oi.dst u).put oj.dst v = (a.put oj.dst v).put oi.dst u := fun a u v => Act.put_comm a u v h2
    rcases h with ⟨u, hu, h⟩ | ⟨hE, hW, h⟩
    · rcases pull hs hj post pre (a.put oi.dst u) w hC hp' h with ⟨v, hv, k⟩ | ⟨hEj, hWj, k⟩
      · refine .inl ⟨v, hv.of_same (ej a u).symm (wj a u).symm, oi, hi, .inl ⟨u, hu.of_same (ei a v) (wi a v), ?_⟩⟩
        rw [← pc a u v]; exact k
      · refine .inr ⟨hEj, by rw [← wj a u]; exact hWj, ?_⟩
        unfold Eff at k ⊢
        rw [ej a u] at k
        exact EffUpon_mono (fun v w' hk => ⟨hk.1, oi, hi, .inl ⟨u, hu.of_same (ei a v) (wi a v), by rw [← pc a u v]; exact hk.2⟩⟩) k
    · have hEj : ¬ E j = true := fun e => hch ⟨hE, e⟩
      have step : Eff P oi a w fun u w' => C w' ∧ ∃ v, Stab P ops C oj v a ∧ Mix P ops C E Q (pre ++ post) ((a.put oj.dst v).put oi.dst u) w' := by
        refine Eff_mono (fun u w' hk => ⟨hk.1, ?_⟩) h
        rcases pull hs hj post pre (a.put oi.dst u) w' hk.1 hp' hk.2 with ⟨v, hv, k⟩ | ⟨hEj', -, -⟩
        · exact ⟨v, hv.of_same (ej a u).symm (wj a u).symm, by rw [← pc a u v]; exact k⟩
        · exact absurd hEj' hEj
      obtain ⟨u0, w0, hc0, v0, hv0, -⟩ := EffUpon_some step
      refine .inl ⟨v0, hv0, oi, hi, .inr ⟨hE, by rw [wi a v0]; exact hW, ?_⟩⟩
      unfold Eff at step ⊢
      rw [ei a v0]
      refine EffUpon_mono (fun u w' hk => ?_) step
      obtain ⟨hc, v, hv, k⟩ := hk
      rw [Stab.unique hC hv hv0] at k
      exact ⟨hc, k⟩

/-! ### The checks over a region's edges -/

def maskOf (acc : Array Nat) : List Edge → Nat
  | [] => 0
  | e :: es => if Region.binds .any e then (2 ^ e.on ||| acc.getD e.on 0) ||| maskOf acc es else maskOf acc es

def ancGo : List Oper → Array Nat → Array Nat
  | [], acc => acc
  | o :: os, acc => ancGo os (acc.push (maskOf acc o.after.toList))

def Closed (ops : Array Oper) (lst : Nat → Bool) : Prop := ∀ j o, ops[j]? = some o → lst j = true → ∀ e ∈ o.after.toList, Region.binds .any e = true → lst e.on = true

theorem mask_sound {acc : Array Nat} {lst : Nat → Bool} (hacc : ∀ k, lst k = true → ∀ i, (acc.getD k 0).testBit i = true → lst i = true) :
    ∀ (es : List Edge), (∀ e ∈ es, Region.binds .any e = true → lst e.on = true) → ∀ i, (maskOf acc es).testBit i = true → lst i = true
  | [], _, i, h => by simp [maskOf] at h
  | e :: es, he, i, h => by
    unfold maskOf at h
    have ih := mask_sound hacc es (fun e' h' => he e' (by simp [h']))
    by_cases hb : Region.binds .any e = true
    · rw [if_pos hb, Nat.testBit_or, Nat.testBit_or] at h
      have hl := he e (by simp) hb
      simp only [Bool.or_eq_true] at h
      rcases h with (h | h) | h
      · rw [Nat.testBit_two_pow] at h
        have : e.on = i := by simpa using h
        rw [← this]; exact hl
      · exact hacc _ hl _ h
      · exact ih _ h
    · rw [if_neg hb] at h; exact ih _ h

theorem anc_sound {ops : Array Oper} {lst : Nat → Bool} (hcl : Closed ops lst) : ∀ (os : List Oper) (acc : Array Nat), (∀ j, os[j]? = ops[acc.size + j]?) →
    (∀ k o, k < acc.size → ops[k]? = some o → (∀ e ∈ o.after.toList, Region.binds .any e = true → lst e.on = true) → ∀ i, (acc.getD k 0).testBit i = true → lst i = true) →
    (∀ k, acc.size ≤ k → k < acc.size + os.length → ∃ o, ops[k]? = some o) → (∀ k, k < acc.size → ∃ o, ops[k]? = some o) →
    ∀ k o, ops[k]? = some o → k < acc.size + os.length → (∀ e ∈ o.after.toList, Region.binds .any e = true → lst e.on = true) → ∀ i, ((ancGo os acc).getD k 0).testBit i = true → lst i = true
  | [], acc, _, hacc, _, _, k, o, ho, hk, he, i, h => hacc k o (by simpa using hk) ho he i h
  | x :: os, acc, hos, hacc, hex, hex', k, o, ho, hk, he, i, h => by
    have hx : ops[acc.size]? = some x := by simpa using (hos 0).symm
    refine anc_sound hcl os (acc.push (maskOf acc x.after.toList)) (fun j => by have := hos (j + 1); simpa [Nat.add_assoc, Nat.add_comm 1 j] using this) ?_ (fun k h1 h2 => hex k (by simp at h1; omega) (by simp at h2 ⊢; omega)) (fun k h1 => by
        simp at h1
        by_cases hk : k < acc.size
        · exact hex' k hk
        · exact ⟨x, by rw [show k = acc.size by omega]; exact hx⟩) k o ho (by simp at hk ⊢; omega) he i h
    intro k' o' hk' ho' he' i' h'
    simp at hk'
    have inner : ∀ k, lst k = true → ∀ i, (acc.getD k 0).testBit i = true → lst i = true := fun k'' hl i'' hi'' => by
      by_cases hlt : k'' < acc.size
      · obtain ⟨o'', ho''⟩ := hex' k'' hlt
        exact hacc k'' o'' hlt ho'' (fun e he hb => hcl k'' o'' ho'' hl e he hb) i'' hi''
      · rw [Array.getD_eq_getD_getElem?, Array.getElem?_eq_none (by omega)] at hi''
        simp at hi''
    by_cases hlt : k' < acc.size
    · refine hacc k' o' hlt ho' he' i' ?_
      rw [Array.getD_eq_getD_getElem?, Array.getElem?_push, if_neg (by omega), ← Array.getD_eq_getD_getElem?] at h'
      exact h'
    · have hke : k' = acc.size := by omega
      subst hke
      rw [hx] at ho'; cases ho'
      rw [Array.getD_eq_getD_getElem?, Array.getElem?_push, if_pos rfl] at h'
      exact mask_sound inner _ he' i' h'

/-- All that is asked of a region: no select; edges lead back; two operations, one behind the other, are apart, or the later one waits for the earlier one; of two that act the later one comes behind the earlier one. -/
def regionOk (ops : List Oper) (E : Nat → Bool) : Bool :=
  let A := ops.toArray
  let an := ancGo ops #[]
  Region.noSelect A &&
  ops.zipIdx.all fun (oj, j) =>
    oj.after.toList.all (fun e => !Region.binds .any e || Nat.blt e.on j) &&
    (ops.take j).zipIdx.all fun (oi, i) =>
      ((oj.after.toList.any fun e => Region.binds .any e && Nat.beq e.on i) || oi.apart A oj) &&
      (!(E i && E j) || (an.getD j 0).testBit i)

theorem zipIdx_all {α : Type} {p : α × Nat → Bool} {l : List α} (h : l.zipIdx.all p = true) {j : Nat} {x : α} (hj : l[j]? = some x) : p (x, j) = true := by
  rw [List.all_eq_true] at h
  refine h (x, j) ?_
  rw [List.mem_zipIdx_iff_getElem?]
  exact hj

theorem regionOk_spec {l : List Oper} (h : regionOk l E = true) : NoSel l.toArray ∧
    (∀ j oj, l[j]? = some oj → ∀ e ∈ oj.after.toList, Region.binds .any e = true → e.on < j) ∧
    (∀ i j oi oj, i < j → l[i]? = some oi → l[j]? = some oj → ((∃ e ∈ oj.after.toList, Region.binds .any e = true ∧ e.on = i) ∨ oi.apart l.toArray oj = true) ∧
      (E i = true → E j = true → ((ancGo l #[]).getD j 0).testBit i = true)) := by
  unfold regionOk at h
  simp only [Bool.and_eq_true] at h
  obtain ⟨h0, h⟩ := h
  refine ⟨Region.noSelect_spec h0, fun j oj hj e he hb => ?_, fun i j oi oj hij hi hj => ?_⟩
  · have h1 := zipIdx_all h hj
    simp only [Bool.and_eq_true, List.all_eq_true] at h1
    have := h1.1 e he
    simp only [hb, Bool.not_true, Bool.false_or] at this
    exact Nat.le_of_ble_eq_true this
  · have h1 := zipIdx_all h hj
    simp only [Bool.and_eq_true] at h1
    have h2 := zipIdx_all h1.2 (show (l.take j)[i]? = some oi by rw [List.getElem?_take, if_pos hij]; exact hi)
    simp only [Bool.and_eq_true, Bool.or_eq_true] at h2
    obtain ⟨h3, h4⟩ := h2
    refine ⟨?_, fun ei ej => ?_⟩
    · rcases h3 with h3 | h3
      · rw [List.any_eq_true] at h3
        obtain ⟨e, he, hb⟩ := h3
        simp only [Bool.and_eq_true] at hb
        exact .inl ⟨e, he, hb.1, Nat.eq_of_beq_eq_true hb.2⟩
      · exact .inr h3
    · simpa [ei, ej] using h4

theorem any_of_mix {l : List Oper} {Q : Exit → Act → World → Prop} (h : regionOk l E = true) : ∀ (m : Nat) (L : List Nat) (listed : Array Bool) (a : Act) (w : World),
    L.length = m → L.Pairwise (· < ·) → (∀ i, i ∈ L ↔ i < l.length ∧ listed.getD i true = false) → listed.size = l.length →
    Closed l.toArray (fun i => listed.getD i false) → C w → Mix P l.toArray C E (fun a w => Q .normal a w) L a w → wpAny P .any l.toArray Q m listed a w := by
  obtain ⟨hs, hback, hpair⟩ := regionOk_spec h
  intro m
  induction m with
  | zero =>
    intro L listed a w hlen hsort hmem hsz hcl hC hm
    have hL : L = [] := List.length_eq_zero_iff.1 hlen
    subst hL
    refine ⟨?_, hm⟩
    rw [List.eq_nil_iff_forall_not_mem]
    intro j hj
    obtain ⟨h1, o, ho, -⟩ := mem_ready.1 hj
    have hjl : j < l.length := by simpa using (Array.getElem?_eq_some_iff.1 ho).1
    have := (hmem j).2 ⟨hjl, h1⟩
    simp at this
  | succ m ih =>
    intro L listed a w hlen hsort hmem hsz hcl hC hm
    refine ⟨fun hnil => ?_, fun j hj => ?_⟩
    · -- the first that is left may come up
      cases L with
      | nil => simp at hlen
      | cons k L' =>
        exfalso
        have hk := (hmem k).1 (by simp)
        have hkr : k ∈ Region.ready .any l.toArray listed := by
          refine mem_ready.2 ⟨hk.2, l[k]'hk.1, by simp [hk.1], fun e he hb => ?_⟩
          have hlt := hback k (l[k]'hk.1) (by simp [hk.1]) e (by simpa using he) hb
          have hlt' : e.on < l.length := Nat.lt_trans hlt hk.1
          cases hg : listed.getD e.on true with
          | true =>
            rw [Array.getD_eq_getD_getElem?] at hg ⊢
            rw [Array.getElem?_eq_getElem (by omega)] at hg ⊢
            simpa using hg
          | false =>
            have hin := (hmem e.on).2 ⟨hlt', hg⟩
            rcases List.mem_cons.1 hin with heq | hin'
            · omega
            · have := (List.pairwise_cons.1 hsort).1 _ hin'
              omega
        rw [hnil] at hkr
        cases hkr
    · obtain ⟨hj1, oj, hoj, hjall⟩ := mem_ready.1 hj
      have hjl : j < l.length := by simpa using (Array.getElem?_eq_some_iff.1 hoj).1
      have hoj' : l[j]? = some oj := by simpa using hoj
      have hjL : j ∈ L := (hmem j).2 ⟨hjl, hj1⟩
      obtain ⟨pre, post, rfl⟩ := List.append_of_mem hjL
      have hpre : ∀ i ∈ pre, i < j := fun i hi => by
        have := List.pairwise_append.1 hsort
        exact this.2.2 i hi j (by simp)
      have hdep : ∀ e ∈ oj.after.toList, Region.binds .any e = true → listed.getD e.on false = true := fun e he hb => hjall e (by simpa using he) hb
      have hap : ∀ i ∈ pre, (∀ oi, l.toArray[i]? = some oi → oi.apart l.toArray oj = true) ∧ ¬ (E i = true ∧ E j = true) := fun i hi => by
        have hi1 := (hmem i).1 (by simp [hi])
        have hif : listed.getD i false = false := by
          have h1 := hi1.2
          rw [Array.getD_eq_getD_getElem?] at h1 ⊢
          rw [Array.getElem?_eq_getElem (by omega)] at h1 ⊢
          simpa using h1
        refine ⟨fun oi hoi => ?_, fun ⟨e1, e2⟩ => ?_⟩
        · obtain ⟨hor, -⟩ := hpair i j oi oj (hpre i hi) (by simpa using hoi) hoj'
          rcases hor with ⟨e, he, hb, heq⟩ | hap
          · have := hdep e he hb
            rw [heq, hif] at this
            cases this
          · exact hap
        · obtain ⟨-, hch⟩ := hpair i j (l[i]'hi1.1) oj (hpre i hi) (by simp [hi1.1]) hoj'
          have hb := hch e1 e2
          have := anc_sound (ops := l.toArray) hcl l #[] (by simp) (by simp) (fun k _ hk => ⟨l[k]'(by simpa using hk), by simp at hk; simp [hk]⟩) (by simp) j oj hoj (by simpa using hjl) hdep i hb
          rw [hif] at this
          cases this
      have hmem' : ∀ i, i ∈ pre ++ post ↔ i < l.length ∧ (listed.setIfInBounds j true).getD i true = false := fun i => by
        have hnd : i ∈ pre ++ post ↔ i ∈ pre ++ j :: post ∧ i ≠ j := by
          have hq := List.pairwise_append.1 hsort
          have hq2 := List.pairwise_cons.1 hq.2.1
          constructor
          · intro hi
            refine ⟨by rcases List.mem_append.1 hi with hi | hi <;> simp [hi], fun heq => ?_⟩
            subst heq
            rcases List.mem_append.1 hi with hi | hi
            · exact Nat.lt_irrefl _ (hpre _ hi)
            · exact Nat.lt_irrefl _ (hq2.1 _ hi)
          · rintro ⟨hi, hne⟩
            rcases List.mem_append.1 hi with hi | hi
            · simp [hi]
            · rcases List.mem_cons.1 hi with hi | hi
              · exact absurd hi hne
              · simp [hi]
        rw [hnd, hmem i]
        by_cases hij : j = i
        · subst hij
          have hset : (listed.setIfInBounds j true).getD j true = true := by
            rw [Array.getD_eq_getD_getElem?, Array.getElem?_setIfInBounds_self_of_lt (by omega)]; rfl
          rw [hset]
          simp
        · rw [getD_set_ne true hij]
          constructor
          · rintro ⟨⟨h1, h2⟩, -⟩; exact ⟨h1, h2⟩
          · rintro ⟨h1, h2⟩; exact ⟨⟨h1, h2⟩, fun e => hij e.symm⟩
      have hcl' : Closed l.toArray (fun i => (listed.setIfInBounds j true).getD i false) := fun k o hk hl e he hb => by
        by_cases hkj : j = k
        · subst hkj
          rw [hoj] at hk; cases hk
          exact getD_set_true (hdep e he hb)
        · have hl' : listed.getD k false = true := by
            have := getD_set_ne (listed := listed) false hkj
            simp only [this] at hl
            exact hl
          exact getD_set_true (hcl k o hk hl' e he hb)
      have hlen' : (pre ++ post).length = m := by simp at hlen ⊢; omega
      have hsort' : (pre ++ post).Pairwise (· < ·) := by
        refine hsort.sublist ?_
        exact List.Sublist.append_left (List.sublist_cons_self _ _) _
      have next : ∀ a' w', C w' → Mix P l.toArray C E (fun a w => Q .normal a w) (pre ++ post) a' w' → wpAny P .any l.toArray Q m (listed.setIfInBounds j true) a' w' := fun a' w' hC' hm' =>
        ih (pre ++ post) (listed.setIfInBounds j true) a' w' hlen' hsort' hmem' (by simpa using hsz) hcl' hC' hm'
      unfold wpOp
      simp only [hoj]
      rcases pull hs hoj post pre a w hC hap hm with ⟨v, hv, k⟩ | ⟨-, hW, k⟩
      · rcases hv with ⟨hW, hr⟩ | ⟨hW, rfl⟩
        · rw [if_pos (show Region.wanted _ _ = true from hW)]
          refine .inl ?_
          unfold Oper.wp
          rw [hr w hC]
          exact next _ _ hC k
        · rw [if_neg (by unfold Wanted at hW; rw [hW]; exact Bool.false_ne_true)]
          exact next _ _ hC k
      · rw [if_pos (show Region.wanted _ _ = true from hW)]
        exact .inl (wp_of_Eff (fun v w' hk => next _ _ hk.1 hk.2) k)

/-- A region whose order is drawn, run in the order of its text. -/
theorem region_drawn {id : Nat} {l : List Oper} {Q : Exit → Act → World → Prop} {a : Act} {w : World} (hm : P.follows .mixedOrders = true) (hok : regionOk l E = true)
    (hC : C { w with drawn := w.drawn + 1 }) (h : Mix P l.toArray C E (fun a w => Q .normal a w) (List.range l.length) a { w with drawn := w.drawn + 1 }) :
    (Code.region id l.toArray true).wp P Q a w := by
  refine wp_region_any hm ?_
  have := any_of_mix (P := P) (C := C) (Q := Q) hok l.length (List.range l.length) (Array.replicate l.length false) a { w with drawn := w.drawn + 1 } (by simp) List.pairwise_lt_range
    (fun i => by
      rw [List.mem_range]
      constructor
      · intro hi
        refine ⟨hi, ?_⟩
        rw [Array.getD_eq_getD_getElem?, Array.getElem?_eq_getElem (by simpa using hi)]
        simp
      · exact fun hi => hi.1)
    (by simp) (fun k o _ hk e _ _ => by
      exfalso
      by_cases hlt : k < l.length
      · simp [Array.getD_eq_getD_getElem?, hlt] at hk
      · simp [Array.getD_eq_getD_getElem?, hlt] at hk) hC h
  simpa using this

/-- A region whose order is the text's. -/
theorem wpOps_of_mix {ops : Array Oper} {Q : Exit → Act → World → Prop} : ∀ (L : List Nat) (a : Act) (w : World),
    Mix P ops (fun _ => True) (fun _ => true) (fun a w => Q .normal a w) L a w → wpOps P ops Q L a w
  | [], _, _, h => h
  | i :: L, a, w, h => by
    obtain ⟨o, ho, h⟩ := h
    unfold wpOps
    simp only [ho]
    rcases h with ⟨v, hv, k⟩ | ⟨-, hW, k⟩
    · rcases hv with ⟨hW, hr⟩ | ⟨hW, rfl⟩
      · rw [if_pos (show Region.wanted _ _ = true from hW)]
        refine .inl ?_
        unfold Oper.wp
        rw [hr w trivial]
        exact wpOps_of_mix L _ _ k
      · rw [if_neg (by unfold Wanted at hW; rw [hW]; exact Bool.false_ne_true)]
        exact wpOps_of_mix L _ _ k
    · rw [if_pos (show Region.wanted _ _ = true from hW)]
      exact .inl (wp_of_Eff (fun v w' hk => wpOps_of_mix L _ _ hk.2) k)

theorem region_plain {id : Nat} {l : List Oper} {Q : Exit → Act → World → Prop} {a : Act} {w : World}
    (h : Mix P l.toArray (fun _ => True) (fun _ => true) (fun a w => Q .normal a w) (List.range l.length) a w) : (Code.region id l.toArray false).wp P Q a w :=
  wp_region (by simpa using wpOps_of_mix _ _ _ h)

end order
end Go.Den

/- Own calculus, part B: frames as short lists, worlds as their heaps, and one rule for each kind of code and operation. No condition. -/
namespace Go.Den
set_option linter.unusedVariables false
set_option maxRecDepth 8000
open Go Go.RowKit

abbrev Fr := List (Nat × Value)
abbrev Hp := Array Obj

def look : Fr → Nat → Option Value
  | [], _ => none
  | (j, v) :: l, i => bif Nat.beq i j then some v else look l i

def ev (l : Fr) : Operand → Option Value
  | .tmp t => look l t
  | .const v => some v
  | .global g => some (.pointer (some ⟨g, 0, none⟩))
  | .func f => some (.func (.func f) #[] #[])

def evs (l : Fr) : List Operand → Option (List Value)
  | [] => some []
  | x :: xs => match ev l x, evs l xs with
    | some v, some vs => some (v :: vs)
    | _, _ => none

structure Fits (l : Fr) (n : Nat) (a : Act) : Prop where
  size : a.tmps.size = n
  slots : ∀ i v, look l i = some v → a.tmps[i]? = some v
  defers : a.defers = []

theorem Fits.ev {l : Fr} {n : Nat} {a : Act} {x : Operand} {v : Value} (h : Fits l n a) (e : ev l x = some v) : a.eval x = v := by
  cases x with
  | tmp t => have := h.slots t v e; simp [Act.eval, this]
  | const u => simpa [Den.ev, Act.eval] using e
  | global g => simpa [Den.ev, Act.eval] using e
  | func f => simpa [Den.ev, Act.eval] using e

theorem Fits.evs {l : Fr} {n : Nat} {a : Act} (h : Fits l n a) : ∀ {xs : List Operand} {vs : List Value}, evs l xs = some vs → xs.map a.eval = vs
  | [], vs, e => by simp [Den.evs] at e; simp [e]
  | x :: xs, vs, e => by
    simp only [Den.evs] at e
    split at e
    · rename_i v vs' h1 h2
      cases e
      simp [h.ev h1, h.evs h2]
    · cases e

theorem Fits.put {l : Fr} {n : Nat} {a : Act} (h : Fits l n a) (d : Nat) (v : Value) (hd : Nat.blt d n = true) : Fits ((d, v) :: l) n (a.put (some d) v) := by
  have hd' : d < n := Nat.le_of_ble_eq_true hd
  refine ⟨by simp [Act.put, h.size], fun i u hu => ?_, h.defers⟩
  simp only [look] at hu
  cases hi : Nat.beq i d with
  | true =>
    have := Nat.eq_of_beq_eq_true hi
    subst this
    rw [hi] at hu
    simp only [cond_true] at hu
    cases hu
    simp only [Act.put]
    rw [Array.getElem?_setIfInBounds_self_of_lt (by rw [h.size]; exact hd')]
  | false =>
    rw [hi] at hu
    simp only [cond_false] at hu
    have hne : d ≠ i := fun e => by subst e; simp at hi
    simp only [Act.put]
    rw [Array.getElem?_setIfInBounds_ne hne]
    exact h.slots i u hu

theorem Fits.putNone {l : Fr} {n : Nat} {a : Act} (h : Fits l n a) (v : Value) : Fits l n (a.put none v) := h

/-- What is known of l' is known of l. -/
def Sub (l' l : Fr) : Prop := ∀ i v, look l' i = some v → look l i = some v
theorem Sub.nil (l : Fr) : Sub [] l := fun i v h => by cases h
theorem Sub.refl (l : Fr) : Sub l l := fun _ _ h => h
theorem Sub.cons {l' l : Fr} {i : Nat} {v : Value} (h : look l i = some v) (k : Sub l' l) : Sub ((i, v) :: l') l := fun j u hu => by
  simp only [look] at hu
  cases hj : Nat.beq j i with
  | true =>
    have := Nat.eq_of_beq_eq_true hj
    subst this
    rw [hj] at hu
    simp only [cond_true] at hu
    rw [h]; exact hu
  | false => rw [hj] at hu; exact k j u hu
theorem Sub.consE {l' l : Fr} {i : Nat} {u v : Value} (h : look l i = some u) (e : u = v) (k : Sub l' l) : Sub ((i, v) :: l') l := Sub.cons (by rw [h, e]) k
theorem Fits.sub {l' l : Fr} {n : Nat} {a : Act} (h : Fits l n a) (k : Sub l' l) : Fits l' n a := ⟨h.size, fun i v hv => h.slots i v (k i v hv), h.defers⟩
theorem Fits.know {l : Fr} {n : Nat} {a : Act} (h : Fits l n a) {t : Nat} {v : Value} (e : look l t = some v) {u : Value} (hu : v = u) : Fits ((t, u) :: l) n a :=
  h.sub (Sub.cons (by rw [e, hu]) (Sub.refl l))

/-! ### Code by its parts (so that no goal shows the code itself) -/

def bodyOf (fn : Func) : Code := fn.body.getD .skip
def cL : Code → Code
  | .seq a _ => a
  | .cond _ a _ => a
  | .block _ a => a
  | .loop a => a
  | .scope a => a
  | c => c
def cR : Code → Code
  | .seq _ b => b
  | .cond _ _ b => b
  | c => c
/-- What a code is: told by a number. -/
inductive Tag where
  | skip | seq | cond (x : Operand) | block (id : Nat) | loop | exit (id : Nat) | ret | label | region (draw : Bool) | other
def tagOf : Code → Tag
  | .skip => .skip
  | .seq .. => .seq
  | .cond x _ _ => .cond x
  | .block id _ => .block id
  | .loop _ => .loop
  | .exit id => .exit id
  | .ret => .ret
  | .label _ => .label
  | .region _ _ d => .region d
  | _ => .other
def opsOf : Code → List Oper
  | .region _ ops _ => ops.toList
  | _ => []
def opAt : List Oper → Nat → Option Oper
  | [], _ => none
  | o :: _, 0 => some o
  | _ :: os, k + 1 => opAt os k
theorem opAt_eq : ∀ (os : List Oper) (k : Nat), opAt os k = os[k]?
  | [], k => by simp [opAt]
  | o :: os, 0 => rfl
  | o :: os, k + 1 => by simp only [opAt, List.getElem?_cons_succ]; exact opAt_eq os k

/-- Does an operation act on the heap? -/
def actsOp : Op → Bool
  | .alloc _ | .box _ _ | .buildSlice .. | .store .. | .makeMap .. | .makeSlice .. | .mapUpdate .. | .insert .. => true
  | .call c => match c.callee with
    | .builtin .append | .builtin .copy | .builtin .delete | .builtin .clear => true
    | .builtin _ => false
    | _ => true
  | _ => false
def effB (ops : List Oper) (i : Nat) : Bool := match opAt ops i with
  | some o => actsOp o.op
  | none => false

/-! ### Worlds by their heaps -/

/-- The rest of the world is as it was. -/
def Oth (w w' : World) : Prop := w'.os = w.os ∧ w'.tape = w.tape ∧ w'.output = w.output
theorem Oth.refl (w : World) : Oth w w := ⟨rfl, rfl, rfl⟩
theorem Oth.trans {a b c : World} (h : Oth a b) (k : Oth b c) : Oth a c := ⟨k.1.trans h.1, k.2.1.trans h.2.1, k.2.2.trans h.2.2⟩

/-- Nothing that was there has changed. -/
def Ext (h h' : Hp) : Prop := h.size ≤ h'.size ∧ ∀ k, k < h.size → h'[k]? = h[k]?
theorem Ext.refl (h : Hp) : Ext h h := ⟨Nat.le_refl _, fun _ _ => rfl⟩
theorem Ext.trans {a b c : Hp} (h : Ext a b) (k : Ext b c) : Ext a c :=
  ⟨Nat.le_trans h.1 k.1, fun i hi => (k.2 i (Nat.lt_of_lt_of_le hi h.1)).trans (h.2 i hi)⟩
theorem Ext.push (h : Hp) (o : Obj) : Ext h (h.push o) := ⟨by simp, fun k hk => by rw [Array.getElem?_push, if_neg (by omega)]⟩
theorem Ext.below {w w' : World} (h : Ext w.heap w'.heap) (k : Oth w w') : Below w.heap.size w w' := ⟨k.1, k.2.1, k.2.2, h.1, h.2⟩

/-- A call over a heap: it returns, and what it returns and leaves is told by R. -/
def CallsH (P : Program) (f : FuncId) (args : List Value) (h : Hp) (R : Value → Hp → Prop) : Prop :=
  ∀ w, w.heap = h → Calls P f args.toArray w fun e w' => ∃ v, e = .returned v ∧ R v w'.heap ∧ Oth w w'

theorem CallsH.mono {P : Program} {f : FuncId} {args : List Value} {h : Hp} {R R' : Value → Hp → Prop} (c : CallsH P f args h R) (k : ∀ v h', R v h' → R' v h') : CallsH P f args h R' :=
  fun w hw => (c w hw).mono fun _ _ ⟨v, he, hr, ho⟩ => ⟨v, he, k _ _ hr, ho⟩

abbrev Post := Exit → Fr → Hp → Prop

/-- What is asked at an exit, behind a name that the unifier does not open. -/
structure At (Q : Post) (e : Exit) (l : Fr) (h : Hp) : Prop where mk ::
  get : Q e l h

def lift (n : Nat) (Q : Post) (w0 : World) : Exit → Act → World → Prop := fun e a w => ∃ l, Fits l n a ∧ Q e l w.heap ∧ Oth w0 w

/-- The code, from a frame and a heap of which this is known. -/
structure W (P : Program) (n : Nat) (c : Code) (Q : Post) (l : Fr) (h : Hp) : Prop where mk ::
  run : ∀ a w, Fits l n a → w.heap = h → c.wp P (lift n Q w) a w

section rules
variable {P : Program} {n : Nat} {Q : Post} {l : Fr} {h : Hp}

theorem lift_mono {Q' : Post} {w0 w1 : World} (ho : Oth w0 w1) (hq : ∀ e l h, Q e l h → Q' e l h) {e : Exit} {a : Act} {w : World} (k : lift n Q w1 e a w) : lift n Q' w0 e a w := by
  obtain ⟨l, h1, h2, h3⟩ := k
  exact ⟨l, h1, hq _ _ _ h2, ho.trans h3⟩

theorem w_sub {c : Code} {l' : Fr} (hl : Sub l' l) (k : W P n c Q l' h) : W P n c Q l h := W.mk fun a w hf hw => k.run a w (hf.sub hl) hw

theorem w_skip {c : Code} (hc : tagOf c = .skip) (k : At Q .normal l h) : W P n c Q l h := by
  cases c <;> first | cases hc | skip
  exact W.mk fun a w hf hw => wp_skip ⟨l, hf, by rw [hw]; exact k.get, Oth.refl w⟩
theorem w_label {c : Code} (hc : tagOf c = .label) (k : At Q .normal l h) : W P n c Q l h := by
  cases c <;> first | cases hc | skip
  exact W.mk fun a w hf hw => wp_label ⟨l, hf, by rw [hw]; exact k.get, Oth.refl w⟩
theorem w_exit {c : Code} {id : Nat} (hc : tagOf c = .exit id) (k : At Q (.exit id) l h) : W P n c Q l h := by
  cases c <;> cases hc
  exact W.mk fun a w hf hw => wp_exit ⟨l, hf, by rw [hw]; exact k.get, Oth.refl w⟩
theorem w_ret {c : Code} (hc : tagOf c = .ret) (k : At Q .ret l h) : W P n c Q l h := by
  cases c <;> first | cases hc | skip
  exact W.mk fun a w hf hw => wp_ret ⟨l, hf, by rw [hw]; exact k.get, Oth.refl w⟩

def Then (P : Program) (n : Nat) (y : Code) (Q : Post) : Post
  | .normal, l, h => W P n y Q l h
  | e, l, h => Q e l h

/-- A sequence whose first part is no loop, and no block round one. -/
def plainSeq : Code → Bool
  | .seq (.block _ (.loop _)) _ => false
  | .seq (.loop _) _ => false
  | .seq _ _ => true
  | _ => false

theorem w_seqB {c : Code} (hc : tagOf c = .seq) (k : W P n (cL c) (Then P n (cR c) Q) l h) : W P n c Q l h := W.mk fun a w hf hw => by
  cases c <;> first | cases hc | skip
  rename_i x y
  change W P n x (Then P n y Q) l h at k
  refine wp_seq (wp_mono (k.run a w hf hw) fun e a' w' hq => ?_)
  obtain ⟨l', h1, h2, h3⟩ := hq
  cases e with
  | normal => exact wp_mono (h2.run a' w' h1 rfl) fun e a w hk => lift_mono h3 (fun _ _ _ h => h) hk
  | exit id => exact ⟨l', h1, h2, h3⟩
  | goto l => exact ⟨l', h1, h2, h3⟩
  | ret => exact ⟨l', h1, h2, h3⟩
  | panic c => exact ⟨l', h1, h2, h3⟩
  | outgrown => exact ⟨l', h1, h2, h3⟩

theorem w_seq {c : Code} (hc : plainSeq c = true) (k : W P n (cL c) (Then P n (cR c) Q) l h) : W P n c Q l h := by
  refine w_seqB ?_ k
  cases c <;> first | rfl | cases hc

theorem then_normal {y : Code} (k : W P n y Q l h) : At (Then P n y Q) .normal l h := ⟨k⟩
theorem then_exit {y : Code} {id : Nat} (k : At Q (.exit id) l h) : At (Then P n y Q) (.exit id) l h := ⟨k.get⟩
theorem then_ret {y : Code} (k : At Q .ret l h) : At (Then P n y Q) .ret l h := ⟨k.get⟩

def InB (id : Nat) (Q : Post) : Post
  | .exit id', l, h => if id' = id then Q .normal l h else Q (.exit id') l h
  | e, l, h => Q e l h

theorem w_block {b : Code} {id : Nat} (hc : tagOf b = .block id) (k : W P n (cL b) (InB id Q) l h) : W P n b Q l h := W.mk fun a w hf hw => by
  cases b <;> cases hc
  rename_i c
  change W P n c (InB id Q) l h at k
  refine wp_block (wp_mono (k.run a w hf hw) fun e a' w' hq => ?_)
  obtain ⟨l', h1, h2, h3⟩ := hq
  cases e with
  | exit id' =>
    simp only [InB] at h2
    simp only [Exit.inBlock]
    split
    · rename_i he; rw [if_pos he] at h2; exact ⟨l', h1, h2, h3⟩
    · rename_i he; rw [if_neg he] at h2; exact ⟨l', h1, h2, h3⟩
  | normal => exact ⟨l', h1, h2, h3⟩
  | goto l => exact ⟨l', h1, h2, h3⟩
  | ret => exact ⟨l', h1, h2, h3⟩
  | panic c => exact ⟨l', h1, h2, h3⟩
  | outgrown => exact ⟨l', h1, h2, h3⟩

theorem inb_normal {id : Nat} (k : At Q .normal l h) : At (InB id Q) .normal l h := ⟨k.get⟩
theorem inb_ret {id : Nat} (k : At Q .ret l h) : At (InB id Q) .ret l h := ⟨k.get⟩
theorem inb_here {id : Nat} (k : At Q .normal l h) : At (InB id Q) (.exit id) l h := ⟨by simp only [InB]; rw [if_pos trivial]; exact k.get⟩
theorem inb_past {id id' : Nat} (hne : Nat.beq id' id = false) (k : At Q (.exit id') l h) : At (InB id Q) (.exit id') l h := ⟨by
  simp only [InB]; rw [if_neg (fun e => by subst e; simp at hne)]; exact k.get⟩

theorem w_cond {c : Code} {x : Operand} {b : Bool} (hc : tagOf c = .cond x) (hx : ev l x = some (.bool b)) (ht : b = true → W P n (cL c) Q l h) (hf : b = false → W P n (cR c) Q l h) : W P n c Q l h := by
  cases c <;> cases hc
  exact W.mk fun a w hfit hw => wp_cond_split (hfit.ev hx) (fun e => (ht e).run a w hfit hw) (fun e => (hf e).run a w hfit hw)
theorem w_cond_true {c : Code} {x : Operand} (hc : tagOf c = .cond x) (hx : ev l x = some (.bool true)) (k : W P n (cL c) Q l h) : W P n c Q l h := w_cond hc hx (fun _ => k) (fun e => by cases e)
theorem w_cond_false {c : Code} {x : Operand} (hc : tagOf c = .cond x) (hx : ev l x = some (.bool false)) (k : W P n (cR c) Q l h) : W P n c Q l h := w_cond hc hx (fun e => by cases e) (fun _ => k)
theorem w_condD {c : Code} {x : Operand} {p : Prop} {d : Decidable p} (hc : tagOf c = .cond x) (hx : ev l x = some (.bool (decide p))) (ht : p → W P n (cL c) Q l h) (hf : ¬ p → W P n (cR c) Q l h) : W P n c Q l h :=
  w_cond hc hx (fun e => ht (of_decide_eq_true e)) (fun e => hf (of_decide_eq_false e))
theorem w_condT {c : Code} {x : Operand} {p : Prop} {d : Decidable p} (hc : tagOf c = .cond x) (hx : ev l x = some (.bool (decide p))) (hp : p) (k : W P n (cL c) Q l h) : W P n c Q l h := w_condD hc hx (fun _ => k) (fun e => absurd hp e)
theorem w_condF {c : Code} {x : Operand} {p : Prop} {d : Decidable p} (hc : tagOf c = .cond x) (hx : ev l x = some (.bool (decide p))) (hp : ¬ p) (k : W P n (cR c) Q l h) : W P n c Q l h := w_condD hc hx (fun e => absurd e hp) (fun _ => k)

/-- A cut: what is known behind the first part. -/
def Cut {σ : Type} (F : σ → Fr) (D : σ → Hp → Prop) (Q : Post) : Post
  | .normal, l, h => ∃ s, Sub (F s) l ∧ D s h
  | e, l, h => Q e l h
theorem cut_normal {σ : Type} {F : σ → Fr} {D : σ → Hp → Prop} (s : σ) (h1 : Sub (F s) l) (h2 : D s h) : At (Cut F D Q) .normal l h := ⟨⟨s, h1, h2⟩⟩
theorem cut_exit {σ : Type} {F : σ → Fr} {D : σ → Hp → Prop} {id : Nat} (k : At Q (.exit id) l h) : At (Cut F D Q) (.exit id) l h := ⟨k.get⟩
theorem cut_ret {σ : Type} {F : σ → Fr} {D : σ → Hp → Prop} (k : At Q .ret l h) : At (Cut F D Q) .ret l h := ⟨k.get⟩
theorem w_cut {σ : Type} {c : Code} (hc : tagOf c = .seq) (F : σ → Fr) (D : σ → Hp → Prop) (k : W P n (cL c) (Cut F D Q) l h) (k2 : ∀ s h', D s h' → W P n (cR c) Q (F s) h') : W P n c Q l h :=
  w_seqB hc <| W.mk fun a w hf hw => wp_mono (k.run a w hf hw) fun e a' w' hq => by
    obtain ⟨l', h1, h2, h3⟩ := hq
    cases e with
    | normal =>
      obtain ⟨s, g1, g2⟩ := h2
      exact ⟨F s, h1.sub g1, k2 s _ g2, h3⟩
    | exit id => exact ⟨l', h1, h2, h3⟩
    | goto l => exact ⟨l', h1, h2, h3⟩
    | ret => exact ⟨l', h1, h2, h3⟩
    | panic c => exact ⟨l', h1, h2, h3⟩
    | outgrown => exact ⟨l', h1, h2, h3⟩

/-- A loop: F a frame for each state of the ghost, D what is known of the heap. -/
def Again {σ : Type} (Q : Post) (F : σ → Fr) (D : σ → Hp → Prop) (μ : σ → Nat) (s : σ) : Post
  | .normal, l, h => ∃ s', Sub (F s') l ∧ D s' h ∧ μ s' < μ s
  | e, l, h => Q e l h

theorem again_normal {σ : Type} {F : σ → Fr} {D : σ → Hp → Prop} {μ : σ → Nat} {s : σ} (s' : σ) (h1 : Sub (F s') l) (h2 : D s' h) (h3 : μ s' < μ s) : At (Again Q F D μ s) .normal l h := ⟨⟨s', h1, h2, h3⟩⟩
theorem again_exit {σ : Type} {F : σ → Fr} {D : σ → Hp → Prop} {μ : σ → Nat} {s : σ} {id : Nat} (k : At Q (.exit id) l h) : At (Again Q F D μ s) (.exit id) l h := ⟨k.get⟩
theorem again_ret {σ : Type} {F : σ → Fr} {D : σ → Hp → Prop} {μ : σ → Nat} {s : σ} (k : At Q .ret l h) : At (Again Q F D μ s) .ret l h := ⟨k.get⟩

theorem w_loop {σ : Type} {b : Code} (hc : tagOf b = .loop) (F : σ → Fr) (D : σ → Hp → Prop) (μ : σ → Nat) (s0 : σ) (h0 : Sub (F s0) l) (d0 : D s0 h)
    (round : ∀ s h, D s h → W P n (cL b) (Again Q F D μ s) (F s) h) : W P n b Q l h := W.mk fun a w hf hw => by
  cases b <;> first | cases hc | skip
  rename_i c
  change ∀ s h, D s h → W P n c (Again Q F D μ s) (F s) h at round
  have key : ∀ m s a' w', μ s < m → Fits (F s) n a' → D s w'.heap → Oth w w' → Code.rounds P c (lift n Q w) m a' w' := by
    intro m
    induction m with
    | zero => intro s a' w' hm; exact absurd hm (Nat.not_lt_zero _)
    | succ m ih =>
      intro s a' w' hm hfs hd ho
      rw [rounds_succ]
      refine wp_mono ((round s w'.heap hd).run a' w' hfs rfl) fun e a2 w2 hq => ?_
      obtain ⟨l2, g1, g2, g3⟩ := hq
      cases e with
      | normal =>
        obtain ⟨s', q1, q2, q3⟩ := g2
        exact ih s' a2 w2 (by omega) (g1.sub q1) q2 (ho.trans g3)
      | exit id => exact ⟨l2, g1, g2, ho.trans g3⟩
      | goto l => exact ⟨l2, g1, g2, ho.trans g3⟩
      | ret => exact ⟨l2, g1, g2, ho.trans g3⟩
      | panic c => exact ⟨l2, g1, g2, ho.trans g3⟩
      | outgrown => exact ⟨l2, g1, g2, ho.trans g3⟩
  exact wp_loop_rounds (μ s0 + 1) (key (μ s0 + 1) s0 a w (by omega) (hf.sub h0) (by rw [hw]; exact d0) (Oth.refl w))

def nth : List Value → Nat → Option Value
  | [], _ => none
  | v :: _, 0 => some v
  | _ :: vs, i + 1 => nth vs i
theorem nth_eq : ∀ (vs : List Value) (i : Nat), nth vs i = vs[i]?
  | [], i => by simp [nth]
  | v :: vs, 0 => rfl
  | v :: vs, i + 1 => by simp only [nth, List.getElem?_cons_succ]; exact nth_eq vs i

/-! ### Regions -/

/-- What is left of a region's operations, from number k on. Ch: what is known of the heap in whatever order; E: which operations may act. -/
structure S (P : Program) (n : Nat) (ops : List Oper) (Ch : Hp → Prop) (E : Nat → Bool) (Q : Post) (k : Nat) (l : Fr) (h : Hp) : Prop where mk ::
  run : ∀ a w w0, Fits l n a → w.heap = h → Oth w0 w →
    Mix P ops.toArray (fun w' => Oth w0 w' ∧ Ch w'.heap) E (fun a w' => lift n Q w0 .normal a w') (List.range' k (ops.length - k)) a w

theorem wpOps_of_mix' {ops : Array Oper} {C : World → Prop} {E : Nat → Bool} {Q : Exit → Act → World → Prop} : ∀ (L : List Nat) (a : Act) (w : World), C w →
    Mix P ops C E (fun a w => Q .normal a w) L a w → wpOps P ops Q L a w
  | [], _, _, _, h => h
  | i :: L, a, w, hc, h => by
    obtain ⟨o, ho, h⟩ := h
    unfold wpOps
    simp only [ho]
    rcases h with ⟨v, hv, k⟩ | ⟨-, hW, k⟩
    · rcases hv with ⟨hW, hr⟩ | ⟨hW, rfl⟩
      · rw [if_pos (show Region.wanted _ _ = true from hW)]
        refine .inl ?_
        unfold Oper.wp
        rw [hr w hc]
        exact wpOps_of_mix' L _ _ hc k
      · rw [if_neg (by unfold Wanted at hW; rw [hW]; exact Bool.false_ne_true)]
        exact wpOps_of_mix' L _ _ hc k
    · rw [if_pos (show Region.wanted _ _ = true from hW)]
      exact .inl (wp_of_Eff (fun v w' hk => wpOps_of_mix' L _ _ hk.1 hk.2) k)

theorem r_plain {c : Code} (hc : tagOf c = .region false) (k : S P n (opsOf c) (fun _ => True) (fun _ => true) Q 0 l h) : W P n c Q l h := W.mk fun a w hf hw => by
  cases c <;> cases hc
  rename_i id ops
  refine wp_region ?_
  have := wpOps_of_mix' (Q := lift n Q w) _ a w ⟨Oth.refl w, trivial⟩ (k.run a w w hf hw (Oth.refl w))
  rw [Nat.sub_zero, ← List.range_eq_range'] at this
  simpa [opsOf] using this

theorem r_drawn {c : Code} (Ch : Hp → Prop) (E : Nat → Bool) (hc : tagOf c = .region true) (hm : P.follows .mixedOrders = true) (hok : regionOk (opsOf c) E = true) (hC : Ch h)
    (k : S P n (opsOf c) Ch E Q 0 l h) : W P n c Q l h := W.mk fun a w hf hw => by
  cases c <;> cases hc
  rename_i id ops
  have := region_drawn (id := id) (l := ops.toList) (E := E) (Q := lift n Q w) (C := fun w' => Oth w w' ∧ Ch w'.heap) hm hok ⟨⟨rfl, rfl, rfl⟩, by rw [← hw] at hC; exact hC⟩ (a := a) (by
    have := k.run a { w with drawn := w.drawn + 1 } w hf hw ⟨rfl, rfl, rfl⟩
    rw [Nat.sub_zero, ← List.range_eq_range'] at this
    exact this)
  simpa using this

/-- .. where what acts is found by its kind. -/
theorem r_drawnA {c : Code} (hc : tagOf c = .region true) (hm : P.follows .mixedOrders = true) (hok : regionOk (opsOf c) (effB (opsOf c)) = true)
    (k : S P n (opsOf c) (fun _ => True) (effB (opsOf c)) Q 0 l h) : W P n c Q l h := r_drawn (fun _ => True) (effB (opsOf c)) hc hm hok trivial k

section ops
variable {ops : List Oper} {Ch : Hp → Prop} {E : Nat → Bool} {i : Nat}

theorem s_nil (hk : opAt ops i = none) (k : At Q .normal l h) : S P n ops Ch E Q i l h := S.mk fun a w w0 hf hw ho => by
  rw [opAt_eq, List.getElem?_eq_none_iff] at hk
  rw [Nat.sub_eq_zero_of_le hk]
  exact ⟨l, hf, by rw [hw]; exact k.get, ho⟩

theorem s_step {o : Oper} (ho : opAt ops i = some o) : ops.toArray[i]? = some o ∧ List.range' i (ops.length - i) = i :: List.range' (i + 1) (ops.length - (i + 1)) := by
  rw [opAt_eq] at ho
  have hlt := (List.getElem?_eq_some_iff.1 ho).1
  refine ⟨by simpa using ho, ?_⟩
  rw [show ops.length - i = (ops.length - (i + 1)) + 1 by omega, List.range'_succ]

/-- May the operation run? (none: its guard is not known.) -/
def gd (ops : List Oper) (l : Fr) (g : Option (Nat × Bool)) : Option Bool :=
  match g with
  | none => some true
  | some (j, want) => match (ops[j]?).bind (·.dst) with
    | some t => match look l t with
      | some (.bool b) => some (b == want)
      | some (.tuple _) => some false
      | _ => none
    | none => none

theorem gd_wanted {o : Oper} {a : Act} {b : Bool} (hf : Fits l n a) (hg : gd ops l o.guard = some b) : Wanted ops.toArray o a = b := by
  unfold Wanted Region.wanted
  unfold gd at hg
  cases hgo : o.guard with
  | none => rw [hgo] at hg; simpa using hg
  | some p =>
    obtain ⟨j, want⟩ := p
    rw [hgo] at hg
    simp only at hg ⊢
    cases ht : (ops[j]?).bind (·.dst) with
    | none => rw [ht] at hg; cases hg
    | some t =>
      rw [ht] at hg
      simp only at hg
      cases hl : look l t with
      | none => rw [hl] at hg; cases hg
      | some v =>
        rw [hl] at hg
        have hj : (ops.toArray[j]?).bind (·.dst) = some t := by simpa using ht
        cases v <;> simp only at hg <;> try cases hg
        case some.some.some.bool.refl b' =>
          have := hf.slots t _ hl
          simp only [yielded, hj, Option.bind_some, this]
          cases b' <;> cases want <;> rfl
        case some.some.some.tuple.refl =>
          have := hf.slots t _ hl
          simp only [yielded, hj, Option.bind_some, this]
          rfl

theorem s_stable {o : Oper} {v : Value} {l' : Fr} (ho : opAt ops i = some o) (hg : gd ops l o.guard = some true) (hv : ∀ a w', Fits l n a → Ch w'.heap → (execOp a.eval o).run P w' = .ok (.value v) w')
    (hl : ∀ a, Fits l n a → Fits l' n (a.put o.dst v)) (k : S P n ops Ch E Q (i + 1) l' h) : S P n ops Ch E Q i l h := S.mk fun a w w0 hf hw hoth => by
  obtain ⟨h1, h2⟩ := s_step ho
  rw [h2]
  exact ⟨o, h1, .inl ⟨v, .inl ⟨gd_wanted hf hg, fun w' hc => hv a w' hf hc.2⟩, k.run _ w w0 (hl a hf) hw hoth⟩⟩

theorem s_skip {d : Nat} {op : Op} {ty : TypeId} {ps : String} {af : Array Edge} {g : Option (Nat × Bool)} (ho : opAt ops i = some ⟨some d, op, ty, ps, af, g⟩) (hg : gd ops l g = some false) (hb : Nat.blt d n = true)
    (k : S P n ops Ch E Q (i + 1) ((d, undef) :: l) h) : S P n ops Ch E Q i l h := S.mk fun a w w0 hf hw hoth => by
  obtain ⟨h1, h2⟩ := s_step ho
  rw [h2]
  exact ⟨_, h1, .inl ⟨undef, .inr ⟨gd_wanted hf hg, rfl⟩, k.run _ w w0 (hf.put d undef hb) hw hoth⟩⟩

theorem s_skip0 {op : Op} {ty : TypeId} {ps : String} {af : Array Edge} {g : Option (Nat × Bool)} (ho : opAt ops i = some ⟨none, op, ty, ps, af, g⟩) (hg : gd ops l g = some false)
    (k : S P n ops Ch E Q (i + 1) l h) : S P n ops Ch E Q i l h := S.mk fun a w w0 hf hw hoth => by
  obtain ⟨h1, h2⟩ := s_step ho
  rw [h2]
  exact ⟨_, h1, .inl ⟨undef, .inr ⟨gd_wanted hf hg, rfl⟩, k.run _ w w0 hf hw hoth⟩⟩

theorem s_eff {o : Oper} (ho : opAt ops i = some o) (hE : E i = true) (hg : gd ops l o.guard = some true)
    (k : ∀ a w, Fits l n a → w.heap = h → Eff P o a w fun v w' => Oth w w' ∧ Ch w'.heap ∧ ∃ l', Fits l' n (a.put o.dst v) ∧ S P n ops Ch E Q (i + 1) l' w'.heap) :
    S P n ops Ch E Q i l h := S.mk fun a w w0 hf hw hoth => by
  obtain ⟨h1, h2⟩ := s_step ho
  rw [h2]
  refine ⟨o, h1, .inr ⟨hE, gd_wanted hf hg, Eff_mono (fun v w' hk => ?_) (k a w hf hw)⟩⟩
  obtain ⟨g1, g2, l', g3, g4⟩ := hk
  exact ⟨⟨hoth.trans g1, g2⟩, g4.run _ w' w0 g3 rfl (hoth.trans g1)⟩

/-- A test's outcome is written into its slot. -/
theorem s_know {t : Nat} {v u : Value} (e : look l t = some v) (hu : v = u) (k : S P n ops Ch E Q i ((t, u) :: l) h) : S P n ops Ch E Q i l h :=
  S.mk fun a w w0 hf hw ho => k.run a w w0 (hf.know e hu) hw ho
theorem s_sub {l' : Fr} (hl : Sub l' l) (k : S P n ops Ch E Q i l' h) : S P n ops Ch E Q i l h := S.mk fun a w w0 hf hw ho => k.run a w w0 (hf.sub hl) hw ho
theorem w_know {c : Code} {t : Nat} {v u : Value} (e : look l t = some v) (hu : v = u) (k : W P n c Q ((t, u) :: l) h) : W P n c Q l h := W.mk fun a w hf hw => k.run a w (hf.know e hu) hw

/-- The test in the slot t is decided: by cases. -/
theorem s_split (t : Nat) {p : Prop} {d : Decidable p} (e : look l t = some (.bool (decide p))) (ht : p → S P n ops Ch E Q i ((t, .bool true) :: l) h) (hf : ¬ p → S P n ops Ch E Q i ((t, .bool false) :: l) h) :
    S P n ops Ch E Q i l h := by
  by_cases hp : p
  · exact s_know e (by rw [decide_eq_true hp]) (ht hp)
  · exact s_know e (by rw [decide_eq_false hp]) (hf hp)
theorem s_yes (t : Nat) {p : Prop} {d : Decidable p} (e : look l t = some (.bool (decide p))) (hp : p) (k : S P n ops Ch E Q i ((t, .bool true) :: l) h) : S P n ops Ch E Q i l h :=
  s_know e (by rw [decide_eq_true hp]) k
theorem s_no (t : Nat) {p : Prop} {d : Decidable p} (e : look l t = some (.bool (decide p))) (hp : ¬ p) (k : S P n ops Ch E Q i ((t, .bool false) :: l) h) : S P n ops Ch E Q i l h :=
  s_know e (by rw [decide_eq_false hp]) k

/-- A test just made is decided. -/
theorem s_yesH {t : Nat} {p : Prop} {d : Decidable p} (hp : p) (k : S P n ops Ch E Q i ((t, .bool true) :: l) h) : S P n ops Ch E Q i ((t, .bool (decide p)) :: l) h := by
  rw [decide_eq_true hp]; exact k
theorem s_noH {t : Nat} {p : Prop} {d : Decidable p} (hp : ¬ p) (k : S P n ops Ch E Q i ((t, .bool false) :: l) h) : S P n ops Ch E Q i ((t, .bool (decide p)) :: l) h := by
  rw [decide_eq_false hp]; exact k

/-- The operation number i, which is to run. -/
structure O (P : Program) (n : Nat) (ops : List Oper) (Ch : Hp → Prop) (E : Nat → Bool) (Q : Post) (i d : Nat) (op : Op) (l : Fr) (h : Hp) : Prop where mk ::
  get : ∀ {ty : TypeId} {ps : String} {af : Array Edge} {g : Option (Nat × Bool)}, opAt ops i = some ⟨some d, op, ty, ps, af, g⟩ → gd ops l g = some true → S P n ops Ch E Q i l h

theorem s_op {d : Nat} {op : Op} {ty : TypeId} {ps : String} {af : Array Edge} {g : Option (Nat × Bool)} (ho : opAt ops i = some ⟨some d, op, ty, ps, af, g⟩) (hg : gd ops l g = some true) (k : O P n ops Ch E Q i d op l h) : S P n ops Ch E Q i l h := k.get ho hg

/-- An operation that computes: the same in every world. -/
theorem s_pure {d : Nat} {op : Op} {v : Value} (hb : Nat.blt d n = true)
    (hv : ∀ {ty : TypeId} {ps : String} {af : Array Edge} {g : Option (Nat × Bool)} a w', Fits l n a → (execOp a.eval ⟨some d, op, ty, ps, af, g⟩).run P w' = .ok (.value v) w')
    (k : S P n ops Ch E Q (i + 1) ((d, v) :: l) h) : O P n ops Ch E Q i d op l h :=
  O.mk fun ho hg => s_stable ho hg (fun a w' hf _ => hv a w' hf) (fun a hf => hf.put d v hb) k

section pure
variable {d : Nat} {t : TypeId} {x y z : Operand} {v : Value} {yt : TypeId}

theorem s_move (hx : ev l x = some v) (hb : Nat.blt d n = true) (k : S P n ops Ch E Q (i + 1) ((d, v) :: l) h) : O P n ops Ch E Q i d (.move x) l h :=
  s_pure hb (fun a w' hf => by rw [← hf.ev hx]; rfl) k
theorem s_assign (hx : ev l x = some v) (hb : Nat.blt d n = true) (k : S P n ops Ch E Q (i + 1) ((d, v) :: l) h) : O P n ops Ch E Q i d (.assign x) l h :=
  s_pure hb (fun a w' hf => by rw [← hf.ev hx]; rfl) k

theorem s_bin {op : BinOp} {vx vy : Value} (hx : ev l x = some vx) (hy : ev l y = some vy) (hb : Nat.blt d n = true)
    (hv : ∀ w', (do eqGuard op t x y vx vy; binOp op t vx vy : Sem Value).run P w' = .ok v w') (k : S P n ops Ch E Q (i + 1) ((d, v) :: l) h) : O P n ops Ch E Q i d (.binOp op t x y yt) l h :=
  s_pure hb (fun a w' hf => by
    have hv' := hv w'
    rw [← hf.ev hx, ← hf.ev hy] at hv'
    show ((do eqGuard op t x y (a.eval x) (a.eval y); binOp op t (a.eval x) (a.eval y) : Sem Value) >>= fun u => pure (Next.value u)).run P w' = _
    rw [Sem.run_bind, hv']; rfl) k

theorem s_pickT {vy : Value} (hx : ev l x = some (.bool true)) (hy : ev l y = some vy) (hb : Nat.blt d n = true) (k : S P n ops Ch E Q (i + 1) ((d, vy) :: l) h) : O P n ops Ch E Q i d (.pick x y z) l h :=
  s_pure hb (fun a w' hf => by rw [← hf.ev hy]; simp only [execOp, hf.ev hx]; rfl) k
theorem s_pickF {vz : Value} (hx : ev l x = some (.bool false)) (hz : ev l z = some vz) (hb : Nat.blt d n = true) (k : S P n ops Ch E Q (i + 1) ((d, vz) :: l) h) : O P n ops Ch E Q i d (.pick x y z) l h :=
  s_pure hb (fun a w' hf => by rw [← hf.ev hz]; simp only [execOp, hf.ev hx]; rfl) k

theorem s_not {b : Bool} (hx : ev l x = some (.bool b)) (hb : Nat.blt d n = true) (k : S P n ops Ch E Q (i + 1) ((d, .bool (!b)) :: l) h) : O P n ops Ch E Q i d (.unOp .not t x) l h :=
  s_pure hb (fun a w' hf => by simp only [execOp, hf.ev hx]; rfl) k

theorem s_extract {vs : List Value} {j : Nat} (hx : ev l x = some (.tuple vs.toArray)) (hj : nth vs j = some v) (hb : Nat.blt d n = true) (k : S P n ops Ch E Q (i + 1) ((d, v) :: l) h) : O P n ops Ch E Q i d (.extract x j) l h :=
  s_pure hb (fun a w' hf => by rw [nth_eq] at hj; simp [execOp, hf.ev hx, Instr.extract, hj]) k

end pure
end ops
end rules
end Go.Den

/- Own calculus, part C: arithmetic on uint64 and int, conversions, calls, entry and return. No condition. -/
namespace Go.Den
set_option linter.unusedVariables false
set_option maxRecDepth 8000
open Go Go.RowKit

abbrev U (x : Nat) : Value := .int .u64 (x : Int)
abbrev I (x : Int) : Value := .int .i64 x

theorem wrapU (n : Nat) : IntKind.u64.wrap (n : Int) = ((n % 18446744073709551616 : Nat) : Int) := by rw [IntKind.wrap_u64]; omega
theorem wrapU_in (n : Nat) (h : n < 18446744073709551616) : IntKind.u64.wrap (n : Int) = (n : Int) := by rw [IntKind.wrap_u64]; omega
theorem wrapI_in (n : Int) (h : -9223372036854775808 ≤ n ∧ n < 9223372036854775808) : IntKind.i64.wrap n = n := by rw [IntKind.wrap_i64]; omega

theorem tdiv_bd (a b : Int) (hb : 0 < b) (h : -9223372036854775808 ≤ a ∧ a < 9223372036854775808) : -9223372036854775808 ≤ a.tdiv b ∧ a.tdiv b < 9223372036854775808 := by
  have h1 := Int.natAbs_tdiv_le_natAbs a b
  rcases Int.le_total 0 a with h0 | h0
  · have := Int.tdiv_nonneg h0 (Int.le_of_lt hb); omega
  · have h2 : 0 ≤ (-a).tdiv b := Int.tdiv_nonneg (by omega) (Int.le_of_lt hb)
    rw [Int.neg_tdiv] at h2; omega

theorem fdivN (a c : Nat) : (a : Int).fdiv ((2 : Int) ^ c) = ((a / 2 ^ c : Nat) : Int) := by
  rw [show ((2 : Int) ^ c) = ((2 ^ c : Nat) : Int) by simp, ← Int.ofNat_fdiv]

/-- An operand's value as a natural number. -/
structure IsK (o : Option Value) (k : IntKind) (b : Nat) : Prop where mk ::
  h : o = some (.int k (b : Int))
theorem isK_c {l : Fr} {k : IntKind} {c : Nat} : IsK (ev l (.const (.int k (OfNat.ofNat c : Int)))) k (OfNat.ofNat c : Nat) := ⟨rfl⟩
theorem isK_t {l : Fr} {k : IntKind} {t b : Nat} (h : look l t = some (.int k (b : Int))) : IsK (ev l (.tmp t)) k b := ⟨h⟩

section
variable {P : Program} {n : Nat} {Q : Post} {l : Fr} {h : Hp} {ops : List Oper} {Ch : Hp → Prop} {E : Nat → Bool} {i : Nat}
variable {d : Nat} {t : TypeId} {x y z : Operand} {yt : TypeId}

/-! ### uint64, as natural numbers -/
section u64
variable {a b : Nat}

theorem s_moveUc {c : Nat} (hb : Nat.blt d n = true) (k : S P n ops Ch E Q (i + 1) ((d, U (OfNat.ofNat c : Nat)) :: l) h) : O P n ops Ch E Q i d (.move (.const (.int .u64 (OfNat.ofNat c : Int)))) l h :=
  s_move rfl hb k
theorem s_assignUc {c : Nat} (hb : Nat.blt d n = true) (k : S P n ops Ch E Q (i + 1) ((d, U (OfNat.ofNat c : Nat)) :: l) h) : O P n ops Ch E Q i d (.assign (.const (.int .u64 (OfNat.ofNat c : Int)))) l h :=
  s_assign rfl hb k

theorem s_addU (hx : IsK (ev l x) .u64 a) (hy : IsK (ev l y) .u64 b) (hb : Nat.blt d n = true) (hn : a + b < 18446744073709551616)
    (k : S P n ops Ch E Q (i + 1) ((d, U (a + b)) :: l) h) : O P n ops Ch E Q i d (.binOp .add t x y yt) l h :=
  s_bin hx.h hy.h hb (fun w' => by
    show Result.ok (Value.int .u64 (IntKind.u64.wrap ((a : Int) + b))) w' = _
    rw [← Int.natCast_add, wrapU_in _ hn]) k
theorem s_addUw (hx : IsK (ev l x) .u64 a) (hy : IsK (ev l y) .u64 b) (hb : Nat.blt d n = true)
    (k : S P n ops Ch E Q (i + 1) ((d, U ((a + b) % 18446744073709551616)) :: l) h) : O P n ops Ch E Q i d (.binOp .add t x y yt) l h :=
  s_bin hx.h hy.h hb (fun w' => by
    show Result.ok (Value.int .u64 (IntKind.u64.wrap ((a : Int) + b))) w' = _
    rw [← Int.natCast_add, wrapU]) k
theorem s_subU (hx : IsK (ev l x) .u64 a) (hy : IsK (ev l y) .u64 b) (hb : Nat.blt d n = true) (hn : b ≤ a ∧ a < 18446744073709551616)
    (k : S P n ops Ch E Q (i + 1) ((d, U (a - b)) :: l) h) : O P n ops Ch E Q i d (.binOp .sub t x y yt) l h :=
  s_bin hx.h hy.h hb (fun w' => by
    show Result.ok (Value.int .u64 (IntKind.u64.wrap ((a : Int) - b))) w' = _
    rw [← Int.ofNat_sub hn.1, wrapU_in _ (by omega)]) k
theorem s_subUw (hx : IsK (ev l x) .u64 a) (hy : IsK (ev l y) .u64 b) (hb : Nat.blt d n = true) (hn : b ≤ 18446744073709551616)
    (k : S P n ops Ch E Q (i + 1) ((d, U ((a + (18446744073709551616 - b)) % 18446744073709551616)) :: l) h) : O P n ops Ch E Q i d (.binOp .sub t x y yt) l h :=
  s_bin hx.h hy.h hb (fun w' => by
    show Result.ok (Value.int .u64 (IntKind.u64.wrap ((a : Int) - b))) w' = _
    rw [IntKind.wrap_u64]; congr 2; omega) k
theorem s_mulU (hx : IsK (ev l x) .u64 a) (hy : IsK (ev l y) .u64 b) (hb : Nat.blt d n = true) (hn : a * b < 18446744073709551616)
    (k : S P n ops Ch E Q (i + 1) ((d, U (a * b)) :: l) h) : O P n ops Ch E Q i d (.binOp .mul t x y yt) l h :=
  s_bin hx.h hy.h hb (fun w' => by
    show Result.ok (Value.int .u64 (IntKind.u64.wrap ((a : Int) * b))) w' = _
    rw [← Int.natCast_mul, wrapU_in _ hn]) k
theorem s_mulUw (hx : IsK (ev l x) .u64 a) (hy : IsK (ev l y) .u64 b) (hb : Nat.blt d n = true)
    (k : S P n ops Ch E Q (i + 1) ((d, U (a * b % 18446744073709551616)) :: l) h) : O P n ops Ch E Q i d (.binOp .mul t x y yt) l h :=
  s_bin hx.h hy.h hb (fun w' => by
    show Result.ok (Value.int .u64 (IntKind.u64.wrap ((a : Int) * b))) w' = _
    rw [← Int.natCast_mul, wrapU]) k
theorem s_quoU (hx : IsK (ev l x) .u64 a) (hy : IsK (ev l y) .u64 b) (hb : Nat.blt d n = true) (hn : 0 < b ∧ a < 18446744073709551616)
    (k : S P n ops Ch E Q (i + 1) ((d, U (a / b)) :: l) h) : O P n ops Ch E Q i d (.binOp .quo t x y yt) l h :=
  s_bin hx.h hy.h hb (fun w' => by
    show (Op.intDiv .quo .u64 (a : Int) (b : Int)).run P w' = _
    unfold Op.intDiv
    rw [if_neg (by omega)]
    show Result.ok (Value.int .u64 (IntKind.u64.wrap ((a : Int).tdiv b))) w' = _
    rw [← Int.ofNat_tdiv, wrapU_in _ (Nat.lt_of_le_of_lt (Nat.div_le_self a b) hn.2)]) k
theorem s_remU (hx : IsK (ev l x) .u64 a) (hy : IsK (ev l y) .u64 b) (hb : Nat.blt d n = true) (hn : 0 < b)
    (k : S P n ops Ch E Q (i + 1) ((d, U (a % b)) :: l) h) : O P n ops Ch E Q i d (.binOp .rem t x y yt) l h :=
  s_bin hx.h hy.h hb (fun w' => by
    show (Op.intDiv .rem .u64 (a : Int) (b : Int)).run P w' = _
    unfold Op.intDiv
    rw [if_neg (by omega)]
    show Result.ok (Value.int .u64 ((a : Int).tmod b)) w' = _
    rw [← Int.ofNat_tmod]) k
theorem s_andU (hx : IsK (ev l x) .u64 a) (hy : IsK (ev l y) .u64 b) (hb : Nat.blt d n = true) (hn : a < 18446744073709551616 ∧ b < 18446744073709551616)
    (k : S P n ops Ch E Q (i + 1) ((d, U (a &&& b)) :: l) h) : O P n ops Ch E Q i d (.binOp .and t x y yt) l h :=
  s_bin hx.h hy.h hb (fun w' => by
    show Result.ok (Value.int .u64 (bits .and .u64 (a : Int) b)) w' = _
    rw [bits_and_u64_nat _ _ hn.1 hn.2]) k
theorem s_orU (hx : IsK (ev l x) .u64 a) (hy : IsK (ev l y) .u64 b) (hb : Nat.blt d n = true) (hn : a < 18446744073709551616 ∧ b < 18446744073709551616)
    (k : S P n ops Ch E Q (i + 1) ((d, U (a ||| b)) :: l) h) : O P n ops Ch E Q i d (.binOp .or t x y yt) l h :=
  s_bin hx.h hy.h hb (fun w' => by
    show Result.ok (Value.int .u64 (bits .or .u64 (a : Int) b)) w' = _
    rw [bits_or_u64_nat _ _ hn.1 hn.2]) k
theorem s_xorU (hx : IsK (ev l x) .u64 a) (hy : IsK (ev l y) .u64 b) (hb : Nat.blt d n = true) (hn : a < 18446744073709551616 ∧ b < 18446744073709551616)
    (k : S P n ops Ch E Q (i + 1) ((d, U (a ^^^ b)) :: l) h) : O P n ops Ch E Q i d (.binOp .xor t x y yt) l h :=
  s_bin hx.h hy.h hb (fun w' => by
    show Result.ok (Value.int .u64 (bits .xor .u64 (a : Int) b)) w' = _
    rw [bits_xor_u64_nat _ _ hn.1 hn.2]) k
theorem s_shlU {yk : IntKind} {c : Nat} (hx : IsK (ev l x) .u64 a) (hy : IsK (ev l y) yk c) (hb : Nat.blt d n = true) (hn : c ≤ 64)
    (k : S P n ops Ch E Q (i + 1) ((d, U (a * 2 ^ c % 18446744073709551616)) :: l) h) : O P n ops Ch E Q i d (.binOp .shl t x y yt) l h :=
  s_bin hx.h hy.h hb (fun w' => by
    show (Op.shift .shl .u64 (a : Int) yk (c : Int)).run P w' = _
    unfold Op.shift
    rw [if_neg (by omega)]
    show Result.ok (Value.int .u64 (IntKind.u64.wrap ((a : Int) * 2 ^ (min (c : Int).toNat 64)))) w' = _
    rw [show min (c : Int).toNat 64 = c by omega, show ((a : Int) * 2 ^ c) = ((a * 2 ^ c : Nat) : Int) by simp, wrapU]) k
theorem s_shrU {yk : IntKind} {c : Nat} (hx : IsK (ev l x) .u64 a) (hy : IsK (ev l y) yk c) (hb : Nat.blt d n = true) (hn : c ≤ 64)
    (k : S P n ops Ch E Q (i + 1) ((d, U (a / 2 ^ c)) :: l) h) : O P n ops Ch E Q i d (.binOp .shr t x y yt) l h :=
  s_bin hx.h hy.h hb (fun w' => by
    show (Op.shift .shr .u64 (a : Int) yk (c : Int)).run P w' = _
    unfold Op.shift
    rw [if_neg (by omega)]
    show Result.ok (Value.int .u64 ((a : Int).fdiv (2 ^ (min (c : Int).toNat 64)))) w' = _
    rw [show min (c : Int).toNat 64 = c by omega, fdivN]) k
theorem s_negU (hx : IsK (ev l x) .u64 a) (hb : Nat.blt d n = true) (hn : a ≤ 18446744073709551616)
    (k : S P n ops Ch E Q (i + 1) ((d, U ((18446744073709551616 - a) % 18446744073709551616)) :: l) h) : O P n ops Ch E Q i d (.unOp .neg t x) l h :=
  s_pure hb (fun A w' hf => by
    simp only [execOp, hf.ev hx.h]
    show Result.ok (Next.value (Value.int .u64 (IntKind.u64.wrap (0 - (a : Int))))) w' = _
    rw [IntKind.wrap_u64]; congr 3; omega) k
theorem s_eqU (hx : IsK (ev l x) .u64 a) (hy : IsK (ev l y) .u64 b) (hb : Nat.blt d n = true)
    (k : S P n ops Ch E Q (i + 1) ((d, .bool (decide (a = b))) :: l) h) : O P n ops Ch E Q i d (.binOp .eql t x y yt) l h :=
  s_bin hx.h hy.h hb (fun w' => by
    show Result.ok (Value.bool ((a : Int) == (b : Int))) w' = _
    congr 2; rw [Bool.eq_iff_iff]; simp; omega) k
theorem s_neU (hx : IsK (ev l x) .u64 a) (hy : IsK (ev l y) .u64 b) (hb : Nat.blt d n = true)
    (k : S P n ops Ch E Q (i + 1) ((d, .bool (decide (a ≠ b))) :: l) h) : O P n ops Ch E Q i d (.binOp .neq t x y yt) l h :=
  s_bin hx.h hy.h hb (fun w' => by
    show Result.ok (Value.bool ((a : Int) != (b : Int))) w' = _
    congr 2; rw [Bool.eq_iff_iff]; simp; omega) k
theorem s_ltU (hx : IsK (ev l x) .u64 a) (hy : IsK (ev l y) .u64 b) (hb : Nat.blt d n = true)
    (k : S P n ops Ch E Q (i + 1) ((d, .bool (decide (a < b))) :: l) h) : O P n ops Ch E Q i d (.binOp .lss t x y yt) l h :=
  s_bin hx.h hy.h hb (fun w' => by
    show Result.ok (Value.bool (decide ((a : Int) < (b : Int)))) w' = _
    congr 2; rw [Bool.eq_iff_iff]; simp) k
theorem s_leU (hx : IsK (ev l x) .u64 a) (hy : IsK (ev l y) .u64 b) (hb : Nat.blt d n = true)
    (k : S P n ops Ch E Q (i + 1) ((d, .bool (decide (a ≤ b))) :: l) h) : O P n ops Ch E Q i d (.binOp .leq t x y yt) l h :=
  s_bin hx.h hy.h hb (fun w' => by
    show Result.ok (Value.bool (decide ((a : Int) ≤ (b : Int)))) w' = _
    congr 2; rw [Bool.eq_iff_iff]; simp) k
theorem s_gtU (hx : IsK (ev l x) .u64 a) (hy : IsK (ev l y) .u64 b) (hb : Nat.blt d n = true)
    (k : S P n ops Ch E Q (i + 1) ((d, .bool (decide (b < a))) :: l) h) : O P n ops Ch E Q i d (.binOp .gtr t x y yt) l h :=
  s_bin hx.h hy.h hb (fun w' => by
    show Result.ok (Value.bool (decide ((a : Int) > (b : Int)))) w' = _
    congr 2; rw [Bool.eq_iff_iff]; simp) k
theorem s_geU (hx : IsK (ev l x) .u64 a) (hy : IsK (ev l y) .u64 b) (hb : Nat.blt d n = true)
    (k : S P n ops Ch E Q (i + 1) ((d, .bool (decide (b ≤ a))) :: l) h) : O P n ops Ch E Q i d (.binOp .geq t x y yt) l h :=
  s_bin hx.h hy.h hb (fun w' => by
    show Result.ok (Value.bool (decide ((a : Int) ≥ (b : Int)))) w' = _
    congr 2; rw [Bool.eq_iff_iff]; simp) k
end u64

/-! ### int, as whole numbers -/
section i64
variable {a b : Int}

theorem s_addI (hx : ev l x = some (I a)) (hy : ev l y = some (I b)) (hb : Nat.blt d n = true) (hn : -9223372036854775808 ≤ a + b ∧ a + b < 9223372036854775808)
    (k : S P n ops Ch E Q (i + 1) ((d, I (a + b)) :: l) h) : O P n ops Ch E Q i d (.binOp .add t x y yt) l h :=
  s_bin hx hy hb (fun w' => by
    show Result.ok (Value.int .i64 (IntKind.i64.wrap (a + b))) w' = _
    rw [wrapI_in _ hn]) k
theorem s_addIw (hx : ev l x = some (I a)) (hy : ev l y = some (I b)) (hb : Nat.blt d n = true)
    (k : S P n ops Ch E Q (i + 1) ((d, I (IntKind.i64.wrap (a + b))) :: l) h) : O P n ops Ch E Q i d (.binOp .add t x y yt) l h :=
  s_bin hx hy hb (fun _ => rfl) k
theorem s_subI (hx : ev l x = some (I a)) (hy : ev l y = some (I b)) (hb : Nat.blt d n = true) (hn : -9223372036854775808 ≤ a - b ∧ a - b < 9223372036854775808)
    (k : S P n ops Ch E Q (i + 1) ((d, I (a - b)) :: l) h) : O P n ops Ch E Q i d (.binOp .sub t x y yt) l h :=
  s_bin hx hy hb (fun w' => by
    show Result.ok (Value.int .i64 (IntKind.i64.wrap (a - b))) w' = _
    rw [wrapI_in _ hn]) k
theorem s_subIw (hx : ev l x = some (I a)) (hy : ev l y = some (I b)) (hb : Nat.blt d n = true)
    (k : S P n ops Ch E Q (i + 1) ((d, I (IntKind.i64.wrap (a - b))) :: l) h) : O P n ops Ch E Q i d (.binOp .sub t x y yt) l h :=
  s_bin hx hy hb (fun _ => rfl) k
theorem s_mulI (hx : ev l x = some (I a)) (hy : ev l y = some (I b)) (hb : Nat.blt d n = true) (hn : -9223372036854775808 ≤ a * b ∧ a * b < 9223372036854775808)
    (k : S P n ops Ch E Q (i + 1) ((d, I (a * b)) :: l) h) : O P n ops Ch E Q i d (.binOp .mul t x y yt) l h :=
  s_bin hx hy hb (fun w' => by
    show Result.ok (Value.int .i64 (IntKind.i64.wrap (a * b))) w' = _
    rw [wrapI_in _ hn]) k
theorem s_mulIw (hx : ev l x = some (I a)) (hy : ev l y = some (I b)) (hb : Nat.blt d n = true)
    (k : S P n ops Ch E Q (i + 1) ((d, I (IntKind.i64.wrap (a * b))) :: l) h) : O P n ops Ch E Q i d (.binOp .mul t x y yt) l h :=
  s_bin hx hy hb (fun _ => rfl) k
theorem s_quoI (hx : ev l x = some (I a)) (hy : ev l y = some (I b)) (hb : Nat.blt d n = true) (hn : 0 < b ∧ -9223372036854775808 ≤ a ∧ a < 9223372036854775808)
    (k : S P n ops Ch E Q (i + 1) ((d, I (a.tdiv b)) :: l) h) : O P n ops Ch E Q i d (.binOp .quo t x y yt) l h :=
  s_bin hx hy hb (fun w' => by
    show (Op.intDiv .quo .i64 a b).run P w' = _
    unfold Op.intDiv
    rw [if_neg (by omega)]
    show Result.ok (Value.int .i64 (IntKind.i64.wrap (a.tdiv b))) w' = _
    rw [wrapI_in _ (tdiv_bd a b hn.1 hn.2)]) k
theorem s_remI (hx : ev l x = some (I a)) (hy : ev l y = some (I b)) (hb : Nat.blt d n = true) (hn : b ≠ 0)
    (k : S P n ops Ch E Q (i + 1) ((d, I (a.tmod b)) :: l) h) : O P n ops Ch E Q i d (.binOp .rem t x y yt) l h :=
  s_bin hx hy hb (fun w' => by
    show (Op.intDiv .rem .i64 a b).run P w' = _
    unfold Op.intDiv
    rw [if_neg hn]; rfl) k
theorem s_negI (hx : ev l x = some (I a)) (hb : Nat.blt d n = true) (hn : -9223372036854775808 < a ∧ a ≤ 9223372036854775808)
    (k : S P n ops Ch E Q (i + 1) ((d, I (-a)) :: l) h) : O P n ops Ch E Q i d (.unOp .neg t x) l h :=
  s_pure hb (fun A w' hf => by
    simp only [execOp, hf.ev hx]
    show Result.ok (Next.value (Value.int .i64 (IntKind.i64.wrap (0 - a)))) w' = _
    rw [wrapI_in _ (by omega)]; congr 3; omega) k
theorem s_eqI (hx : ev l x = some (I a)) (hy : ev l y = some (I b)) (hb : Nat.blt d n = true)
    (k : S P n ops Ch E Q (i + 1) ((d, .bool (decide (a = b))) :: l) h) : O P n ops Ch E Q i d (.binOp .eql t x y yt) l h :=
  s_bin hx hy hb (fun w' => by
    show Result.ok (Value.bool (a == b)) w' = _
    congr 2) k
theorem s_neI (hx : ev l x = some (I a)) (hy : ev l y = some (I b)) (hb : Nat.blt d n = true)
    (k : S P n ops Ch E Q (i + 1) ((d, .bool (decide (a ≠ b))) :: l) h) : O P n ops Ch E Q i d (.binOp .neq t x y yt) l h :=
  s_bin hx hy hb (fun w' => by
    show Result.ok (Value.bool (a != b)) w' = _
    congr 2; rw [Bool.eq_iff_iff]; simp) k
theorem s_ltI (hx : ev l x = some (I a)) (hy : ev l y = some (I b)) (hb : Nat.blt d n = true)
    (k : S P n ops Ch E Q (i + 1) ((d, .bool (decide (a < b))) :: l) h) : O P n ops Ch E Q i d (.binOp .lss t x y yt) l h :=
  s_bin hx hy hb (fun _ => rfl) k
theorem s_leI (hx : ev l x = some (I a)) (hy : ev l y = some (I b)) (hb : Nat.blt d n = true)
    (k : S P n ops Ch E Q (i + 1) ((d, .bool (decide (a ≤ b))) :: l) h) : O P n ops Ch E Q i d (.binOp .leq t x y yt) l h :=
  s_bin hx hy hb (fun _ => rfl) k
theorem s_gtI (hx : ev l x = some (I a)) (hy : ev l y = some (I b)) (hb : Nat.blt d n = true)
    (k : S P n ops Ch E Q (i + 1) ((d, .bool (decide (b < a))) :: l) h) : O P n ops Ch E Q i d (.binOp .gtr t x y yt) l h :=
  s_bin hx hy hb (fun _ => rfl) k
theorem s_geI (hx : ev l x = some (I a)) (hy : ev l y = some (I b)) (hb : Nat.blt d n = true)
    (k : S P n ops Ch E Q (i + 1) ((d, .bool (decide (b ≤ a))) :: l) h) : O P n ops Ch E Q i d (.binOp .geq t x y yt) l h :=
  s_bin hx hy hb (fun _ => rfl) k
end i64

/-! ### conversions between kinds of integers -/
theorem s_conv {src dst : TypeId} {k0 k1 : IntKind} {a : Int} {u : TypeDesc} (hx : ev l x = some (.int k0 a)) (hs : P.underlying src = some u) (hd : P.underlying dst = some (.int k1)) (hb : Nat.blt d n = true)
    (k : S P n ops Ch E Q (i + 1) ((d, .int k1 (k1.wrap a)) :: l) h) : O P n ops Ch E Q i d (.convert src dst x) l h :=
  s_pure hb (fun A w' hf => by
    simp only [execOp, hf.ev hx]
    simp [convert, underlying, hs, hd, Conv.intToInt, program, Sem.run]) k

theorem s_convU {src dst : TypeId} {k0 : IntKind} {a : Nat} {u : TypeDesc} (hx : IsK (ev l x) k0 a) (hs : P.underlying src = some u) (hd : P.underlying dst = some (.int .u64)) (hb : Nat.blt d n = true) (hn : a < 18446744073709551616)
    (k : S P n ops Ch E Q (i + 1) ((d, U a) :: l) h) : O P n ops Ch E Q i d (.convert src dst x) l h :=
  s_conv hx.h hs hd hb (by rw [wrapU_in _ hn]; exact k)
theorem s_convUN {src dst : TypeId} {k0 : IntKind} {a : Int} {u : TypeDesc} (m : Nat) (hx : ev l x = some (.int k0 a)) (hs : P.underlying src = some u) (hd : P.underlying dst = some (.int .u64)) (hb : Nat.blt d n = true) (ha : a = (m : Int)) (hn : m < 18446744073709551616)
    (k : S P n ops Ch E Q (i + 1) ((d, U m) :: l) h) : O P n ops Ch E Q i d (.convert src dst x) l h :=
  s_conv hx hs hd hb (by rw [ha, wrapU_in _ hn]; exact k)
theorem s_convUw {src dst : TypeId} {k0 : IntKind} {a : Int} {u : TypeDesc} (m : Nat) (hx : ev l x = some (.int k0 a)) (hs : P.underlying src = some u) (hd : P.underlying dst = some (.int .u64)) (hb : Nat.blt d n = true) (ha : a % 18446744073709551616 = (m : Int))
    (k : S P n ops Ch E Q (i + 1) ((d, U m) :: l) h) : O P n ops Ch E Q i d (.convert src dst x) l h :=
  s_conv hx hs hd hb (by rw [IntKind.wrap_u64, ha]; exact k)
theorem s_convI {src dst : TypeId} {k0 : IntKind} {a : Int} {u : TypeDesc} (hx : ev l x = some (.int k0 a)) (hs : P.underlying src = some u) (hd : P.underlying dst = some (.int .i64)) (hb : Nat.blt d n = true) (hn : -9223372036854775808 ≤ a ∧ a < 9223372036854775808)
    (k : S P n ops Ch E Q (i + 1) ((d, I a) :: l) h) : O P n ops Ch E Q i d (.convert src dst x) l h :=
  s_conv hx hs hd hb (by rw [wrapI_in _ hn]; exact k)
theorem s_shlU' {a : Nat} {yk : IntKind} {c : Nat} (hx : IsK (ev l x) .u64 a) (hy : IsK (ev l y) yk c) (hb : Nat.blt d n = true) (hn : c ≤ 64) (hm : a * 2 ^ c < 18446744073709551616)
    (k : S P n ops Ch E Q (i + 1) ((d, U (a * 2 ^ c)) :: l) h) : O P n ops Ch E Q i d (.binOp .shl t x y yt) l h :=
  s_shlU hx hy hb hn (by rw [Nat.mod_eq_of_lt hm]; exact k)

/-! ### calls -/

def Ent (P : Program) (f : FuncId) : Prop := ∀ args w, (callFunc f args).run P w = .ok (.enter f args) w

theorem ent_of {f : FuncId} {fn : Func} {c : Code} (hf : P.funcs[f]? = some fn) (hname : (fn.name == "runtime.NumGoroutine") = false) (hb : fn.body = some c) : Ent P f := by
  intro args w
  have h1 : fn.name ≠ "runtime.NumGoroutine" := by simpa using hname
  simp [callFunc, hf, h1, hb, program, Sem.run]

theorem run_static {ty : TypeId} {ps : String} {af : Array Edge} {g : Option (Nat × Bool)} {a : Act} {f : FuncId} {args : Array Operand} {at_ : Array TypeId} {w : World} : (execOp a.eval ⟨some d, .call ⟨.value (.func f), args, at_⟩, ty, ps, af, g⟩).run P w = (callFunc f (args.map a.eval)).run P w := by
  simp [execOp, resolve, Deferred.ofValue, Act.eval, invoke]

theorem s_call {f : FuncId} {args : List Operand} {at_ : Array TypeId} {vs : List Value} (he : Ent P f) (ha : evs l args = some vs) (hE : E i = true) (hb : Nat.blt d n = true)
    (k : CallsH P f vs h fun v h' => Ch h' ∧ S P n ops Ch E Q (i + 1) ((d, v) :: l) h') : O P n ops Ch E Q i d (.call ⟨.value (.func f), args.toArray, at_⟩) l h :=
  O.mk fun ho hg => s_eff ho hE hg fun a w hf hw => by
    unfold Eff
    rw [run_static, he]
    have : args.toArray.map a.eval = vs.toArray := by simp [hf.evs ha]
    rw [this]
    refine (k w hw).mono fun e w' hq => ?_
    obtain ⟨v, rfl, ⟨h1, h2⟩, h3⟩ := hq
    exact ⟨h3, h1, _, hf.put d v hb, h2⟩

/-- A call that the model answers itself. -/
theorem s_extern {f : FuncId} {args : List Operand} {at_ : Array TypeId} {vs : List Value} {v : Value} (he : ∀ w, (callFunc f vs.toArray).run P w = .ok (.value v) w) (ha : evs l args = some vs) (hb : Nat.blt d n = true)
    (k : S P n ops Ch E Q (i + 1) ((d, v) :: l) h) : O P n ops Ch E Q i d (.call ⟨.value (.func f), args.toArray, at_⟩) l h :=
  s_pure hb (fun a w' hf => by
    rw [run_static]
    have : args.toArray.map a.eval = vs.toArray := by simp [hf.evs ha]
    rw [this]; exact he w') k

end

/-! ### entry and return -/

def Fin (P : Program) (n : Nat) (fn : Func) (R : Value → Hp → Prop) : Post
  | .normal, l, h | .ret, l, h => ∃ v, (∀ a w, Fits l n a → w.heap = h → (results fn a.tmps).run P w = .ok v w) ∧ R v h
  | _, _, _ => False

def frm : Nat → List Value → Fr
  | _, [] => []
  | i, v :: vs => (i, v) :: frm (i + 1) vs

theorem look_frm : ∀ (vs : List Value) (i j : Nat) (v : Value), look (frm i vs) j = some v → i ≤ j ∧ vs[j - i]? = some v
  | [], _, _, _, e => by cases e
  | u :: vs, i, j, v, e => by
    simp only [frm, look] at e
    cases hj : Nat.beq j i with
    | true =>
      have := Nat.eq_of_beq_eq_true hj
      subst this
      rw [hj] at e
      simp only [cond_true] at e
      cases e
      simp
    | false =>
      rw [hj] at e
      obtain ⟨h1, h2⟩ := look_frm vs (i + 1) j v e
      refine ⟨by omega, ?_⟩
      rw [show j - i = (j - (i + 1)) + 1 by omega]
      simpa using h2

theorem enter {P : Program} {f : FuncId} {fn : Func} {n : Nat} {args : List Value} {h : Hp} {R : Value → Hp → Prop}
    (hf : P.funcs[f]? = some fn) (hb : fn.body.isSome = true) (hn : fn.ntmps = n) (ha : Nat.ble args.length n = true)
    (k : W P n (bodyOf fn) (Fin P n fn R) (frm 0 args) h) : CallsH P f args h R := fun w hw => by
  have ha' : args.length ≤ n := Nat.le_of_ble_eq_true ha
  obtain ⟨c, hc⟩ := Option.isSome_iff_exists.1 hb
  have hbc : bodyOf fn = c := by simp [bodyOf, hc]
  rw [hbc] at k
  refine calls_of_wp hf hc (wp_mono (k.run _ w ?_ hw) fun e a w' hq => ?_)
  · refine ⟨by simp [hn]; omega, fun i v hv => ?_, rfl⟩
    obtain ⟨-, h2⟩ := look_frm _ _ _ _ hv
    have hi : i < args.length := by
      have := (List.getElem?_eq_some_iff.1 h2).1
      simpa using this
    simp only [Nat.sub_zero] at h2 ⊢
    rw [Array.getElem?_append_left (by simpa using hi)]
    simpa using h2
  · obtain ⟨l, h1, h2, h3⟩ := hq
    cases e with
    | normal => obtain ⟨v, g1, g2⟩ := h2; exact ⟨h1.defers, v, g1 a w' h1 rfl, v, rfl, g2, h3⟩
    | ret => obtain ⟨v, g1, g2⟩ := h2; exact ⟨h1.defers, v, g1 a w' h1 rfl, v, rfl, g2, h3⟩
    | exit id => exact h2.elim
    | goto l => exact h2.elim
    | panic c => exact h2.elim
    | outgrown => exact h2.elim

section fin
variable {P : Program} {n : Nat} {fn : Func} {R : Value → Hp → Prop} {l : Fr} {h : Hp}
theorem fin1 {t : Nat} {v : Value} (hr : fn.results = #[.tmp t]) (hl : look l t = some v) (k : R v h) : At (Fin P n fn R) .ret l h :=
  ⟨⟨v, fun a w hf _ => by simp [results, hr, hf.slots t v hl], k⟩⟩
theorem fin2 {t u : Nat} {v v2 : Value} (hr : fn.results = #[.tmp t, .tmp u]) (hl : look l t = some v) (hl2 : look l u = some v2) (k : R (.tuple #[v, v2]) h) : At (Fin P n fn R) .ret l h :=
  ⟨⟨_, fun a w hf _ => by simp [results, hr, hf.slots t v hl, hf.slots u v2 hl2], k⟩⟩
theorem fin3 {t u s : Nat} {v v2 v3 : Value} (hr : fn.results = #[.tmp t, .tmp u, .tmp s]) (hl : look l t = some v) (hl2 : look l u = some v2) (hl3 : look l s = some v3) (k : R (.tuple #[v, v2, v3]) h) : At (Fin P n fn R) .ret l h :=
  ⟨⟨_, fun a w hf _ => by simp [results, hr, hf.slots t v hl, hf.slots u v2 hl2, hf.slots s v3 hl3], k⟩⟩
end fin

/-! ### A walk as far as it goes: the rules in turn, then what is left is handed back -/
structure Res (R : Prop) : Prop where mk ::
  get : R
theorem run {R G : Prop} (r : R) (k : Res R → G := by intro r; (repeat (first | (apply s_moveUc; exact rfl) | (apply s_move; exact rfl; exact rfl) | (apply s_assignUc; exact rfl) | (apply s_assign; exact rfl; exact rfl) | (apply s_extract; exact rfl; exact rfl; exact rfl) | (apply s_pickT; exact rfl; exact rfl; exact rfl) | (apply s_pickF; exact rfl; exact rfl; exact rfl) | (apply s_not; exact rfl; exact rfl) | (apply s_eqU; (first | exact isK_c | exact isK_t rfl); (first | exact isK_c | exact isK_t rfl); exact rfl) | (apply s_neU; (first | exact isK_c | exact isK_t rfl); (first | exact isK_c | exact isK_t rfl); exact rfl) | (apply s_ltU; (first | exact isK_c | exact isK_t rfl); (first | exact isK_c | exact isK_t rfl); exact rfl) | (apply s_leU; (first | exact isK_c | exact isK_t rfl); (first | exact isK_c | exact isK_t rfl); exact rfl) | (apply s_gtU; (first | exact isK_c | exact isK_t rfl); (first | exact isK_c | exact isK_t rfl); exact rfl) | (apply s_geU; (first | exact isK_c | exact isK_t rfl); (first | exact isK_c | exact isK_t rfl); exact rfl) | (apply s_eqI; exact rfl; exact rfl; exact rfl) | (apply s_neI; exact rfl; exact rfl; exact rfl) | (apply s_ltI; exact rfl; exact rfl; exact rfl) | (apply s_leI; exact rfl; exact rfl; exact rfl) | (apply s_gtI; exact rfl; exact rfl; exact rfl) | (apply s_geI; exact rfl; exact rfl; exact rfl) | (apply s_addI; exact rfl; exact rfl; exact rfl; (first | assumption | omega)) | (apply s_subI; exact rfl; exact rfl; exact rfl; (first | assumption | omega)) | (apply s_addU; (first | exact isK_c | exact isK_t rfl); (first | exact isK_c | exact isK_t rfl); exact rfl; (first | assumption | omega)) | (apply s_subU; (first | exact isK_c | exact isK_t rfl); (first | exact isK_c | exact isK_t rfl); exact rfl; (first | assumption | omega)) | (apply s_remU; (first | exact isK_c | exact isK_t rfl); (first | exact isK_c | exact isK_t rfl); exact rfl; (first | assumption | omega)) | (apply s_quoU; (first | exact isK_c | exact isK_t rfl); (first | exact isK_c | exact isK_t rfl); exact rfl; (first | assumption | omega)) | (apply s_mulU; (first | exact isK_c | exact isK_t rfl); (first | exact isK_c | exact isK_t rfl); exact rfl; (first | assumption | omega)) | (apply s_shlU'; (first | exact isK_c | exact isK_t rfl); (first | exact isK_c | exact isK_t rfl); exact rfl; (first | assumption | omega); (first | assumption | omega)) | (apply s_shlU; (first | exact isK_c | exact isK_t rfl); (first | exact isK_c | exact isK_t rfl); exact rfl; (first | assumption | omega)) | (apply s_shrU; (first | exact isK_c | exact isK_t rfl); (first | exact isK_c | exact isK_t rfl); exact rfl; (first | assumption | omega)) | (apply s_andU; (first | exact isK_c | exact isK_t rfl); (first | exact isK_c | exact isK_t rfl); exact rfl; (first | assumption | omega)) | (apply s_orU; (first | exact isK_c | exact isK_t rfl); (first | exact isK_c | exact isK_t rfl); exact rfl; (first | assumption | omega)) | (apply s_xorU; (first | exact isK_c | exact isK_t rfl); (first | exact isK_c | exact isK_t rfl); exact rfl; (first | assumption | omega)) | (apply s_negI; exact rfl; exact rfl; (first | assumption | omega)) | (apply s_negU; (first | exact isK_c | exact isK_t rfl); exact rfl; (first | assumption | omega)) | (apply s_convU; (first | exact isK_c | exact isK_t rfl); exact rfl; exact rfl; exact rfl; (first | assumption | omega)) | (apply s_convI; exact rfl; exact rfl; exact rfl; exact rfl; (first | assumption | omega)) | (apply s_op; exact rfl; exact rfl) | (apply s_skip; exact rfl; exact rfl; exact rfl) | (apply s_nil; exact rfl) | apply then_normal | apply then_ret | apply then_exit | apply inb_normal | apply inb_ret | apply inb_here | (apply inb_past; exact rfl) | apply again_exit | apply again_ret | apply cut_exit | apply cut_ret | (apply w_seq; exact rfl) | (apply r_plain; exact rfl) | (apply w_block; exact rfl) | (apply w_ret; exact rfl) | (apply w_cond_true; exact rfl; exact rfl) | (apply w_cond_false; exact rfl; exact rfl) | (apply w_exit; exact rfl) | (apply w_skip; exact rfl) | (apply w_label; exact rfl) | (apply r_drawnA; exact rfl; exact mixed; kernel_rfl))); exact r.get) : G := k ⟨r⟩
theorem runD {R G : Prop} (r : R) (k : Res R → G := by intro r; (repeat (first | (apply s_yesH; (first | assumption | omega)) | (apply s_noH; (first | assumption | omega)) | (apply s_moveUc; exact rfl) | (apply s_move; exact rfl; exact rfl) | (apply s_assignUc; exact rfl) | (apply s_assign; exact rfl; exact rfl) | (apply s_extract; exact rfl; exact rfl; exact rfl) | (apply s_pickT; exact rfl; exact rfl; exact rfl) | (apply s_pickF; exact rfl; exact rfl; exact rfl) | (apply s_not; exact rfl; exact rfl) | (apply s_eqU; (first | exact isK_c | exact isK_t rfl); (first | exact isK_c | exact isK_t rfl); exact rfl) | (apply s_neU; (first | exact isK_c | exact isK_t rfl); (first | exact isK_c | exact isK_t rfl); exact rfl) | (apply s_ltU; (first | exact isK_c | exact isK_t rfl); (first | exact isK_c | exact isK_t rfl); exact rfl) | (apply s_leU; (first | exact isK_c | exact isK_t rfl); (first | exact isK_c | exact isK_t rfl); exact rfl) | (apply s_gtU; (first | exact isK_c | exact isK_t rfl); (first | exact isK_c | exact isK_t rfl); exact rfl) | (apply s_geU; (first | exact isK_c | exact isK_t rfl); (first | exact isK_c | exact isK_t rfl); exact rfl) | (apply s_eqI; exact rfl; exact rfl; exact rfl) | (apply s_neI; exact rfl; exact rfl; exact rfl) | (apply s_ltI; exact rfl; exact rfl; exact rfl) | (apply s_leI; exact rfl; exact rfl; exact rfl) | (apply s_gtI; exact rfl; exact rfl; exact rfl) | (apply s_geI; exact rfl; exact rfl; exact rfl) | (apply s_addI; exact rfl; exact rfl; exact rfl; (first | assumption | omega)) | (apply s_subI; exact rfl; exact rfl; exact rfl; (first | assumption | omega)) | (apply s_addU; (first | exact isK_c | exact isK_t rfl); (first | exact isK_c | exact isK_t rfl); exact rfl; (first | assumption | omega)) | (apply s_subU; (first | exact isK_c | exact isK_t rfl); (first | exact isK_c | exact isK_t rfl); exact rfl; (first | assumption | omega)) | (apply s_remU; (first | exact isK_c | exact isK_t rfl); (first | exact isK_c | exact isK_t rfl); exact rfl; (first | assumption | omega)) | (apply s_quoU; (first | exact isK_c | exact isK_t rfl); (first | exact isK_c | exact isK_t rfl); exact rfl; (first | assumption | omega)) | (apply s_mulU; (first | exact isK_c | exact isK_t rfl); (first | exact isK_c | exact isK_t rfl); exact rfl; (first | assumption | omega)) | (apply s_shlU'; (first | exact isK_c | exact isK_t rfl); (first | exact isK_c | exact isK_t rfl); exact rfl; (first | assumption | omega); (first | assumption | omega)) | (apply s_shlU; (first | exact isK_c | exact isK_t rfl); (first | exact isK_c | exact isK_t rfl); exact rfl; (first | assumption | omega)) | (apply s_shrU; (first | exact isK_c | exact isK_t rfl); (first | exact isK_c | exact isK_t rfl); exact rfl; (first | assumption | omega)) | (apply s_andU; (first | exact isK_c | exact isK_t rfl); (first | exact isK_c | exact isK_t rfl); exact rfl; (first | assumption | omega)) | (apply s_orU; (first | exact isK_c | exact isK_t rfl); (first | exact isK_c | exact isK_t rfl); exact rfl; (first | assumption | omega)) | (apply s_xorU; (first | exact isK_c | exact isK_t rfl); (first | exact isK_c | exact isK_t rfl); exact rfl; (first | assumption | omega)) | (apply s_negI; exact rfl; exact rfl; (first | assumption | omega)) | (apply s_negU; (first | exact isK_c | exact isK_t rfl); exact rfl; (first | assumption | omega)) | (apply s_convU; (first | exact isK_c | exact isK_t rfl); exact rfl; exact rfl; exact rfl; (first | assumption | omega)) | (apply s_convI; exact rfl; exact rfl; exact rfl; exact rfl; (first | assumption | omega)) | (apply s_op; exact rfl; exact rfl) | (apply s_skip; exact rfl; exact rfl; exact rfl) | (apply s_nil; exact rfl) | apply then_normal | apply then_ret | apply then_exit | apply inb_normal | apply inb_ret | apply inb_here | (apply inb_past; exact rfl) | apply again_exit | apply again_ret | apply cut_exit | apply cut_ret | (apply w_seq; exact rfl) | (apply r_plain; exact rfl) | (apply w_block; exact rfl) | (apply w_ret; exact rfl) | (apply w_cond_true; exact rfl; exact rfl) | (apply w_cond_false; exact rfl; exact rfl) | (apply w_exit; exact rfl) | (apply w_skip; exact rfl) | (apply w_label; exact rfl) | (apply r_drawnA; exact rfl; exact mixed; kernel_rfl))); exact r.get) : G := k ⟨r⟩
theorem runS {R G : Prop} (r : R) (k : Res R → G := by intro r; (repeat (first | (apply s_moveUc; exact rfl) | (apply s_move; exact rfl; exact rfl) | (apply s_assignUc; exact rfl) | (apply s_assign; exact rfl; exact rfl) | (apply s_extract; exact rfl; exact rfl; exact rfl) | (apply s_pickT; exact rfl; exact rfl; exact rfl) | (apply s_pickF; exact rfl; exact rfl; exact rfl) | (apply s_not; exact rfl; exact rfl) | (apply s_eqU; (first | exact isK_c | exact isK_t rfl); (first | exact isK_c | exact isK_t rfl); exact rfl) | (apply s_neU; (first | exact isK_c | exact isK_t rfl); (first | exact isK_c | exact isK_t rfl); exact rfl) | (apply s_ltU; (first | exact isK_c | exact isK_t rfl); (first | exact isK_c | exact isK_t rfl); exact rfl) | (apply s_leU; (first | exact isK_c | exact isK_t rfl); (first | exact isK_c | exact isK_t rfl); exact rfl) | (apply s_gtU; (first | exact isK_c | exact isK_t rfl); (first | exact isK_c | exact isK_t rfl); exact rfl) | (apply s_geU; (first | exact isK_c | exact isK_t rfl); (first | exact isK_c | exact isK_t rfl); exact rfl) | (apply s_eqI; exact rfl; exact rfl; exact rfl) | (apply s_neI; exact rfl; exact rfl; exact rfl) | (apply s_ltI; exact rfl; exact rfl; exact rfl) | (apply s_leI; exact rfl; exact rfl; exact rfl) | (apply s_gtI; exact rfl; exact rfl; exact rfl) | (apply s_geI; exact rfl; exact rfl; exact rfl) | (apply s_op; exact rfl; exact rfl) | (apply s_skip; exact rfl; exact rfl; exact rfl) | (apply s_nil; exact rfl) | apply then_normal | apply then_ret | apply then_exit | apply inb_normal | apply inb_ret | apply inb_here | (apply inb_past; exact rfl) | apply again_exit | apply again_ret | apply cut_exit | apply cut_ret | (apply w_seq; exact rfl) | (apply r_plain; exact rfl) | (apply w_block; exact rfl) | (apply w_ret; exact rfl) | (apply w_cond_true; exact rfl; exact rfl) | (apply w_cond_false; exact rfl; exact rfl) | (apply w_exit; exact rfl) | (apply w_skip; exact rfl) | (apply w_label; exact rfl) | (apply r_drawnA; exact rfl; exact mixed; kernel_rfl))); exact r.get) : G := k ⟨r⟩
end Go.Den

/- Own calculus, part D: slices. Rows of cells, read and owned; what they are behind each change; one rule for each operation on them. No condition. -/
namespace Go.Den
set_option linter.unusedVariables false
set_option maxRecDepth 8000
open Go Go.RowKit

/-! ### Heaps -/

def cellH (h : Hp) (b o : Nat) : Option Value := match h[b]? with
  | some (.cells c _ _) => c[o]?
  | _ => none
theorem cell?_cellH (w : World) (b o : Nat) : w.cell? ⟨b, o, none⟩ = cellH w.heap b o := by
  unfold World.cell? cellH
  cases w.heap[b]? with
  | none => rfl
  | some o => cases o <;> rfl

/-- Nothing that was there has changed, but for one block. -/
def Only (r : Option Nat) (h h' : Hp) : Prop := h.size ≤ h'.size ∧ ∀ k, k < h.size → some k ≠ r → h'[k]? = h[k]?
theorem Ext.only {h h' : Hp} (e : Ext h h') (r : Option Nat) : Only r h h' := ⟨e.1, fun k hk _ => e.2 k hk⟩
theorem Only.ext {h h' : Hp} (e : Only none h h') : Ext h h' := ⟨e.1, fun k hk => e.2 k hk (by simp)⟩
theorem Only.refl (r : Option Nat) (h : Hp) : Only r h h := ⟨Nat.le_refl _, fun _ _ _ => rfl⟩
theorem Only.trans {r : Option Nat} {a b c : Hp} (h : Only r a b) (k : Only r b c) : Only r a c :=
  ⟨Nat.le_trans h.1 k.1, fun i hi hn => (k.2 i (Nat.lt_of_lt_of_le hi h.1) hn).trans (h.2 i hi hn)⟩
/-- What changed is none of the old blocks. -/
theorem Only.old {r : Option Nat} {h0 h h' : Hp} (o : Only r h h') (e : Ext h0 h) (hr : ∀ k, r = some k → h0.size ≤ k) : Ext h0 h' :=
  ⟨Nat.le_trans e.1 o.1, fun k hk => (o.2 k (Nat.lt_of_lt_of_le hk e.1) (fun q => by have := hr k q.symm; omega)).trans (e.2 k hk)⟩

theorem cellH_lt {h : Hp} {b o : Nat} {u : Value} (hc : cellH h b o = some u) : b < h.size := by
  unfold cellH at hc
  by_cases hb : b < h.size
  · exact hb
  · rw [Array.getElem?_eq_none (by omega)] at hc; cases hc
theorem cellH_only {r : Option Nat} {h h' : Hp} {b o : Nat} {u : Value} (e : Only r h h') (hne : some b ≠ r) (hc : cellH h b o = some u) : cellH h' b o = some u := by
  have := cellH_lt hc
  unfold cellH at hc ⊢
  rw [e.2 b this hne]; exact hc

/-- v reads as n elements, whose cells are cs. -/
def Sl (h : Hp) (v : Value) (n : Nat) (cs : List Value) : Prop :=
  ((∃ a c, v = .slice a 0 c ∧ (a = none → c = 0)) ∧ n = 0 ∧ cs = []) ∨ ∃ b o c, v = .slice (some ⟨b, o, none⟩) n c ∧ n ≤ c ∧ ∀ j u, cs[j]? = some u → cellH h b (o + j) = some u

theorem Sl.nil (h : Hp) : Sl h (.slice none 0 0) 0 [] := .inl ⟨⟨none, 0, rfl, fun _ => rfl⟩, rfl, rfl⟩
theorem Sl.empty (h : Hp) (a : Addr) (c : Nat) : Sl h (.slice (some a) 0 c) 0 [] := .inl ⟨⟨some a, c, rfl, fun e => by cases e⟩, rfl, rfl⟩
theorem Sl.only {r : Option Nat} {h h' : Hp} {v : Value} {n : Nat} {cs : List Value} (s : Sl h v n cs) (e : Only r h h') (hne : v.ownBlock = none ∨ v.ownBlock ≠ r) : Sl h' v n cs := by
  rcases s with s | ⟨b, o, c, rfl, hc, s⟩
  · exact .inl s
  · exact .inr ⟨b, o, c, rfl, hc, fun j u hu => cellH_only e (by simpa [Value.ownBlock] using hne) (s j u hu)⟩
theorem Sl.ext {h h' : Hp} {v : Value} {n : Nat} {cs : List Value} (s : Sl h v n cs) (e : Ext h h') : Sl h' v n cs := by
  rcases s with s | ⟨b, o, c, rfl, hc, s⟩
  · exact .inl s
  · exact .inr ⟨b, o, c, rfl, hc, fun j u hu => cellH_only (e.only none) (by simp) (s j u hu)⟩
theorem Sl.len {h : Hp} {v : Value} {n : Nat} {cs : List Value} (s : Sl h v n cs) : ∃ a c, v = .slice a n c ∧ n ≤ c := by
  rcases s with ⟨⟨a, c, rfl, -⟩, rfl, rfl⟩ | ⟨b, o, c, rfl, hc, s⟩
  · exact ⟨_, _, rfl, Nat.zero_le _⟩
  · exact ⟨_, _, rfl, hc⟩

/-- The pointer to the cell number k behind a slice's front. -/
def ptrAt : Value → Nat → Value
  | .slice (some a) _ _, k => .pointer (some (a.add k))
  | _, _ => undef
/-- v[lo:hi]; s cells an element. -/
def cutV (s : Nat) (v : Value) (lo hi : Nat) : Value := match v with
  | .slice a n c => .slice (if c = lo then a else a.map (·.add (lo * s))) (hi - lo) (c - lo)
  | v => v

theorem Sl.cut {h : Hp} {v : Value} {n : Nat} {cs : List Value} {s lo hi : Nat} (S : Sl h v n cs) (hn : cs.length = n * s) (h1 : lo ≤ hi) (h2 : hi ≤ n) : Sl h (cutV s v lo hi) (hi - lo) ((cs.drop (lo * s)).take ((hi - lo) * s)) := by
  rcases S with ⟨⟨a, c, rfl, ha⟩, rfl, rfl⟩ | ⟨b, o, c, rfl, hc, S⟩
  · have : lo = 0 := by omega
    have : hi = 0 := by omega
    subst lo hi
    refine .inl ⟨⟨_, _, rfl, fun e => ?_⟩, rfl, by simp⟩
    cases a with
    | none => rw [ha rfl]
    | some a => split at e <;> cases e
  · refine .inr ⟨b, if c = lo then o else o + lo * s, c - lo, ?_, by omega, fun j u hu => ?_⟩
    · simp only [cutV]
      split
      · rfl
      · simp [Addr.add_lit]
    · rw [List.getElem?_take] at hu
      split at hu
      · rw [List.getElem?_drop] at hu
        split
        · rename_i he hcl
          have : hi - lo = 0 := by omega
          rw [this] at he; simp at he
        · have := S _ _ hu
          rw [← Nat.add_assoc] at this; exact this
      · cases hu

/-! ### Rows that the call itself has made -/

/-- nil, or the front of a block from number B on: n elements of s cells, whose cells are cs. -/
def Own (h : Hp) (B : Nat) (e : TypeId) (s : Nat) (v : Value) (n : Nat) (cs : List Value) : Prop :=
  cs.length = n * s ∧ ((v = .slice none 0 0 ∧ n = 0) ∨
    ∃ g cap cur, v = .slice (some ⟨g, 0, none⟩) n cap ∧ B ≤ g ∧ h[g]? = some (.cells cur e (0, 0)) ∧ n ≤ cap ∧ cap ≤ maxLen ∧ cur.size = cap * s ∧ cur.toList.take (n * s) = cs)
theorem own_iff (w : World) (B : Nat) (e : TypeId) (s : Nat) (v : Value) (n : Nat) (cs : List Value) : w.ownsRow B e s v n cs ↔ Own w.heap B e s v n cs := Iff.rfl

section own
variable {h h' : Hp} {B : Nat} {e : TypeId} {s : Nat} {v : Value} {n : Nat} {cs : List Value}

theorem Own.nil (h : Hp) (B : Nat) (e : TypeId) (s : Nat) : Own h B e s (.slice none 0 0) 0 [] := ⟨by simp, .inl ⟨rfl, rfl⟩⟩
theorem Own.sl (o : Own h B e s v n cs) : Sl h v n cs := by
  obtain ⟨hl, ⟨rfl, rfl⟩ | ⟨g, cap, cur, rfl, hB, hg, hc, -, hs, ht⟩⟩ := o
  · exact .inl ⟨⟨none, 0, rfl, fun _ => rfl⟩, rfl, List.eq_nil_of_length_eq_zero (by simpa using hl)⟩
  · refine .inr ⟨g, 0, cap, rfl, hc, fun j u hu => ?_⟩
    rw [← ht, List.getElem?_take] at hu
    split at hu
    · simp only [cellH, hg, Nat.zero_add]; simpa using hu
    · cases hu
theorem Own.only {r : Option Nat} (o : Own h B e s v n cs) (k : Only r h h') (hne : v.ownBlock = none ∨ v.ownBlock ≠ r) : Own h' B e s v n cs := by
  obtain ⟨hl, hn | ⟨g, cap, cur, rfl, hB, hg, rest⟩⟩ := o
  · exact ⟨hl, .inl hn⟩
  · refine ⟨hl, .inr ⟨g, cap, cur, rfl, hB, ?_, rest⟩⟩
    rw [k.2 g (Array.getElem?_eq_some_iff.1 hg).1 (by simpa [Value.ownBlock] using hne)]
    exact hg
theorem Own.ext (o : Own h B e s v n cs) (k : Ext h h') : Own h' B e s v n cs := o.only (k.only none) (by cases v.ownBlock <;> simp)
theorem Own.base {B' : Nat} (o : Own h B e s v n cs) (hB : B' ≤ B) : Own h B' e s v n cs := by
  obtain ⟨hl, hn | ⟨g, cap, cur, rfl, hg, rest⟩⟩ := o
  · exact ⟨hl, .inl hn⟩
  · exact ⟨hl, .inr ⟨g, cap, cur, rfl, Nat.le_trans hB hg, rest⟩⟩
theorem Own.blk (o : Own h B e s v n cs) : ∀ k, v.ownBlock = some k → B ≤ k ∧ k < h.size := by
  intro k hk
  obtain ⟨hl, ⟨rfl, rfl⟩ | ⟨g, cap, cur, rfl, hB, hg, rest⟩⟩ := o
  · simp [Value.ownBlock] at hk
  · simp [Value.ownBlock] at hk; subst hk
    exact ⟨hB, (Array.getElem?_eq_some_iff.1 hg).1⟩
/-- What changed is the call's own row: none of the old ones. -/
theorem Own.old {h0 : Hp} (o : Own h B e s v n cs) (k : Only v.ownBlock h h') (x : Ext h0 h) (hB : h0.size ≤ B) : Ext h0 h' :=
  k.old x fun i hi => Nat.le_trans hB (o.blk i hi).1
/-- A shorter front. -/
theorem Own.front (o : Own h B e s v n cs) {k : Nat} (hk : k ≤ n) : Own h B e s (cutV s v 0 k) k (cs.take (k * s)) := by
  obtain ⟨hl, ⟨rfl, rfl⟩ | ⟨g, cap, cur, rfl, hB, hg, hc, hm, hs, ht⟩⟩ := o
  · have : k = 0 := by omega
    subst this
    exact ⟨by simp, .inl ⟨by simp [cutV], rfl⟩⟩
  · have hks : k * s ≤ n * s := Nat.mul_le_mul_right s hk
    refine ⟨by rw [List.length_take, hl]; omega, .inr ⟨g, cap, cur, ?_, hB, hg, by omega, hm, hs, ?_⟩⟩
    · simp only [cutV, Nat.zero_mul, Nat.sub_zero]
      split <;> simp [Addr.add]
    · rw [← ht, List.take_take, Nat.min_eq_left hks]
end own

/-- Elements of one cell, by the list of what they are. -/
def SlF {α : Type} (h : Hp) (f : α → Value) (v : Value) (xs : List α) : Prop := Sl h v xs.length (xs.map f)
def OwnF {α : Type} (h : Hp) (B : Nat) (e : TypeId) (f : α → Value) (v : Value) (xs : List α) : Prop := Own h B e 1 v xs.length (xs.map f)
section
variable {α : Type} {h h' : Hp} {B : Nat} {e : TypeId} {f : α → Value} {v : Value} {xs : List α}
theorem SlF.ext (s : SlF h f v xs) (e : Ext h h') : SlF h' f v xs := Sl.ext s e
theorem SlF.only {r : Option Nat} (s : SlF h f v xs) (e : Only r h h') (hne : v.ownBlock = none ∨ v.ownBlock ≠ r) : SlF h' f v xs := Sl.only s e hne
theorem SlF.cut {lo hi : Nat} (s : SlF h f v xs) (h1 : lo ≤ hi) (h2 : hi ≤ xs.length) : SlF h f (cutV 1 v lo hi) ((xs.drop lo).take (hi - lo)) := by
  have := Sl.cut (s := 1) s (by simp) h1 h2
  unfold SlF
  rw [List.length_take, List.length_drop, Nat.min_eq_left (by omega), List.map_take, List.map_drop]
  simpa using this
theorem OwnF.sl (o : OwnF h B e f v xs) : SlF h f v xs := Own.sl o
theorem OwnF.ext (o : OwnF h B e f v xs) (k : Ext h h') : OwnF h' B e f v xs := Own.ext o k
theorem OwnF.only {r : Option Nat} (o : OwnF h B e f v xs) (k : Only r h h') (hne : v.ownBlock = none ∨ v.ownBlock ≠ r) : OwnF h' B e f v xs := Own.only o k hne
theorem OwnF.base {B' : Nat} (o : OwnF h B e f v xs) (hB : B' ≤ B) : OwnF h B' e f v xs := Own.base o hB
theorem OwnF.blk (o : OwnF h B e f v xs) : ∀ k, v.ownBlock = some k → B ≤ k ∧ k < h.size := Own.blk o
theorem OwnF.old {h0 : Hp} (o : OwnF h B e f v xs) (k : Only v.ownBlock h h') (x : Ext h0 h) (hB : h0.size ≤ B) : Ext h0 h' := Own.old o k x hB
theorem OwnF.front (o : OwnF h B e f v xs) {k : Nat} (hk : k ≤ xs.length) : OwnF h B e f (cutV 1 v 0 k) (xs.take k) := by
  have := Own.front o hk
  unfold OwnF
  rw [List.length_take, Nat.min_eq_left hk, List.map_take]
  simpa using this
theorem OwnF.nil (h : Hp) (B : Nat) (e : TypeId) (f : α → Value) : OwnF h B e f (.slice none 0 0) [] := Own.nil h B e 1
theorem SlF.nil (h : Hp) (f : α → Value) : SlF h f (.slice none 0 0) [] := Sl.nil h
end

/-- An int, as a natural number. -/
abbrev N (x : Nat) : Value := .int .i64 ((x : Nat) : Int)

/-! ### The rules -/

/-- p is known of the heap when the operation number i runs. -/
structure Rd (Ch : Hp → Prop) (E : Nat → Bool) (i : Nat) (h : Hp) (p : Hp → Prop) : Prop where mk ::
  get : (E i = true ∧ Ch h ∧ p h) ∨ ∀ h', Ch h' → p h'
theorem rd_plain {i : Nat} {h : Hp} {p : Hp → Prop} (hp : p h) : Rd (fun _ => True) (fun _ => true) i h p := ⟨.inl ⟨rfl, trivial, hp⟩⟩
theorem rd_ext {E : Nat → Bool} {i : Nat} {h h0 : Hp} {v : Value} {n : Nat} {cs : List Value} (hp : Sl h0 v n cs) : Rd (Ext h0) E i h (fun h' => Sl h' v n cs) := ⟨.inr fun _ e => hp.ext e⟩
theorem rd_extF {α : Type} {f : α → Value} {E : Nat → Bool} {i : Nat} {h h0 : Hp} {v : Value} {cs : List α} (hp : SlF h0 f v cs) : Rd (Ext h0) E i h (fun h' => SlF h' f v cs) := ⟨.inr fun _ e => hp.ext e⟩

def plainTy (P : Program) (t : TypeId) : Bool := match P.underlying t with
  | none | some (.struct _) | some (.array _ _) => false
  | some _ => true

theorem run_isAgg_plain {P : Program} {t : TypeId} (ht : plainTy P t = true) (w : World) : (isAgg t).run P w = .ok false w := by
  unfold plainTy at ht
  cases hu : P.underlying t with
  | none => rw [hu] at ht; cases ht
  | some d =>
    rw [hu] at ht
    unfold isAgg
    rw [Sem.run_bind, run_underlying hu w]
    cases d <;> first | rfl | cases ht

theorem run_load1 {P : Program} {t : TypeId} {a : Addr} {w : World} {u : Value} (ht : plainTy P t = true) (hc : w.cell? a = some u) : (Instr.loadAt t (.pointer (some a))).run P w = .ok u w := by
  show ((do let x ← isAgg t; if x then (do pure (.agg (← loadCells a (← sizeOf t)))) else load a : Sem Value)).run P w = _
  rw [Sem.run_bind, run_isAgg_plain ht w]
  simp [hc]

section rules
variable {P : Program} {n : Nat} {Q : Post} {l : Fr} {h : Hp} {ops : List Oper} {Ch : Hp → Prop} {E : Nat → Bool} {i : Nat}
variable {d : Nat} {t : TypeId} {x y z : Operand}

/-- A drawn region that makes blocks and calls, but changes nothing that was there. -/
theorem r_drawnX {c : Code} (hc : tagOf c = .region true) (hm : P.follows .mixedOrders = true) (hok : regionOk (opsOf c) (effB (opsOf c)) = true)
    (k : S P n (opsOf c) (Ext h) (effB (opsOf c)) Q 0 l h) : W P n c Q l h := r_drawn (Ext h) (effB (opsOf c)) hc hm hok (Ext.refl h) k

/-- An operation that reads. -/
theorem s_read {op : Op} {v : Value} (hb : Nat.blt d n = true) (p : Hp → Prop) (hr : Rd Ch E i h p)
    (hv : ∀ {ty : TypeId} {ps : String} {af : Array Edge} {g : Option (Nat × Bool)} a w', Fits l n a → p w'.heap → (execOp a.eval ⟨some d, op, ty, ps, af, g⟩).run P w' = .ok (.value v) w')
    (k : S P n ops Ch E Q (i + 1) ((d, v) :: l) h) : O P n ops Ch E Q i d op l h := O.mk fun ho hg => by
  rcases hr.get with ⟨h1, h2, h3⟩ | h1
  · refine s_eff ho h1 hg fun a w hf hw => ?_
    unfold Eff
    rw [hv a w hf (by rw [hw]; exact h3)]
    exact ⟨Oth.refl w, by rw [hw]; exact h2, _, hf.put d v hb, by rw [hw]; exact k⟩
  · exact s_stable ho hg (fun a w' hf hc => hv a w' hf (h1 _ hc)) (fun a hf => hf.put d v hb) k

/-- len of a slice. -/
theorem s_len {v : Value} {m : Nat} {cs : List Value} {e : TypeId} {h0 : Hp} (hx : ev l x = some v) (ht : P.underlying t = some (.slice e)) (hs : Sl h0 v m cs) (hb : Nat.blt d n = true)
    (k : S P n ops Ch E Q (i + 1) ((d, N m) :: l) h) : O P n ops Ch E Q i d (.call ⟨.builtin .len, #[x], #[t]⟩) l h :=
  s_pure hb (fun a w' hf => by
    obtain ⟨ad, c, rfl, -⟩ := hs.len
    simp [execOp, resolve, invoke, builtin, hf.ev hx, Builtin.len_, run_underlying ht, goInt]) k
theorem s_lenF {α : Type} {f : α → Value} {v : Value} {cs : List α} {e : TypeId} {h0 : Hp} (hx : ev l x = some v) (ht : P.underlying t = some (.slice e)) (hs : SlF h0 f v cs) (hb : Nat.blt d n = true)
    (k : S P n ops Ch E Q (i + 1) ((d, N cs.length) :: l) h) : O P n ops Ch E Q i d (.call ⟨.builtin .len, #[x], #[t]⟩) l h := s_len hx ht hs hb k

theorem s_index {v : Value} {m j s : Nat} {cs : List Value} {e : TypeId} {yk : IntKind} {h0 : Hp} (hx : ev l x = some v) (hy : IsK (ev l y) yk j) (ht : P.underlying t = some (.slice e)) (hz : (P.info? e).map (·.size) = some s)
    (hs : Sl h0 v m cs) (hb : Nat.blt d n = true) (hj : j < m)
    (k : S P n ops Ch E Q (i + 1) ((d, ptrAt v (j * s)) :: l) h) : O P n ops Ch E Q i d (.indexAddr t x y) l h :=
  s_pure hb (fun a w' hf => by
    rcases hs with ⟨-, rfl, -⟩ | ⟨b, o, c, rfl, -, -⟩
    · cases hj
    · cases hi : P.info? e with
      | none => rw [hi] at hz; cases hz
      | some inf =>
        rw [hi] at hz
        simp only [Option.map_some, Option.some.injEq] at hz
        simp [execOp, hf.ev hx, hf.ev hy.h, Instr.indexAt, run_underlying ht, asIntOf, sizeOf, typeInfo, hi, hz, hj, ptrAt]) k
theorem s_indexF {α : Type} {f : α → Value} {v : Value} {j : Nat} {cs : List α} {e : TypeId} {yk : IntKind} {h0 : Hp} (hx : ev l x = some v) (hy : IsK (ev l y) yk j) (ht : P.underlying t = some (.slice e)) (hz : (P.info? e).map (·.size) = some 1)
    (hs : SlF h0 f v cs) (hb : Nat.blt d n = true) (hj : j < cs.length)
    (k : S P n ops Ch E Q (i + 1) ((d, ptrAt v j) :: l) h) : O P n ops Ch E Q i d (.indexAddr t x y) l h := s_index hx hy ht hz hs hb hj (by rw [Nat.mul_one]; exact k)

theorem s_load {v u : Value} {m j : Nat} {cs : List Value} (hx : ev l x = some (ptrAt v j)) (ht : plainTy P t = true) (hs : Rd Ch E i h (fun h' => Sl h' v m cs)) (hb : Nat.blt d n = true) (hj : cs[j]? = some u)
    (k : S P n ops Ch E Q (i + 1) ((d, u) :: l) h) : O P n ops Ch E Q i d (.load t x) l h :=
  s_read hb _ hs (fun a w' hf hs => by
    rcases hs with ⟨-, -, rfl⟩ | ⟨b, o, c, rfl, -, hs⟩
    · cases hj
    · have hl := run_load1 (P := P) (t := t) (a := (⟨b, o, none⟩ : Addr).add j) (w := w') ht (by rw [Addr.add_lit, cell?_cellH]; exact hs j u hj)
      simp only [execOp, hf.ev hx, ptrAt, Sem.run_bind, hl]; rfl) k
theorem s_loadF {α : Type} {f : α → Value} (d0 : α) {v : Value} {j : Nat} {cs : List α} (hx : ev l x = some (ptrAt v j)) (ht : plainTy P t = true) (hs : Rd Ch E i h (fun h' => SlF h' f v cs)) (hb : Nat.blt d n = true) (hj : j < cs.length)
    (k : S P n ops Ch E Q (i + 1) ((d, f (cs.getD j d0)) :: l) h) : O P n ops Ch E Q i d (.load t x) l h :=
  s_load (cs := cs.map f) (m := cs.length) hx ht hs hb (by simp [hj]) k

/-- x[lo:hi] -/
theorem run_slice_gen {P : Program} {w : World} {t e : TypeId} {s : Nat} {v : Value} {m c lo hi : Nat} {ad : Option Addr} {ol oh : Option Value} (hv : v = .slice ad m c) (ht : P.underlying t = some (.slice e)) (hz : (P.info? e).map (·.size) = some s)
    (hl : ol = none ∧ lo = 0 ∨ ∃ k, ol = some (.int k (lo : Int))) (hh : oh = none ∧ hi = m ∨ ∃ k, oh = some (.int k (hi : Int))) (h1 : lo ≤ hi) (h2 : hi ≤ c) :
    (Instr.sliceAt t v ol oh none).run P w = .ok (cutV s v lo hi) w := by
  subst hv
  cases hi' : P.info? e with
  | none => rw [hi'] at hz; cases hz
  | some inf =>
    rw [hi'] at hz
    simp only [Option.map_some, Option.some.injEq] at hz
    have bound : ∀ (k : IntKind) (x y : Nat) (code : BoundsCode), x ≤ y → (Instr.sliceBound (.int k (x : Int)) y code).run P w = .ok x w := fun k x y code hxy => by
      simp [Instr.sliceBound, asIntOf, hxy]
    have hb : (Instr.sliceBounds true m c ol oh none).run P w = .ok (lo, hi, c) w := by
      unfold Instr.sliceBounds
      rcases hl with ⟨rfl, rfl⟩ | ⟨kl, rfl⟩ <;> rcases hh with ⟨rfl, rfl⟩ | ⟨kh, rfl⟩ <;> simp [bound, h1, h2]
    simp [Instr.sliceAt, Instr.slice, run_underlying ht, hb, sizeOf, typeInfo, hi', hz, cutV]

theorem s_slice_lh {v : Value} {m lo hi s : Nat} {cs : List Value} {e : TypeId} {kl kh : IntKind} {h0 : Hp} (hx : ev l x = some v) (hy : IsK (ev l y) kl lo) (hz : IsK (ev l z) kh hi) (ht : P.underlying t = some (.slice e)) (hsz : (P.info? e).map (·.size) = some s)
    (hs : Sl h0 v m cs) (hb : Nat.blt d n = true) (h1 : lo ≤ hi) (h2 : hi ≤ m)
    (k : S P n ops Ch E Q (i + 1) ((d, cutV s v lo hi) :: l) h) : O P n ops Ch E Q i d (.slice t x (some y) (some z) none) l h :=
  s_pure hb (fun a w' hf => by
    obtain ⟨ad, c, hv, hc⟩ := hs.len
    simp only [execOp, hf.ev hx, Option.map_some, Option.map_none, hf.ev hy.h, hf.ev hz.h, Sem.run_bind, run_slice_gen hv ht hsz (.inr ⟨kl, rfl⟩) (.inr ⟨kh, rfl⟩) h1 (Nat.le_trans h2 hc)]; rfl) k
theorem s_slice_h {v : Value} {m hi s : Nat} {cs : List Value} {e : TypeId} {kh : IntKind} {h0 : Hp} (hx : ev l x = some v) (hz : IsK (ev l z) kh hi) (ht : P.underlying t = some (.slice e)) (hsz : (P.info? e).map (·.size) = some s)
    (hs : Sl h0 v m cs) (hb : Nat.blt d n = true) (h2 : hi ≤ m)
    (k : S P n ops Ch E Q (i + 1) ((d, cutV s v 0 hi) :: l) h) : O P n ops Ch E Q i d (.slice t x none (some z) none) l h :=
  s_pure hb (fun a w' hf => by
    obtain ⟨ad, c, hv, hc⟩ := hs.len
    simp only [execOp, hf.ev hx, Option.map_some, Option.map_none, hf.ev hz.h, Sem.run_bind, run_slice_gen hv ht hsz (.inl ⟨rfl, rfl⟩) (.inr ⟨kh, rfl⟩) (Nat.zero_le _) (Nat.le_trans h2 hc)]; rfl) k
theorem s_slice_l {v : Value} {m lo s : Nat} {cs : List Value} {e : TypeId} {kl : IntKind} {h0 : Hp} (hx : ev l x = some v) (hy : IsK (ev l y) kl lo) (ht : P.underlying t = some (.slice e)) (hsz : (P.info? e).map (·.size) = some s)
    (hs : Sl h0 v m cs) (hb : Nat.blt d n = true) (h1 : lo ≤ m)
    (k : S P n ops Ch E Q (i + 1) ((d, cutV s v lo m) :: l) h) : O P n ops Ch E Q i d (.slice t x (some y) none none) l h :=
  s_pure hb (fun a w' hf => by
    obtain ⟨ad, c, hv, hc⟩ := hs.len
    simp only [execOp, hf.ev hx, Option.map_some, Option.map_none, hf.ev hy.h, Sem.run_bind, run_slice_gen hv ht hsz (.inr ⟨kl, rfl⟩) (.inl ⟨rfl, rfl⟩) h1 hc]; rfl) k

end rules
end Go.Den

/- Own calculus, part E: what changes memory: stores, new rows, append, copy. No condition. -/
namespace Go.Den
set_option linter.unusedVariables false
set_option maxRecDepth 8000
open Go Go.RowKit

theorem Sl.one {h : Hp} {v : Value} {n : Nat} {cs : List Value} (s : Sl h v n cs) : v.oneCell' = true := by
  obtain ⟨a, c, rfl, -⟩ := s.len; rfl
theorem SlF.one {α : Type} {h : Hp} {f : α → Value} {v : Value} {xs : List α} (s : SlF h f v xs) : v.oneCell' = true := Sl.one s

section
variable {P : Program} {h : Hp} {B : Nat} {e : TypeId} {s : Nat} {v : Value} {n : Nat} {cs : List Value}

theorem cells_one {u : Value} (h1 : u.oneCell' = true) : u.cells = #[u] := by cases u <;> first | rfl | cases h1

theorem set_seg (l : List Value) (j : Nat) (u : Value) (hj : j < l.length) : l.take j ++ [u] ++ l.drop (j + 1) = l.set j u := by
  rw [List.set_eq_take_append_cons_drop, if_pos hj]; simp

/-- A store into a row of the call's own. -/
theorem own_store {w : World} {t : TypeId} {j : Nat} {u : Value} (ho : Own w.heap B e s v n cs) (hj : j < cs.length) (h1 : u.oneCell' = true) (ht : (P.info? t).map (·.size) = some 1) :
    ∃ w', (Instr.storeAt t (ptrAt v j) u).run P w = .ok () w' ∧ Own w'.heap B e s v n (cs.set j u) ∧ Only v.ownBlock w.heap w'.heap ∧ Oth w w' := by
  obtain ⟨hl, ⟨rfl, rfl⟩ | ⟨g, cap, cur, rfl, hB, hg, hc, hm, hs, htk⟩⟩ := ho
  · simp [hl] at hj
  have hcur : j < cur.toList.length := by
    rw [← htk, List.length_take] at hj; omega
  have hst := run_storeCells_at P g j e [u] 0 cur w hg (by simp at hcur ⊢; omega) (by simpa using h1)
  simp only [Nat.add_zero, List.length_singleton] at hst
  rw [set_seg _ _ _ hcur] at hst
  cases hi : P.info? t with
  | none => rw [hi] at ht; cases ht
  | some inf =>
    rw [hi] at ht
    simp only [Option.map_some, Option.some.injEq] at ht
    refine ⟨w.setRow g (cur.toList.set j u).toArray, ?_, ⟨by rw [List.length_set]; exact hl, .inr ⟨g, cap, (cur.toList.set j u).toArray, rfl, hB, setRow_heap w g cur _ e _ hg, hc, hm, by simp [hs], ?_⟩⟩, ⟨by simp, fun k _ hk => setRow_other w g k _ (fun q => hk (by simp [Value.ownBlock, q]))⟩, ⟨rfl, rfl, rfl⟩⟩
    · simp [ptrAt, Addr.add_lit, Instr.storeAt, Instr.sureAddr, storeVar, sizeOf, typeInfo, hi, cells_one h1, ht, hst]
    · rw [← htk]; simp [List.take_set]

theorem app_blk {w w' : World} {t ty : TypeId} {i : TypeInfo} {z v' : Value} {bytes : Nat} (ht : P.underlying t = some (.slice e)) (hi : P.info? e = some i) (hz : i.zero = some z) (hsize : i.size = s) (hby : i.bytes = bytes) (hzs : z.cells.size = s) (hsz : 0 < s)
    (hown : w.ownsRow B e s v n cs) {a : Addr} {m c : Nat} {news : List Value} (hl : news.length = m * s) (hnews : ∀ j u, news[j]? = some u → w.cell? (a.add j) = some u) (h1 : ∀ u ∈ news, u.oneCell' = true)
    (h63 : n + m ≤ maxLen) (hbytes : (n + m) * bytes ≤ 140737488355328)
    (hr : (Builtin.append_ #[t, t] ty #[v, .slice (some a) m c]).run P w = .ok v' w') : v'.ownBlock = v.ownBlock ∨ ∃ b, v'.ownBlock = some b ∧ w.heap.size ≤ b := by
  subst hsize hby
  have hsmall : n + m ≤ 9223372036854775807 := by simp only [maxLen] at h63; omega
  rcases hown.2 with ⟨rfl, rfl⟩ | ⟨g, cap, cur, rfl, hbg, hg, hnc, hcm, hcs, htake⟩
  · by_cases hm : m = 0
    · subst hm
      left
      have hn : news = [] := List.eq_nil_of_length_eq_zero (by simpa using hl)
      subst hn
      have : (Builtin.append_ #[t, t] ty #[.slice none 0 0, .slice (some a) 0 c]).run P w = .ok (.slice none 0 0) w := by
        simp [Builtin.append_, run_underlying ht, sizeOf, typeInfo, hi, Builtin.lenOf, Builtin.firstCells, loadCells, loadCellsFrom]
      rw [this] at hr; cases hr; rfl
    · right
      have := run_append_nil (P := P) w t ty e i z ht hi hz a m c news hl hnews (by omega) (by omega) (by have hb := hbytes; simp only [Nat.zero_add] at hb; omega)
      rw [this] at hr; cases hr
      exact ⟨_, rfl, Nat.le_refl _⟩
  · by_cases hroom : n + m ≤ cap
    · left
      have hfit : n * i.size + news.length ≤ cur.size := by rw [hl, hcs, ← Nat.add_mul]; exact Nat.mul_le_mul_right _ hroom
      have := run_append_room (P := P) w t ty e i ht hi g n cap cur hg a m c news hl hnews h1 hroom hfit
      rw [this] at hr; cases hr; rfl
    · right
      have := run_append_grow (P := P) w t ty e i z ht hi hz ⟨g, 0, none⟩ n cap cs hown.1 (hown.cells (g := g) rfl) a m c news hl hnews (by omega) (by omega) (growslice_fits (by omega) hbytes)
      rw [this] at hr; cases hr
      exact ⟨_, rfl, Nat.le_refl _⟩

/-- append to a row of the call's own. -/
theorem own_append {w : World} {t ty : TypeId} {z x : Value} {bytes m : Nat} {news : List Value} (ht : P.underlying t = some (.slice e)) (hi : (P.info? e).map (fun i => (i.size, i.bytes, i.zero)) = some (s, bytes, some z)) (hzs : z.cells.size = s) (hsz : 0 < s)
    (hown : Own w.heap B e s v n cs) (hx : Sl w.heap x m news) (hl : news.length = m * s) (h1 : ∀ u ∈ news, u.oneCell' = true) (h63 : n + m ≤ maxLen) (hbytes : (n + m) * bytes ≤ 140737488355328) (hB : B ≤ w.heap.size) :
    ∃ v' w', (Builtin.append_ #[t, t] ty #[v, x]).run P w = .ok v' w' ∧ Own w'.heap B e s v' (n + m) (cs ++ news) ∧ Only v.ownBlock w.heap w'.heap ∧ (v'.ownBlock = v.ownBlock ∨ ∃ b, v'.ownBlock = some b ∧ w.heap.size ≤ b) ∧ Oth w w' := by
  cases hq : P.info? e with
  | none => rw [hq] at hi; cases hi
  | some i =>
    rw [hq] at hi
    simp only [Option.map_some, Option.some.injEq, Prod.mk.injEq] at hi
    obtain ⟨i1, i2, i3⟩ := hi
    rcases hx with ⟨⟨a, c, rfl, ha⟩, rfl, rfl⟩ | ⟨b, o, c, rfl, hc, hx⟩
    · cases a with
      | none =>
        rw [ha rfl]
        have := run_append_owned_none (P := P) (w := w) B t ty e i s ht hq v n cs hown
        exact ⟨_, _, this, by simpa using hown, Only.refl _ _, .inl rfl, Oth.refl w⟩
      | some a =>
        obtain ⟨v', w', k1, k2, k3, -⟩ := run_append_own (P := P) w B t ty e i z s bytes ht hq i3 i1 i2 hzs hsz v n cs hown a 0 c [] (by simp) (by simp) (by simp) h63 hbytes hB
        exact ⟨v', w', k1, k2, ⟨k3.size, k3.block⟩, app_blk (news := []) (m := 0) (a := a) (c := c) ht hq i3 i1 i2 hzs hsz hown (by simp) (by simp) (by simp) h63 hbytes k1, k3.os, k3.tape, k3.output⟩
    · have hn : ∀ j u, news[j]? = some u → w.cell? ((⟨b, o, none⟩ : Addr).add j) = some u := fun j u hu => by
        rw [Addr.add_lit, cell?_cellH]; exact hx j u hu
      obtain ⟨v', w', k1, k2, k3, -⟩ := run_append_own (P := P) w B t ty e i z s bytes ht hq i3 i1 i2 hzs hsz v n cs hown ⟨b, o, none⟩ m c news hl hn h1 h63 hbytes hB
      exact ⟨v', w', k1, k2, ⟨k3.size, k3.block⟩, app_blk ht hq i3 i1 i2 hzs hsz hown hl hn h1 h63 hbytes k1, k3.os, k3.tape, k3.output⟩
end

section rules
variable {P : Program} {n : Nat} {Q : Post} {l : Fr} {h : Hp} {ops : List Oper} {Ch : Hp → Prop} {E : Nat → Bool} {i : Nat}
variable {d : Nat} {t : TypeId} {x y z : Operand}

/-- The operation number i, which is to run and yields nothing. -/
structure O0 (P : Program) (n : Nat) (ops : List Oper) (Ch : Hp → Prop) (E : Nat → Bool) (Q : Post) (i : Nat) (op : Op) (l : Fr) (h : Hp) : Prop where mk ::
  get : ∀ {ty : TypeId} {ps : String} {af : Array Edge} {g : Option (Nat × Bool)}, opAt ops i = some ⟨none, op, ty, ps, af, g⟩ → gd ops l g = some true → S P n ops Ch E Q i l h
theorem s_op0 {op : Op} {ty : TypeId} {ps : String} {af : Array Edge} {g : Option (Nat × Bool)} (ho : opAt ops i = some ⟨none, op, ty, ps, af, g⟩) (hg : gd ops l g = some true) (k : O0 P n ops Ch E Q i op l h) : S P n ops Ch E Q i l h := k.get ho hg

theorem s_store {v u : Value} {j m s B : Nat} {cs : List Value} {e : TypeId} (hx : ev l x = some (ptrAt v j)) (hy : ev l y = some u) (ht : (P.info? t).map (·.size) = some 1) (hE : E i = true) (ho : Own h B e s v m cs) (h1 : u.oneCell' = true) (hj : j < cs.length)
    (k : ∀ h', Own h' B e s v m (cs.set j u) → Only v.ownBlock h h' → Ch h' ∧ S P n ops Ch E Q (i + 1) l h') : O0 P n ops Ch E Q i (.store t x y) l h :=
  O0.mk fun hop hg => s_eff hop hE hg fun a w hf hw => by
    subst hw
    obtain ⟨w', g1, g2, g3, g4⟩ := own_store (P := P) (t := t) ho hj h1 ht
    unfold Eff
    simp only [execOp, hf.ev hx, hf.ev hy, Sem.run_bind, g1]
    exact ⟨g4, (k _ g2 g3).1, _, hf.putNone _, (k _ g2 g3).2⟩
theorem s_storeF {α : Type} {f : α → Value} {v u : Value} {j B : Nat} {cs : List α} {e : TypeId} (u' : α) (hx : ev l x = some (ptrAt v j)) (hy : ev l y = some u) (hu : f u' = u) (ht : (P.info? t).map (·.size) = some 1) (hE : E i = true) (ho : OwnF h B e f v cs) (h1 : u.oneCell' = true) (hj : j < cs.length)
    (k : ∀ h', OwnF h' B e f v (cs.set j u') → Only v.ownBlock h h' → Ch h' ∧ S P n ops Ch E Q (i + 1) l h') : O0 P n ops Ch E Q i (.store t x y) l h :=
  s_store hx hy ht hE ho h1 (by simpa using hj) fun h' g1 g2 => k h' (by unfold OwnF; rw [List.length_set, List.map_set, hu]; exact g1) g2

/-- make([]T, l, c), T of one cell. -/
theorem s_make {α : Type} {f : α → Value} {ln c bytes : Nat} {e : TypeId} {kl kc : IntKind} {z0 : Value} (z1 : α) (hx : IsK (ev l x) kl ln) (hy : IsK (ev l y) kc c) (ht : P.underlying t = some (.slice e)) (hi : (P.info? e).map (fun i => (i.size, i.bytes, i.zero)) = some (1, bytes, some z0)) (hzs : z0.oneCell' = true) (hz1 : f z1 = z0)
    (hE : E i = true) (hb : Nat.blt d n = true) (h1 : ln ≤ c) (h2 : bytes * c ≤ 281474976710656) (h3 : c ≤ 9223372036854775807)
    (k : ∀ v h', OwnF h' h.size e f v (List.replicate ln z1) → Ext h h' → v.ownBlock = some h.size → Ch h' ∧ S P n ops Ch E Q (i + 1) ((d, v) :: l) h') : O P n ops Ch E Q i d (.makeSlice t x y) l h :=
  O.mk fun hop hg => s_eff hop hE hg fun a w hf hw => by
    subst hw
    cases hq : P.info? e with
    | none => rw [hq] at hi; cases hi
    | some inf =>
      rw [hq] at hi
      simp only [Option.map_some, Option.some.injEq, Prod.mk.injEq] at hi
      obtain ⟨i1, i2, i3⟩ := hi
      have hr := run_make (P := P) w t e inf z0 ht hq i3 kl kc ln c (by omega) (by omega) (by rw [i2, ← Int.natCast_mul]; omega) (by omega)
      simp only [Int.toNat_natCast, i1, Nat.mul_one] at hr
      have hmade : (madeCells z0.cells c).toList = List.replicate c z0 := by
        rw [cells_one hzs]
        apply List.ext_getElem
        · simp [madeCells]
        · intro j h1 h2
          simp [madeCells, Nat.mod_one]
      have ho : OwnF (w.alloc (.cells (madeCells z0.cells c) e)).heap w.heap.size e f (.slice (some ⟨w.heap.size, 0, none⟩) ln c) (List.replicate ln z1) := by
        refine ⟨by simp, .inr ⟨w.heap.size, c, _, by simp, Nat.le_refl _, heap_alloc_new w _, by simpa using h1, by simp [maxLen]; omega, by rw [size_madeCells]; simp, ?_⟩⟩
        rw [hmade]; simp [hz1, List.take_replicate, Nat.min_eq_left h1]
      have := k _ _ ho (Ext.push _ _) rfl
      unfold Eff
      simp only [execOp, hf.ev hx.h, hf.ev hy.h, Sem.run_bind, hr]
      exact ⟨⟨rfl, rfl, rfl⟩, this.1, _, hf.put d _ hb, this.2⟩

theorem fill_one : ∀ (vs : List Value) (pre post : List Value), (∀ u ∈ vs, u.oneCell' = true) → post.length = vs.length →
    Instr.fill (fun i => some (i * 1, 1)) (pre ++ post).toArray ((List.range' pre.length vs.length).zip vs) = some (pre ++ vs).toArray
  | [], pre, post, _, hp => by
    have : post = [] := List.eq_nil_of_length_eq_zero (by simpa using hp)
    subst this
    simp [Instr.fill]
  | u :: vs, pre, post, h1, hp => by
    cases post with
    | nil => simp at hp
    | cons p post =>
      have ih := fill_one vs (pre ++ [u]) post (fun x hx => h1 x (by simp [hx])) (by simpa using hp)
      simp only [List.length_cons, List.range'_succ, List.zip_cons_cons, Instr.fill, cells_one (h1 u (by simp)), Nat.mul_one]
      have hsz : ¬ ((#[u] : Array Value).size ≠ 1 ∨ pre.length + (#[u] : Array Value).size > (pre ++ p :: post).toArray.size) := by simp
      simp only [hsz, decide_eq_true_eq, Bool.or_eq_true, if_false]
      have hset : ((pre ++ p :: post).toArray).setIfInBounds pre.length u = (pre ++ [u] ++ post).toArray := by
        apply Array.ext'
        simp
      simp only [List.length_append, List.length_singleton, List.append_assoc, List.singleton_append, Nat.mul_one] at ih
      simp [hset] at ih ⊢
      exact ih

/-- []T{..}, T of one cell. -/
theorem s_lit {α : Type} {f : α → Value} {ln : Nat} {parts : Array (Nat × Operand)} {vs : List Value} {e : TypeId} {z0 : Value} {bytes : Nat} (xs : List α) (he : evs l (parts.toList.map (·.2)) = some vs) (hp : parts.toList.map (·.1) = List.range' 0 ln) (hl : vs.length = ln) (hxs : xs.map f = vs)
    (ht : P.underlying t = some (.slice e)) (hi : (P.info? e).map (fun i => (i.size, i.bytes, i.zero)) = some (1, bytes, some z0)) (h1 : ∀ u ∈ vs, u.oneCell' = true) (hz1 : z0.oneCell' = true) (hE : E i = true) (hb : Nat.blt d n = true) (hln : ln ≤ 16777216)
    (k : ∀ v h', OwnF h' h.size e f v xs → Ext h h' → v.ownBlock = some h.size → Ch h' ∧ S P n ops Ch E Q (i + 1) ((d, v) :: l) h') : O P n ops Ch E Q i d (.buildSlice t ln parts) l h :=
  O.mk fun hop hg => s_eff hop hE hg fun a w hf hw => by
    subst hw
    cases hq : P.info? e with
    | none => rw [hq] at hi; cases hi
    | some inf =>
      rw [hq] at hi
      simp only [Option.map_some, Option.some.injEq, Prod.mk.injEq] at hi
      obtain ⟨i1, i2, i3⟩ := hi
      have hparts : (parts.map fun (i, x) => (i, a.eval x)).toList = (List.range' 0 vs.length).zip vs := by
        rw [hl, ← hp, ← hf.evs he, Array.toList_map, List.map_map, List.zip_map']
        rfl
      have hfill := fill_one vs [] (List.replicate ln z0) h1 (by simp [hl])
      simp only [List.nil_append, List.length_nil] at hfill
      have hmade : ∀ zero : Array Value, (zero = if ln = 0 then #[] else #[z0]) → (Array.range ln).map (zero[· % zero.size]!) = (List.replicate ln z0).toArray := fun zero hzero => by
        apply Array.ext'
        apply List.ext_getElem
        · simp
        · intro j h1 h2
          simp at h1
          have : ln ≠ 0 := by omega
          simp [hzero, this, Nat.mod_one]
      have hr : (Instr.buildSlice t ln (parts.map fun (i, x) => (i, a.eval x))).run P w = .ok (.slice (some ⟨w.heap.size, 0, none⟩) ln ln) (w.alloc (.cells vs.toArray e)) := by
        have hbig : ¬ (16777216 < ln) := by omega
        by_cases h0 : ln = 0
        · subst h0
          have hv : vs = [] := List.eq_nil_of_length_eq_zero hl
          subst hv
          have hp0 : (parts.map fun (i, x) => (i, a.eval x)) = #[] := by apply Array.ext'; rw [hparts]; rfl
          rw [hp0]
          simp [Instr.buildSlice, run_underlying ht, sizeOf, typeInfo, hq, newRow, Instr.fill, Array.range_zero']
        · have hm := hmade #[z0] (by simp [h0])
          simp only [Nat.mul_one] at hfill
          have hpa : (parts.map fun (i, x) => (i, a.eval x)) = ((List.range' 0 vs.length).zip vs).toArray := by apply Array.ext'; rw [hparts]
          rw [hpa]
          simp [Instr.buildSlice, run_underlying ht, sizeOf, typeInfo, hq, i1, i3, zeroValue, h0, cells_one hz1, hbig, newRow] at hm ⊢
          simp only [List.toArray_replicate] at hfill
          rw [hm, hfill]
          simp
      have ho : OwnF (w.alloc (.cells vs.toArray e)).heap w.heap.size e f (.slice (some ⟨w.heap.size, 0, none⟩) ln ln) xs := by
        have hxl : xs.length = ln := by rw [← hl, ← hxs]; simp
        refine ⟨by simp, .inr ⟨w.heap.size, ln, _, by rw [hxl], Nat.le_refl _, heap_alloc_new w _, by omega, by simp [maxLen]; omega, by simp [hl], ?_⟩⟩
        rw [hxs, Nat.mul_one, hxl, ← hl]; simp
      have := k _ _ ho (Ext.push _ _) rfl
      unfold Eff
      simp only [execOp, Sem.run_bind, hr]
      exact ⟨⟨rfl, rfl, rfl⟩, this.1, _, hf.put d _ hb, this.2⟩

theorem s_append {v u : Value} {m k' s B bytes : Nat} {cs news : List Value} {e : TypeId} {z0 : Value} (hx : ev l x = some v) (hy : ev l y = some u) (ht : P.underlying t = some (.slice e)) (hi : (P.info? e).map (fun i => (i.size, i.bytes, i.zero)) = some (s, bytes, some z0)) (hzs : z0.cells.size = s) (hsz : 0 < s)
    (hE : E i = true) (hb : Nat.blt d n = true) (ho : Own h B e s v m cs) (hs : Sl h u k' news) (hl : news.length = k' * s) (h1 : ∀ u ∈ news, u.oneCell' = true) (hB : B ≤ h.size) (h63 : m + k' ≤ maxLen) (hby : (m + k') * bytes ≤ 140737488355328)
    (k : ∀ v' h', Own h' B e s v' (m + k') (cs ++ news) → Only v.ownBlock h h' → (v'.ownBlock = v.ownBlock ∨ ∃ b, v'.ownBlock = some b ∧ h.size ≤ b) → Ch h' ∧ S P n ops Ch E Q (i + 1) ((d, v') :: l) h') : O P n ops Ch E Q i d (.call ⟨.builtin .append, #[x, y], #[t, t]⟩) l h :=
  O.mk fun {ty} _ _ _ hop hg => s_eff hop hE hg fun a w hf hw => by
    subst hw
    obtain ⟨v', w', g1, g2, g3, g4, g5⟩ := own_append (P := P) (ty := ty) ht hi hzs hsz ho hs hl h1 h63 hby hB
    unfold Eff execOp
    simp only [resolve, invoke, builtin, Sem.run_bind, Sem.run_pure, Result.andThen_ok, List.map_toArray, List.map_cons, List.map_nil, hf.ev hx, hf.ev hy, g1]
    exact ⟨g5, (k _ _ g2 g3 g4).1, _, hf.put d _ hb, (k _ _ g2 g3 g4).2⟩
theorem s_appendF {α : Type} {f : α → Value} {v u : Value} {B bytes : Nat} {cs news : List α} {e : TypeId} {z0 : Value} (hx : ev l x = some v) (hy : ev l y = some u) (ht : P.underlying t = some (.slice e)) (hi : (P.info? e).map (fun i => (i.size, i.bytes, i.zero)) = some (1, bytes, some z0)) (hzs : z0.cells.size = 1)
    (hE : E i = true) (hb : Nat.blt d n = true) (ho : OwnF h B e f v cs) (hs : SlF h f u news) (h1 : ∀ a, (f a).oneCell' = true) (hB : B ≤ h.size) (h63 : cs.length + news.length ≤ maxLen) (hby : (cs.length + news.length) * bytes ≤ 140737488355328)
    (k : ∀ v' h', OwnF h' B e f v' (cs ++ news) → Only v.ownBlock h h' → (v'.ownBlock = v.ownBlock ∨ ∃ b, v'.ownBlock = some b ∧ h.size ≤ b) → Ch h' ∧ S P n ops Ch E Q (i + 1) ((d, v') :: l) h') : O P n ops Ch E Q i d (.call ⟨.builtin .append, #[x, y], #[t, t]⟩) l h :=
  s_append hx hy ht hi hzs Nat.zero_lt_one hE hb ho hs (by simp) (by intro u hu; obtain ⟨a, -, rfl⟩ := List.mem_map.1 hu; exact h1 a) hB h63 hby fun v' h' g1 g2 g3 => k v' h' (by unfold OwnF; rw [List.length_append, List.map_append]; exact g1) g2 g3

end rules
end Go.Den

/- Own calculus, part F: ints that are natural numbers; walks with slices. No condition. -/
namespace Go.Den
set_option linter.unusedVariables false
set_option maxRecDepth 8000
open Go Go.RowKit

section
variable {P : Program} {n : Nat} {Q : Post} {l : Fr} {h : Hp} {ops : List Oper} {Ch : Hp → Prop} {E : Nat → Bool} {i : Nat}
variable {d : Nat} {t : TypeId} {x y z : Operand} {yt : TypeId} {a b : Nat}

theorem s_moveNc {c : Nat} (hb : Nat.blt d n = true) (k : S P n ops Ch E Q (i + 1) ((d, N (OfNat.ofNat c : Nat)) :: l) h) : O P n ops Ch E Q i d (.move (.const (.int .i64 (OfNat.ofNat c : Int)))) l h := s_move rfl hb k
theorem s_assignNc {c : Nat} (hb : Nat.blt d n = true) (k : S P n ops Ch E Q (i + 1) ((d, N (OfNat.ofNat c : Nat)) :: l) h) : O P n ops Ch E Q i d (.assign (.const (.int .i64 (OfNat.ofNat c : Int)))) l h := s_assign rfl hb k
theorem s_addN (hx : IsK (ev l x) .i64 a) (hy : IsK (ev l y) .i64 b) (hb : Nat.blt d n = true) (hn : a + b < 9223372036854775808)
    (k : S P n ops Ch E Q (i + 1) ((d, N (a + b)) :: l) h) : O P n ops Ch E Q i d (.binOp .add t x y yt) l h :=
  s_bin hx.h hy.h hb (fun w' => by
    show Result.ok (Value.int .i64 (IntKind.i64.wrap ((a : Int) + b))) w' = _
    rw [← Int.natCast_add, wrapI_in _ (by omega)]) k
theorem s_subN (hx : IsK (ev l x) .i64 a) (hy : IsK (ev l y) .i64 b) (hb : Nat.blt d n = true) (hn : b ≤ a ∧ a < 9223372036854775808)
    (k : S P n ops Ch E Q (i + 1) ((d, N (a - b)) :: l) h) : O P n ops Ch E Q i d (.binOp .sub t x y yt) l h :=
  s_bin hx.h hy.h hb (fun w' => by
    show Result.ok (Value.int .i64 (IntKind.i64.wrap ((a : Int) - b))) w' = _
    rw [← Int.ofNat_sub hn.1, wrapI_in _ (by omega)]) k
theorem s_mulN (hx : IsK (ev l x) .i64 a) (hy : IsK (ev l y) .i64 b) (hb : Nat.blt d n = true) (hn : a * b < 9223372036854775808)
    (k : S P n ops Ch E Q (i + 1) ((d, N (a * b)) :: l) h) : O P n ops Ch E Q i d (.binOp .mul t x y yt) l h :=
  s_bin hx.h hy.h hb (fun w' => by
    show Result.ok (Value.int .i64 (IntKind.i64.wrap ((a : Int) * b))) w' = _
    rw [← Int.natCast_mul, wrapI_in _ (by omega)]) k
theorem s_quoN (hx : IsK (ev l x) .i64 a) (hy : IsK (ev l y) .i64 b) (hb : Nat.blt d n = true) (hn : 0 < b ∧ a < 9223372036854775808)
    (k : S P n ops Ch E Q (i + 1) ((d, N (a / b)) :: l) h) : O P n ops Ch E Q i d (.binOp .quo t x y yt) l h :=
  s_bin hx.h hy.h hb (fun w' => by
    show (Op.intDiv .quo .i64 (a : Int) (b : Int)).run P w' = _
    unfold Op.intDiv
    rw [if_neg (by omega)]
    show Result.ok (Value.int .i64 (IntKind.i64.wrap ((a : Int).tdiv b))) w' = _
    have := Nat.lt_of_le_of_lt (Nat.div_le_self a b) hn.2
    rw [← Int.ofNat_tdiv]
    generalize a / b = q at *
    rw [wrapI_in _ (by omega)]) k
theorem s_remN (hx : IsK (ev l x) .i64 a) (hy : IsK (ev l y) .i64 b) (hb : Nat.blt d n = true) (hn : 0 < b)
    (k : S P n ops Ch E Q (i + 1) ((d, N (a % b)) :: l) h) : O P n ops Ch E Q i d (.binOp .rem t x y yt) l h :=
  s_bin hx.h hy.h hb (fun w' => by
    show (Op.intDiv .rem .i64 (a : Int) (b : Int)).run P w' = _
    unfold Op.intDiv
    rw [if_neg (by omega)]
    show Result.ok (Value.int .i64 ((a : Int).tmod b)) w' = _
    rw [← Int.ofNat_tmod]) k
theorem s_shrN {yk : IntKind} {c : Nat} (hx : IsK (ev l x) .i64 a) (hy : IsK (ev l y) yk c) (hb : Nat.blt d n = true) (hn : c ≤ 64)
    (k : S P n ops Ch E Q (i + 1) ((d, N (a / 2 ^ c)) :: l) h) : O P n ops Ch E Q i d (.binOp .shr t x y yt) l h :=
  s_bin hx.h hy.h hb (fun w' => by
    show (Op.shift .shr .i64 (a : Int) yk (c : Int)).run P w' = _
    unfold Op.shift
    rw [if_neg (by omega)]
    show Result.ok (Value.int .i64 ((a : Int).fdiv (2 ^ (min (c : Int).toNat 64)))) w' = _
    rw [show min (c : Int).toNat 64 = c by omega, fdivN]) k
theorem s_shlN {yk : IntKind} {c : Nat} (hx : IsK (ev l x) .i64 a) (hy : IsK (ev l y) yk c) (hb : Nat.blt d n = true) (hn : c ≤ 64) (hm : a * 2 ^ c < 9223372036854775808)
    (k : S P n ops Ch E Q (i + 1) ((d, N (a * 2 ^ c)) :: l) h) : O P n ops Ch E Q i d (.binOp .shl t x y yt) l h :=
  s_bin hx.h hy.h hb (fun w' => by
    show (Op.shift .shl .i64 (a : Int) yk (c : Int)).run P w' = _
    unfold Op.shift
    rw [if_neg (by omega)]
    show Result.ok (Value.int .i64 (IntKind.i64.wrap ((a : Int) * 2 ^ (min (c : Int).toNat 64)))) w' = _
    rw [show min (c : Int).toNat 64 = c by omega, show ((a : Int) * 2 ^ c) = ((a * 2 ^ c : Nat) : Int) by simp, wrapI_in _ (by omega)]) k
theorem s_eqN (hx : IsK (ev l x) .i64 a) (hy : IsK (ev l y) .i64 b) (hb : Nat.blt d n = true)
    (k : S P n ops Ch E Q (i + 1) ((d, .bool (decide (a = b))) :: l) h) : O P n ops Ch E Q i d (.binOp .eql t x y yt) l h :=
  s_bin hx.h hy.h hb (fun w' => by
    show Result.ok (Value.bool ((a : Int) == (b : Int))) w' = _
    congr 2; rw [Bool.eq_iff_iff]; simp; omega) k
theorem s_neN (hx : IsK (ev l x) .i64 a) (hy : IsK (ev l y) .i64 b) (hb : Nat.blt d n = true)
    (k : S P n ops Ch E Q (i + 1) ((d, .bool (decide (a ≠ b))) :: l) h) : O P n ops Ch E Q i d (.binOp .neq t x y yt) l h :=
  s_bin hx.h hy.h hb (fun w' => by
    show Result.ok (Value.bool ((a : Int) != (b : Int))) w' = _
    congr 2; rw [Bool.eq_iff_iff]; simp; omega) k
theorem s_ltN (hx : IsK (ev l x) .i64 a) (hy : IsK (ev l y) .i64 b) (hb : Nat.blt d n = true)
    (k : S P n ops Ch E Q (i + 1) ((d, .bool (decide (a < b))) :: l) h) : O P n ops Ch E Q i d (.binOp .lss t x y yt) l h :=
  s_bin hx.h hy.h hb (fun w' => by
    show Result.ok (Value.bool (decide ((a : Int) < (b : Int)))) w' = _
    congr 2; rw [Bool.eq_iff_iff]; simp) k
theorem s_leN (hx : IsK (ev l x) .i64 a) (hy : IsK (ev l y) .i64 b) (hb : Nat.blt d n = true)
    (k : S P n ops Ch E Q (i + 1) ((d, .bool (decide (a ≤ b))) :: l) h) : O P n ops Ch E Q i d (.binOp .leq t x y yt) l h :=
  s_bin hx.h hy.h hb (fun w' => by
    show Result.ok (Value.bool (decide ((a : Int) ≤ (b : Int)))) w' = _
    congr 2; rw [Bool.eq_iff_iff]; simp) k
theorem s_gtN (hx : IsK (ev l x) .i64 a) (hy : IsK (ev l y) .i64 b) (hb : Nat.blt d n = true)
    (k : S P n ops Ch E Q (i + 1) ((d, .bool (decide (b < a))) :: l) h) : O P n ops Ch E Q i d (.binOp .gtr t x y yt) l h :=
  s_bin hx.h hy.h hb (fun w' => by
    show Result.ok (Value.bool (decide ((a : Int) > (b : Int)))) w' = _
    congr 2; rw [Bool.eq_iff_iff]; simp) k
theorem s_geN (hx : IsK (ev l x) .i64 a) (hy : IsK (ev l y) .i64 b) (hb : Nat.blt d n = true)
    (k : S P n ops Ch E Q (i + 1) ((d, .bool (decide (b ≤ a))) :: l) h) : O P n ops Ch E Q i d (.binOp .geq t x y yt) l h :=
  s_bin hx.h hy.h hb (fun w' => by
    show Result.ok (Value.bool (decide ((a : Int) ≥ (b : Int)))) w' = _
    congr 2; rw [Bool.eq_iff_iff]; simp) k
theorem s_convN {src dst : TypeId} {k0 : IntKind} {u : TypeDesc} (hx : IsK (ev l x) k0 a) (hs : P.underlying src = some u) (hd : P.underlying dst = some (.int .i64)) (hb : Nat.blt d n = true) (hn : a < 9223372036854775808)
    (k : S P n ops Ch E Q (i + 1) ((d, N a) :: l) h) : O P n ops Ch E Q i d (.convert src dst x) l h :=
  s_conv hx.h hs hd hb (by rw [wrapI_in _ (by omega)]; exact k)
theorem s_slice_hF {α : Type} {f : α → Value} {v : Value} {hi : Nat} {cs : List α} {e : TypeId} {kh : IntKind} {h0 : Hp} (hx : ev l x = some v) (hz : IsK (ev l z) kh hi) (ht : P.underlying t = some (.slice e)) (hsz : (P.info? e).map (·.size) = some 1)
    (hs : SlF h0 f v cs) (hb : Nat.blt d n = true) (h2 : hi ≤ cs.length) (k : S P n ops Ch E Q (i + 1) ((d, cutV 1 v 0 hi) :: l) h) : O P n ops Ch E Q i d (.slice t x none (some z) none) l h := s_slice_h hx hz ht hsz hs hb h2 k
theorem s_slice_lF {α : Type} {f : α → Value} {v : Value} {lo : Nat} {cs : List α} {e : TypeId} {kl : IntKind} {h0 : Hp} (hx : ev l x = some v) (hy : IsK (ev l y) kl lo) (ht : P.underlying t = some (.slice e)) (hsz : (P.info? e).map (·.size) = some 1)
    (hs : SlF h0 f v cs) (hb : Nat.blt d n = true) (h1 : lo ≤ cs.length) (k : S P n ops Ch E Q (i + 1) ((d, cutV 1 v lo cs.length) :: l) h) : O P n ops Ch E Q i d (.slice t x (some y) none none) l h := s_slice_l hx hy ht hsz hs hb h1 k
theorem s_slice_lhF {α : Type} {f : α → Value} {v : Value} {lo hi : Nat} {cs : List α} {e : TypeId} {kl kh : IntKind} {h0 : Hp} (hx : ev l x = some v) (hy : IsK (ev l y) kl lo) (hz : IsK (ev l z) kh hi) (ht : P.underlying t = some (.slice e)) (hsz : (P.info? e).map (·.size) = some 1)
    (hs : SlF h0 f v cs) (hb : Nat.blt d n = true) (h1 : lo ≤ hi) (h2 : hi ≤ cs.length) (k : S P n ops Ch E Q (i + 1) ((d, cutV 1 v lo hi) :: l) h) : O P n ops Ch E Q i d (.slice t x (some y) (some z) none) l h := s_slice_lh hx hy hz ht hsz hs hb h1 h2 k
/-- The guard of the next operation is decided: by cases. -/
theorem s_splitG {o : Oper} {j t : Nat} {want : Bool} {p : Prop} {dp : Decidable p} (ho : opAt ops i = some o) (hg : o.guard = some (j, want)) (hj : (ops[j]?).bind (·.dst) = some t) (e : look l t = some (.bool (decide p)))
    (ht : p → S P n ops Ch E Q i ((t, .bool true) :: l) h) (hf : ¬ p → S P n ops Ch E Q i ((t, .bool false) :: l) h) : S P n ops Ch E Q i l h := s_split t e ht hf
/-- []T{..}, told by the list of its elements. -/
theorem s_litF {α : Type} {f : α → Value} {ln : Nat} {parts : Array (Nat × Operand)} {e : TypeId} {z0 : Value} {bytes : Nat} (xs : List α) (h1 : ∀ a, (f a).oneCell' = true) (he : evs l (parts.toList.map (·.2)) = some (xs.map f)) (hp : parts.toList.map (·.1) = List.range' 0 ln) (hl : xs.length = ln)
    (ht : P.underlying t = some (.slice e)) (hi : (P.info? e).map (fun i => (i.size, i.bytes, i.zero)) = some (1, bytes, some z0)) (hz1 : z0.oneCell' = true) (hE : E i = true) (hb : Nat.blt d n = true) (hln : ln ≤ 16777216)
    (k : ∀ v h', OwnF h' h.size e f v xs → Ext h h' → v.ownBlock = some h.size → Ch h' ∧ S P n ops Ch E Q (i + 1) ((d, v) :: l) h') : O P n ops Ch E Q i d (.buildSlice t ln parts) l h :=
  s_lit xs he hp (by simpa using hl) rfl ht hi (fun u hu => by obtain ⟨a, -, rfl⟩ := List.mem_map.1 hu; exact h1 a) hz1 hE hb hln k
theorem rd_onlyF {α : Type} {f : α → Value} {E : Nat → Bool} {i : Nat} {h h0 : Hp} {r : Option Nat} {v : Value} {cs : List α} (hp : SlF h0 f v cs) (hne : v.ownBlock = none ∨ v.ownBlock ≠ r) : Rd (Only r h0) E i h (fun h' => SlF h' f v cs) := ⟨.inr fun _ e => hp.only e hne⟩
/-- A drawn region that changes one block alone. -/
theorem r_drawnO {c : Code} (r : Option Nat) (hc : tagOf c = .region true) (hm : P.follows .mixedOrders = true) (hok : regionOk (opsOf c) (effB (opsOf c)) = true)
    (k : S P n (opsOf c) (Only r h) (effB (opsOf c)) Q 0 l h) : W P n c Q l h := r_drawn (Only r h) (effB (opsOf c)) hc hm hok (Only.refl r h) k
theorem ext_size {h h' : Hp} (e : Ext h h') : h.size ≤ h'.size := e.1
/-- append of one element, which is laid in a row of its own first. -/
theorem s_app1 {α : Type} {f : α → Value} {h0 : Hp} {xs : List α} {v : Value} {e : TypeId} (a : α) (own : OwnF h h0.size e f v xs) (ext : Ext h0 h) {d1 d2 bytes : Nat} {z0 : Value} {ty2 : TypeId} {ps2 : String} {af2 : Array Edge}
    (ho2 : opAt ops (i + 1) = some ⟨some d2, .call ⟨.builtin .append, #[x, .tmp d1], #[t, t]⟩, ty2, ps2, af2, none⟩)
    (hb1 : Nat.blt d1 n = true) (hb2 : Nat.blt d2 n = true) (hn : look l d1 = none) (ht : P.underlying t = some (.slice e)) (hi : (P.info? e).map (fun i => (i.size, i.bytes, i.zero)) = some (1, bytes, some z0)) (hz1 : z0.oneCell' = true)
    (hx : ev ((d1, undef) :: l) x = some v) (hx' : ev l x = some v) (hz : ev l z = some (f a)) (h1 : ∀ a, (f a).oneCell' = true) (hE1 : E i = true) (hE2 : E (i + 1) = true) (hC : ∀ h', Ext h0 h' → Ch h')
    (hby : (xs.length + 1) * bytes ≤ 140737488355328) (h63 : xs.length + 1 ≤ maxLen)
    (k : ∀ v' h', OwnF h' h0.size e f v' (xs ++ [a]) → Ext h0 h' → Only v.ownBlock h h' → (v'.ownBlock = v.ownBlock ∨ ∃ b, v'.ownBlock = some b ∧ h.size ≤ b) → S P n ops Ch E Q (i + 2) ((d2, v') :: l) h') : O P n ops Ch E Q i d1 (.buildSlice t 1 #[(0, z)]) l h := by
  refine (s_lit [a] (vs := [f a]) (by simp only [List.map_cons, List.map_nil, evs, hz]) rfl rfl rfl ht hi (by simpa using h1 a) hz1 hE1 hb1 (by omega) fun u ha o1 e1 _ => ⟨hC _ (ext.trans e1), ?_⟩)
  have hxu : ev ((d1, u) :: l) x = some v := by
    cases x with
    | tmp t =>
      simp only [ev, look] at hx hx' ⊢
      cases ht : Nat.beq t d1 with
      | true => have := Nat.eq_of_beq_eq_true ht; subst this; rw [hn] at hx'; cases hx'
      | false => exact hx'
    | const c => exact hx'
    | global c => exact hx'
    | func c => exact hx'
  have hsz := ext_size e1
  have hsz0 := ext_size ext
  refine s_op ho2 rfl (s_appendF hxu (show ev ((d1, u) :: l) (.tmp d1) = some u by simp only [ev, look, Nat.beq_refl, cond_true]) ht hi (by cases z0 <;> first | rfl | cases hz1) hE2 hb2 (own.ext e1) o1.sl h1 (by omega) h63 hby fun v' h' o2 k2 b2 => ?_)
  have ext2 : Ext h0 h' := (own.ext e1).old k2 (ext.trans e1) (Nat.le_refl _)
  refine ⟨hC _ ext2, s_sub (l' := (d2, v') :: l) ?_ (k v' h' o2 ext2 ((e1.only _).trans k2) ?_)⟩
  · intro j w hw
    simp only [look] at hw ⊢
    cases hj : Nat.beq j d2 with
    | true => rw [hj] at hw; exact hw
    | false =>
      rw [hj] at hw
      simp only [cond_false] at hw ⊢
      cases hj1 : Nat.beq j d1 with
      | true => have := Nat.eq_of_beq_eq_true hj1; subst this; rw [hn] at hw; cases hw
      | false => exact hw
  · rcases b2 with b2 | ⟨b, hb, hlt⟩
    · exact .inl b2
    · exact .inr ⟨b, hb, by omega⟩
end

section
variable {P : Program} {n : Nat} {Q : Post} {l : Fr} {h : Hp}
theorem w_mono {Q' : Post} {c : Code} (k : W P n c Q l h) (hq : ∀ e l h, Q e l h → Q' e l h) : W P n c Q' l h :=
  W.mk fun a w hf hw => wp_mono (k.run a w hf hw) fun e a' w' hk => lift_mono (Oth.refl w) hq hk
/-- What is known where two ways meet. -/
theorem w_tcut {σ : Type} {c y : Code} (F : σ → Fr) (D : σ → Hp → Prop) (k : W P n c (Cut F D Q) l h) (k2 : ∀ s h', D s h' → W P n y Q (F s) h') : W P n c (Then P n y Q) l h :=
  w_mono k fun e l' h' hq => by
    cases e with
    | normal => obtain ⟨s, g1, g2⟩ := hq; exact w_sub g1 (k2 s h' g2)
    | exit id => exact hq
    | goto l => exact hq
    | ret => exact hq
    | panic c => exact hq
    | outgrown => exact hq
end

theorem runM {R G : Prop} (r : R) (k : Res R → G := by intro r; (repeat (first | (apply s_moveNc; exact rfl) | (apply s_assignNc; exact rfl) | (apply s_moveUc; exact rfl) | (apply s_move; exact rfl; exact rfl) | (apply s_assignUc; exact rfl) | (apply s_assign; exact rfl; exact rfl) | (apply s_extract; exact rfl; exact rfl; exact rfl) | (apply s_pickT; exact rfl; exact rfl; exact rfl) | (apply s_pickF; exact rfl; exact rfl; exact rfl) | (apply s_not; exact rfl; exact rfl) | (apply s_lenF; exact rfl; exact rfl; (first | assumption | exact OwnF.sl (by assumption)); exact rfl) | (apply s_indexF; exact rfl; (first | exact isK_c | exact isK_t rfl); exact rfl; exact rfl; (first | assumption | exact OwnF.sl (by assumption)); exact rfl; (first | assumption | omega)) | (apply s_loadF 0; exact rfl; exact rfl; (first | exact rd_plain (by assumption) | exact rd_extF (by assumption) | exact rd_plain (OwnF.sl (by assumption)) | exact rd_extF (OwnF.sl (by assumption)) | exact rd_onlyF (by assumption) (by assumption)); exact rfl; (first | assumption | omega)) | (apply s_loadF undef; exact rfl; exact rfl; (first | exact rd_plain (by assumption) | exact rd_extF (by assumption) | exact rd_plain (OwnF.sl (by assumption)) | exact rd_extF (OwnF.sl (by assumption)) | exact rd_onlyF (by assumption) (by assumption)); exact rfl; (first | assumption | omega)) | (apply s_loadF (undef, []); exact rfl; exact rfl; (first | exact rd_plain (by assumption) | exact rd_extF (by assumption) | exact rd_plain (OwnF.sl (by assumption)) | exact rd_extF (OwnF.sl (by assumption)) | exact rd_onlyF (by assumption) (by assumption)); exact rfl; (first | assumption | omega)) | (apply s_slice_hF; exact rfl; (first | exact isK_c | exact isK_t rfl); exact rfl; exact rfl; (first | assumption | exact OwnF.sl (by assumption)); exact rfl; (first | assumption | omega)) | (apply s_slice_lF; exact rfl; (first | exact isK_c | exact isK_t rfl); exact rfl; exact rfl; (first | assumption | exact OwnF.sl (by assumption)); exact rfl; (first | assumption | omega)) | (apply s_slice_lhF; exact rfl; (first | exact isK_c | exact isK_t rfl); (first | exact isK_c | exact isK_t rfl); exact rfl; exact rfl; (first | assumption | exact OwnF.sl (by assumption)); exact rfl; (first | assumption | omega); (first | assumption | omega)) | (apply s_eqU; (first | exact isK_c | exact isK_t rfl); (first | exact isK_c | exact isK_t rfl); exact rfl) | (apply s_neU; (first | exact isK_c | exact isK_t rfl); (first | exact isK_c | exact isK_t rfl); exact rfl) | (apply s_ltU; (first | exact isK_c | exact isK_t rfl); (first | exact isK_c | exact isK_t rfl); exact rfl) | (apply s_leU; (first | exact isK_c | exact isK_t rfl); (first | exact isK_c | exact isK_t rfl); exact rfl) | (apply s_gtU; (first | exact isK_c | exact isK_t rfl); (first | exact isK_c | exact isK_t rfl); exact rfl) | (apply s_geU; (first | exact isK_c | exact isK_t rfl); (first | exact isK_c | exact isK_t rfl); exact rfl) | (apply s_eqN; (first | exact isK_c | exact isK_t rfl); (first | exact isK_c | exact isK_t rfl); exact rfl) | (apply s_neN; (first | exact isK_c | exact isK_t rfl); (first | exact isK_c | exact isK_t rfl); exact rfl) | (apply s_ltN; (first | exact isK_c | exact isK_t rfl); (first | exact isK_c | exact isK_t rfl); exact rfl) | (apply s_leN; (first | exact isK_c | exact isK_t rfl); (first | exact isK_c | exact isK_t rfl); exact rfl) | (apply s_gtN; (first | exact isK_c | exact isK_t rfl); (first | exact isK_c | exact isK_t rfl); exact rfl) | (apply s_geN; (first | exact isK_c | exact isK_t rfl); (first | exact isK_c | exact isK_t rfl); exact rfl) | (apply s_eqI; exact rfl; exact rfl; exact rfl) | (apply s_neI; exact rfl; exact rfl; exact rfl) | (apply s_ltI; exact rfl; exact rfl; exact rfl) | (apply s_leI; exact rfl; exact rfl; exact rfl) | (apply s_gtI; exact rfl; exact rfl; exact rfl) | (apply s_geI; exact rfl; exact rfl; exact rfl) | (apply s_addN; (first | exact isK_c | exact isK_t rfl); (first | exact isK_c | exact isK_t rfl); exact rfl; (first | assumption | omega)) | (apply s_subN; (first | exact isK_c | exact isK_t rfl); (first | exact isK_c | exact isK_t rfl); exact rfl; (first | assumption | omega)) | (apply s_mulN; (first | exact isK_c | exact isK_t rfl); (first | exact isK_c | exact isK_t rfl); exact rfl; (first | assumption | omega)) | (apply s_addI; exact rfl; exact rfl; exact rfl; (first | assumption | omega)) | (apply s_subI; exact rfl; exact rfl; exact rfl; (first | assumption | omega)) | (apply s_addU; (first | exact isK_c | exact isK_t rfl); (first | exact isK_c | exact isK_t rfl); exact rfl; (first | assumption | omega)) | (apply s_subU; (first | exact isK_c | exact isK_t rfl); (first | exact isK_c | exact isK_t rfl); exact rfl; (first | assumption | omega)) | (apply s_remU; (first | exact isK_c | exact isK_t rfl); (first | exact isK_c | exact isK_t rfl); exact rfl; (first | assumption | omega)) | (apply s_quoU; (first | exact isK_c | exact isK_t rfl); (first | exact isK_c | exact isK_t rfl); exact rfl; (first | assumption | omega)) | (apply s_mulU; (first | exact isK_c | exact isK_t rfl); (first | exact isK_c | exact isK_t rfl); exact rfl; (first | assumption | omega)) | (apply s_shlU'; (first | exact isK_c | exact isK_t rfl); (first | exact isK_c | exact isK_t rfl); exact rfl; (first | assumption | omega); (first | assumption | omega)) | (apply s_shlU; (first | exact isK_c | exact isK_t rfl); (first | exact isK_c | exact isK_t rfl); exact rfl; (first | assumption | omega)) | (apply s_shrU; (first | exact isK_c | exact isK_t rfl); (first | exact isK_c | exact isK_t rfl); exact rfl; (first | assumption | omega)) | (apply s_andU; (first | exact isK_c | exact isK_t rfl); (first | exact isK_c | exact isK_t rfl); exact rfl; (first | assumption | omega)) | (apply s_orU; (first | exact isK_c | exact isK_t rfl); (first | exact isK_c | exact isK_t rfl); exact rfl; (first | assumption | omega)) | (apply s_xorU; (first | exact isK_c | exact isK_t rfl); (first | exact isK_c | exact isK_t rfl); exact rfl; (first | assumption | omega)) | (apply s_negI; exact rfl; exact rfl; (first | assumption | omega)) | (apply s_negU; (first | exact isK_c | exact isK_t rfl); exact rfl; (first | assumption | omega)) | (apply s_convU; (first | exact isK_c | exact isK_t rfl); exact rfl; exact rfl; exact rfl; (first | assumption | omega)) | (apply s_convI; exact rfl; exact rfl; exact rfl; exact rfl; (first | assumption | omega)) | (apply s_quoN; (first | exact isK_c | exact isK_t rfl); (first | exact isK_c | exact isK_t rfl); exact rfl; (first | assumption | omega)) | (apply s_remN; (first | exact isK_c | exact isK_t rfl); (first | exact isK_c | exact isK_t rfl); exact rfl; (first | assumption | omega)) | (apply s_shrN; (first | exact isK_c | exact isK_t rfl); (first | exact isK_c | exact isK_t rfl); exact rfl; (first | assumption | omega)) | (apply s_convN; (first | exact isK_c | exact isK_t rfl); exact rfl; exact rfl; exact rfl; (first | assumption | omega)) | (apply s_op; exact rfl; exact rfl) | (apply s_skip; exact rfl; exact rfl; exact rfl) | (apply s_nil; exact rfl) | (apply s_op0; exact rfl; exact rfl) | apply then_normal | apply then_ret | apply then_exit | apply inb_normal | apply inb_ret | apply inb_here | (apply inb_past; exact rfl) | apply again_exit | apply again_ret | apply cut_exit | apply cut_ret | (apply w_seq; exact rfl) | (apply r_plain; exact rfl) | (apply w_block; exact rfl) | (apply w_ret; exact rfl) | (apply w_cond_true; exact rfl; exact rfl) | (apply w_cond_false; exact rfl; exact rfl) | (apply w_exit; exact rfl) | (apply w_skip; exact rfl) | (apply w_label; exact rfl) | (apply r_drawnX; exact rfl; exact mixed; kernel_rfl))); exact r.get) : G := k ⟨r⟩
theorem runMN {R G : Prop} (r : R) (k : Res R → G := by intro r; (repeat (first | (apply s_moveNc; exact rfl) | (apply s_assignNc; exact rfl) | (apply s_moveUc; exact rfl) | (apply s_move; exact rfl; exact rfl) | (apply s_assignUc; exact rfl) | (apply s_assign; exact rfl; exact rfl) | (apply s_extract; exact rfl; exact rfl; exact rfl) | (apply s_pickT; exact rfl; exact rfl; exact rfl) | (apply s_pickF; exact rfl; exact rfl; exact rfl) | (apply s_not; exact rfl; exact rfl) | (apply s_lenF; exact rfl; exact rfl; (first | assumption | exact OwnF.sl (by assumption)); exact rfl) | (apply s_indexF; exact rfl; (first | exact isK_c | exact isK_t rfl); exact rfl; exact rfl; (first | assumption | exact OwnF.sl (by assumption)); exact rfl; (first | assumption | omega)) | (apply s_loadF 0; exact rfl; exact rfl; (first | exact rd_plain (by assumption) | exact rd_extF (by assumption) | exact rd_plain (OwnF.sl (by assumption)) | exact rd_extF (OwnF.sl (by assumption)) | exact rd_onlyF (by assumption) (by assumption)); exact rfl; (first | assumption | omega)) | (apply s_loadF undef; exact rfl; exact rfl; (first | exact rd_plain (by assumption) | exact rd_extF (by assumption) | exact rd_plain (OwnF.sl (by assumption)) | exact rd_extF (OwnF.sl (by assumption)) | exact rd_onlyF (by assumption) (by assumption)); exact rfl; (first | assumption | omega)) | (apply s_loadF (undef, []); exact rfl; exact rfl; (first | exact rd_plain (by assumption) | exact rd_extF (by assumption) | exact rd_plain (OwnF.sl (by assumption)) | exact rd_extF (OwnF.sl (by assumption)) | exact rd_onlyF (by assumption) (by assumption)); exact rfl; (first | assumption | omega)) | (apply s_slice_hF; exact rfl; (first | exact isK_c | exact isK_t rfl); exact rfl; exact rfl; (first | assumption | exact OwnF.sl (by assumption)); exact rfl; (first | assumption | omega)) | (apply s_slice_lF; exact rfl; (first | exact isK_c | exact isK_t rfl); exact rfl; exact rfl; (first | assumption | exact OwnF.sl (by assumption)); exact rfl; (first | assumption | omega)) | (apply s_slice_lhF; exact rfl; (first | exact isK_c | exact isK_t rfl); (first | exact isK_c | exact isK_t rfl); exact rfl; exact rfl; (first | assumption | exact OwnF.sl (by assumption)); exact rfl; (first | assumption | omega); (first | assumption | omega)) | (apply s_eqU; (first | exact isK_c | exact isK_t rfl); (first | exact isK_c | exact isK_t rfl); exact rfl) | (apply s_neU; (first | exact isK_c | exact isK_t rfl); (first | exact isK_c | exact isK_t rfl); exact rfl) | (apply s_ltU; (first | exact isK_c | exact isK_t rfl); (first | exact isK_c | exact isK_t rfl); exact rfl) | (apply s_leU; (first | exact isK_c | exact isK_t rfl); (first | exact isK_c | exact isK_t rfl); exact rfl) | (apply s_gtU; (first | exact isK_c | exact isK_t rfl); (first | exact isK_c | exact isK_t rfl); exact rfl) | (apply s_geU; (first | exact isK_c | exact isK_t rfl); (first | exact isK_c | exact isK_t rfl); exact rfl) | (apply s_eqN; (first | exact isK_c | exact isK_t rfl); (first | exact isK_c | exact isK_t rfl); exact rfl) | (apply s_neN; (first | exact isK_c | exact isK_t rfl); (first | exact isK_c | exact isK_t rfl); exact rfl) | (apply s_ltN; (first | exact isK_c | exact isK_t rfl); (first | exact isK_c | exact isK_t rfl); exact rfl) | (apply s_leN; (first | exact isK_c | exact isK_t rfl); (first | exact isK_c | exact isK_t rfl); exact rfl) | (apply s_gtN; (first | exact isK_c | exact isK_t rfl); (first | exact isK_c | exact isK_t rfl); exact rfl) | (apply s_geN; (first | exact isK_c | exact isK_t rfl); (first | exact isK_c | exact isK_t rfl); exact rfl) | (apply s_eqI; exact rfl; exact rfl; exact rfl) | (apply s_neI; exact rfl; exact rfl; exact rfl) | (apply s_ltI; exact rfl; exact rfl; exact rfl) | (apply s_leI; exact rfl; exact rfl; exact rfl) | (apply s_gtI; exact rfl; exact rfl; exact rfl) | (apply s_geI; exact rfl; exact rfl; exact rfl) | (apply s_addN; (first | exact isK_c | exact isK_t rfl); (first | exact isK_c | exact isK_t rfl); exact rfl; (first | assumption | omega)) | (apply s_subN; (first | exact isK_c | exact isK_t rfl); (first | exact isK_c | exact isK_t rfl); exact rfl; (first | assumption | omega)) | (apply s_mulN; (first | exact isK_c | exact isK_t rfl); (first | exact isK_c | exact isK_t rfl); exact rfl; (first | assumption | omega)) | (apply s_addI; exact rfl; exact rfl; exact rfl; (first | assumption | omega)) | (apply s_subI; exact rfl; exact rfl; exact rfl; (first | assumption | omega)) | (apply s_addU; (first | exact isK_c | exact isK_t rfl); (first | exact isK_c | exact isK_t rfl); exact rfl; (first | assumption | omega)) | (apply s_subU; (first | exact isK_c | exact isK_t rfl); (first | exact isK_c | exact isK_t rfl); exact rfl; (first | assumption | omega)) | (apply s_remU; (first | exact isK_c | exact isK_t rfl); (first | exact isK_c | exact isK_t rfl); exact rfl; (first | assumption | omega)) | (apply s_quoU; (first | exact isK_c | exact isK_t rfl); (first | exact isK_c | exact isK_t rfl); exact rfl; (first | assumption | omega)) | (apply s_mulU; (first | exact isK_c | exact isK_t rfl); (first | exact isK_c | exact isK_t rfl); exact rfl; (first | assumption | omega)) | (apply s_shlU'; (first | exact isK_c | exact isK_t rfl); (first | exact isK_c | exact isK_t rfl); exact rfl; (first | assumption | omega); (first | assumption | omega)) | (apply s_shlU; (first | exact isK_c | exact isK_t rfl); (first | exact isK_c | exact isK_t rfl); exact rfl; (first | assumption | omega)) | (apply s_shrU; (first | exact isK_c | exact isK_t rfl); (first | exact isK_c | exact isK_t rfl); exact rfl; (first | assumption | omega)) | (apply s_andU; (first | exact isK_c | exact isK_t rfl); (first | exact isK_c | exact isK_t rfl); exact rfl; (first | assumption | omega)) | (apply s_orU; (first | exact isK_c | exact isK_t rfl); (first | exact isK_c | exact isK_t rfl); exact rfl; (first | assumption | omega)) | (apply s_xorU; (first | exact isK_c | exact isK_t rfl); (first | exact isK_c | exact isK_t rfl); exact rfl; (first | assumption | omega)) | (apply s_negI; exact rfl; exact rfl; (first | assumption | omega)) | (apply s_negU; (first | exact isK_c | exact isK_t rfl); exact rfl; (first | assumption | omega)) | (apply s_convU; (first | exact isK_c | exact isK_t rfl); exact rfl; exact rfl; exact rfl; (first | assumption | omega)) | (apply s_convI; exact rfl; exact rfl; exact rfl; exact rfl; (first | assumption | omega)) | (apply s_quoN; (first | exact isK_c | exact isK_t rfl); (first | exact isK_c | exact isK_t rfl); exact rfl; (first | assumption | omega)) | (apply s_remN; (first | exact isK_c | exact isK_t rfl); (first | exact isK_c | exact isK_t rfl); exact rfl; (first | assumption | omega)) | (apply s_shrN; (first | exact isK_c | exact isK_t rfl); (first | exact isK_c | exact isK_t rfl); exact rfl; (first | assumption | omega)) | (apply s_convN; (first | exact isK_c | exact isK_t rfl); exact rfl; exact rfl; exact rfl; (first | assumption | omega)) | (apply s_op; exact rfl; exact rfl) | (apply s_skip; exact rfl; exact rfl; exact rfl) | (apply s_nil; exact rfl) | (apply s_op0; exact rfl; exact rfl) | apply then_normal | apply then_ret | apply then_exit | apply inb_normal | apply inb_ret | apply inb_here | (apply inb_past; exact rfl) | apply again_exit | apply again_ret | apply cut_exit | apply cut_ret | (apply w_seq; exact rfl) | (apply r_plain; exact rfl) | (apply w_block; exact rfl) | (apply w_ret; exact rfl) | (apply w_cond_true; exact rfl; exact rfl) | (apply w_cond_false; exact rfl; exact rfl) | (apply w_exit; exact rfl) | (apply w_skip; exact rfl) | (apply w_label; exact rfl))); exact r.get) : G := k ⟨r⟩
theorem runMD {R G : Prop} (r : R) (k : Res R → G := by intro r; (repeat (first | (apply s_yesH; (first | assumption | omega)) | (apply s_noH; (first | assumption | omega)) | (apply s_moveNc; exact rfl) | (apply s_assignNc; exact rfl) | (apply s_moveUc; exact rfl) | (apply s_move; exact rfl; exact rfl) | (apply s_assignUc; exact rfl) | (apply s_assign; exact rfl; exact rfl) | (apply s_extract; exact rfl; exact rfl; exact rfl) | (apply s_pickT; exact rfl; exact rfl; exact rfl) | (apply s_pickF; exact rfl; exact rfl; exact rfl) | (apply s_not; exact rfl; exact rfl) | (apply s_lenF; exact rfl; exact rfl; (first | assumption | exact OwnF.sl (by assumption)); exact rfl) | (apply s_indexF; exact rfl; (first | exact isK_c | exact isK_t rfl); exact rfl; exact rfl; (first | assumption | exact OwnF.sl (by assumption)); exact rfl; (first | assumption | omega)) | (apply s_loadF 0; exact rfl; exact rfl; (first | exact rd_plain (by assumption) | exact rd_extF (by assumption) | exact rd_plain (OwnF.sl (by assumption)) | exact rd_extF (OwnF.sl (by assumption)) | exact rd_onlyF (by assumption) (by assumption)); exact rfl; (first | assumption | omega)) | (apply s_loadF undef; exact rfl; exact rfl; (first | exact rd_plain (by assumption) | exact rd_extF (by assumption) | exact rd_plain (OwnF.sl (by assumption)) | exact rd_extF (OwnF.sl (by assumption)) | exact rd_onlyF (by assumption) (by assumption)); exact rfl; (first | assumption | omega)) | (apply s_loadF (undef, []); exact rfl; exact rfl; (first | exact rd_plain (by assumption) | exact rd_extF (by assumption) | exact rd_plain (OwnF.sl (by assumption)) | exact rd_extF (OwnF.sl (by assumption)) | exact rd_onlyF (by assumption) (by assumption)); exact rfl; (first | assumption | omega)) | (apply s_slice_hF; exact rfl; (first | exact isK_c | exact isK_t rfl); exact rfl; exact rfl; (first | assumption | exact OwnF.sl (by assumption)); exact rfl; (first | assumption | omega)) | (apply s_slice_lF; exact rfl; (first | exact isK_c | exact isK_t rfl); exact rfl; exact rfl; (first | assumption | exact OwnF.sl (by assumption)); exact rfl; (first | assumption | omega)) | (apply s_slice_lhF; exact rfl; (first | exact isK_c | exact isK_t rfl); (first | exact isK_c | exact isK_t rfl); exact rfl; exact rfl; (first | assumption | exact OwnF.sl (by assumption)); exact rfl; (first | assumption | omega); (first | assumption | omega)) | (apply s_eqU; (first | exact isK_c | exact isK_t rfl); (first | exact isK_c | exact isK_t rfl); exact rfl) | (apply s_neU; (first | exact isK_c | exact isK_t rfl); (first | exact isK_c | exact isK_t rfl); exact rfl) | (apply s_ltU; (first | exact isK_c | exact isK_t rfl); (first | exact isK_c | exact isK_t rfl); exact rfl) | (apply s_leU; (first | exact isK_c | exact isK_t rfl); (first | exact isK_c | exact isK_t rfl); exact rfl) | (apply s_gtU; (first | exact isK_c | exact isK_t rfl); (first | exact isK_c | exact isK_t rfl); exact rfl) | (apply s_geU; (first | exact isK_c | exact isK_t rfl); (first | exact isK_c | exact isK_t rfl); exact rfl) | (apply s_eqN; (first | exact isK_c | exact isK_t rfl); (first | exact isK_c | exact isK_t rfl); exact rfl) | (apply s_neN; (first | exact isK_c | exact isK_t rfl); (first | exact isK_c | exact isK_t rfl); exact rfl) | (apply s_ltN; (first | exact isK_c | exact isK_t rfl); (first | exact isK_c | exact isK_t rfl); exact rfl) | (apply s_leN; (first | exact isK_c | exact isK_t rfl); (first | exact isK_c | exact isK_t rfl); exact rfl) | (apply s_gtN; (first | exact isK_c | exact isK_t rfl); (first | exact isK_c | exact isK_t rfl); exact rfl) | (apply s_geN; (first | exact isK_c | exact isK_t rfl); (first | exact isK_c | exact isK_t rfl); exact rfl) | (apply s_eqI; exact rfl; exact rfl; exact rfl) | (apply s_neI; exact rfl; exact rfl; exact rfl) | (apply s_ltI; exact rfl; exact rfl; exact rfl) | (apply s_leI; exact rfl; exact rfl; exact rfl) | (apply s_gtI; exact rfl; exact rfl; exact rfl) | (apply s_geI; exact rfl; exact rfl; exact rfl) | (apply s_addN; (first | exact isK_c | exact isK_t rfl); (first | exact isK_c | exact isK_t rfl); exact rfl; (first | assumption | omega)) | (apply s_subN; (first | exact isK_c | exact isK_t rfl); (first | exact isK_c | exact isK_t rfl); exact rfl; (first | assumption | omega)) | (apply s_mulN; (first | exact isK_c | exact isK_t rfl); (first | exact isK_c | exact isK_t rfl); exact rfl; (first | assumption | omega)) | (apply s_addI; exact rfl; exact rfl; exact rfl; (first | assumption | omega)) | (apply s_subI; exact rfl; exact rfl; exact rfl; (first | assumption | omega)) | (apply s_addU; (first | exact isK_c | exact isK_t rfl); (first | exact isK_c | exact isK_t rfl); exact rfl; (first | assumption | omega)) | (apply s_subU; (first | exact isK_c | exact isK_t rfl); (first | exact isK_c | exact isK_t rfl); exact rfl; (first | assumption | omega)) | (apply s_remU; (first | exact isK_c | exact isK_t rfl); (first | exact isK_c | exact isK_t rfl); exact rfl; (first | assumption | omega)) | (apply s_quoU; (first | exact isK_c | exact isK_t rfl); (first | exact isK_c | exact isK_t rfl); exact rfl; (first | assumption | omega)) | (apply s_mulU; (first | exact isK_c | exact isK_t rfl); (first | exact isK_c | exact isK_t rfl); exact rfl; (first | assumption | omega)) | (apply s_shlU'; (first | exact isK_c | exact isK_t rfl); (first | exact isK_c | exact isK_t rfl); exact rfl; (first | assumption | omega); (first | assumption | omega)) | (apply s_shlU; (first | exact isK_c | exact isK_t rfl); (first | exact isK_c | exact isK_t rfl); exact rfl; (first | assumption | omega)) | (apply s_shrU; (first | exact isK_c | exact isK_t rfl); (first | exact isK_c | exact isK_t rfl); exact rfl; (first | assumption | omega)) | (apply s_andU; (first | exact isK_c | exact isK_t rfl); (first | exact isK_c | exact isK_t rfl); exact rfl; (first | assumption | omega)) | (apply s_orU; (first | exact isK_c | exact isK_t rfl); (first | exact isK_c | exact isK_t rfl); exact rfl; (first | assumption | omega)) | (apply s_xorU; (first | exact isK_c | exact isK_t rfl); (first | exact isK_c | exact isK_t rfl); exact rfl; (first | assumption | omega)) | (apply s_negI; exact rfl; exact rfl; (first | assumption | omega)) | (apply s_negU; (first | exact isK_c | exact isK_t rfl); exact rfl; (first | assumption | omega)) | (apply s_convU; (first | exact isK_c | exact isK_t rfl); exact rfl; exact rfl; exact rfl; (first | assumption | omega)) | (apply s_convI; exact rfl; exact rfl; exact rfl; exact rfl; (first | assumption | omega)) | (apply s_quoN; (first | exact isK_c | exact isK_t rfl); (first | exact isK_c | exact isK_t rfl); exact rfl; (first | assumption | omega)) | (apply s_remN; (first | exact isK_c | exact isK_t rfl); (first | exact isK_c | exact isK_t rfl); exact rfl; (first | assumption | omega)) | (apply s_shrN; (first | exact isK_c | exact isK_t rfl); (first | exact isK_c | exact isK_t rfl); exact rfl; (first | assumption | omega)) | (apply s_convN; (first | exact isK_c | exact isK_t rfl); exact rfl; exact rfl; exact rfl; (first | assumption | omega)) | (apply s_op; exact rfl; exact rfl) | (apply s_skip; exact rfl; exact rfl; exact rfl) | (apply s_nil; exact rfl) | (apply s_op0; exact rfl; exact rfl) | apply then_normal | apply then_ret | apply then_exit | apply inb_normal | apply inb_ret | apply inb_here | (apply inb_past; exact rfl) | apply again_exit | apply again_ret | apply cut_exit | apply cut_ret | (apply w_seq; exact rfl) | (apply r_plain; exact rfl) | (apply w_block; exact rfl) | (apply w_ret; exact rfl) | (apply w_cond_true; exact rfl; exact rfl) | (apply w_cond_false; exact rfl; exact rfl) | (apply w_exit; exact rfl) | (apply w_skip; exact rfl) | (apply w_label; exact rfl) | (apply r_drawnX; exact rfl; exact mixed; kernel_rfl))); exact r.get) : G := k ⟨r⟩
end Go.Den
