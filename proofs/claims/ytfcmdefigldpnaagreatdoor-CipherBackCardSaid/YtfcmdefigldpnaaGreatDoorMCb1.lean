/- Texts DenA to DenB of this work, joined, without what the law does not lean on. -/
import Derived.Test.YtfcmdefigldpnaaGreatDoorRows
import Derived.WalkKit
namespace Go.Den
set_option linter.unusedVariables false
set_option maxRecDepth 8000
open Go Go.RowKit

section order
variable {P : Program} {ops : Array Oper} {C : World → Prop} {E : Nat → Bool}

def EffUpon (P : Program) (K : Value → World → Prop) : Result Next → Prop
  | .ok (.value v) w' => K v w'
  | .ok .skip w' => K undef w'
  | .ok (.enter f args) w' => Calls P f args w' fun
      | .returned v, w'' => K v w''
      | _, _ => False
  | _ => False

def Eff (P : Program) (o : Oper) (a : Act) (w : World) (K : Value → World → Prop) : Prop := EffUpon P K ((execOp a.eval o).run P w)

theorem EffUpon_mono {K K' : Value → World → Prop} (hk : ∀ v w, K v w → K' v w) {r : Result Next} (h : EffUpon P K r) : EffUpon P K' r := by
  cases r with
  | ok n w' =>
    cases n <;> simp only [EffUpon] at h ⊢
    case value v => exact hk _ _ h
    case skip => exact hk _ _ h
    case enter f args =>
      refine h.mono fun e w'' he => ?_
      cases e with
      | returned v => exact hk _ _ he
      | panicked c => exact he
      | outgrown => exact he
  | halt x w' => exact h

theorem Eff_mono {o : Oper} {a : Act} {w : World} {K K' : Value → World → Prop} (hk : ∀ v w, K v w → K' v w) (h : Eff P o a w K) : Eff P o a w K' := EffUpon_mono hk h

theorem EffUpon_some {K : Value → World → Prop} {r : Result Next} (h : EffUpon P K r) : ∃ v w', K v w' := by
  cases r with
  | ok n w' =>
    cases n <;> simp only [EffUpon] at h
    case value v => exact ⟨_, _, h⟩
    case skip => exact ⟨_, _, h⟩
    case enter f args =>
      obtain ⟨e, w'', fr, he, -⟩ := h []
      cases e with
      | returned v => exact ⟨_, _, he⟩
      | panicked c => exact he.elim
      | outgrown => exact he.elim
  | halt x w' => exact h.elim

theorem wp_of_Eff {o : Oper} {a : Act} {w : World} {K : Value → World → Prop} {K' : Act → World → Prop} {Q : Exit → Act → World → Prop}
    (hk : ∀ v w', K v w' → K' (a.put o.dst v) w') (h : Eff P o a w K) : o.wp P a w K' Q := by
  unfold Eff at h
  unfold Oper.wp
  generalize (execOp a.eval o).run P w = r at *
  cases r with
  | ok n w' =>
    cases n <;> simp only [EffUpon] at h <;> simp only [Oper.upon]
    case value v => exact hk _ _ h
    case skip => exact hk _ _ h
    case enter f args =>
      refine h.mono fun e w'' he => ?_
      cases e with
      | returned v => exact hk _ _ he
      | panicked c => exact he.elim
      | outgrown => exact he.elim
  | halt x w' => exact h.elim

def Wanted (ops : Array Oper) (o : Oper) (a : Act) : Bool := Region.wanted o (yielded ops a.tmps)

def Stab (P : Program) (ops : Array Oper) (C : World → Prop) (o : Oper) (v : Value) (a : Act) : Prop :=
  (Wanted ops o a = true ∧ ∀ w', C w' → (execOp a.eval o).run P w' = .ok (.value v) w') ∨ (Wanted ops o a = false ∧ v = undef)

theorem Stab.of_same {o : Oper} {v : Value} {a a' : Act} (h : Stab P ops C o v a) (he : execOp a'.eval o = execOp a.eval o) (hw : Wanted ops o a' = Wanted ops o a) : Stab P ops C o v a' := by
  unfold Stab at *; rw [he, hw]; exact h

theorem Stab.unique {o : Oper} {v u : Value} {a : Act} {w : World} (hw : C w) (h : Stab P ops C o v a) (k : Stab P ops C o u a) : v = u := by
  rcases h with ⟨h1, h2⟩ | ⟨h1, h2⟩ <;> rcases k with ⟨k1, k2⟩ | ⟨k1, k2⟩
  · have a1 := h2 w hw; rw [k2 w hw] at a1; cases a1; rfl
  · rw [h1] at k1; cases k1
  · rw [h1] at k1; cases k1
  · rw [h2, k2]

def Mix (P : Program) (ops : Array Oper) (C : World → Prop) (E : Nat → Bool) (Q : Act → World → Prop) : List Nat → Act → World → Prop
  | [], a, w => Q a w
  | i :: L, a, w => ∃ o, ops[i]? = some o ∧
      ((∃ v, Stab P ops C o v a ∧ Mix P ops C E Q L (a.put o.dst v) w) ∨
       (E i = true ∧ Wanted ops o a = true ∧ Eff P o a w fun v w' => C w' ∧ Mix P ops C E Q L (a.put o.dst v) w'))

def NoSel (ops : Array Oper) : Prop := ∀ (j : Nat) (o : Oper) cs b, ops[j]? = some o → o.op ≠ .select cs b

theorem pull (hs : NoSel ops) {Q : Act → World → Prop} {j : Nat} {oj : Oper} (hj : ops[j]? = some oj) (post : List Nat) : ∀ (pre : List Nat) (a : Act) (w : World), C w →
    (∀ i ∈ pre, (∀ oi, ops[i]? = some oi → oi.apart ops oj = true) ∧ ¬ (E i = true ∧ E j = true)) →
    Mix P ops C E Q (pre ++ j :: post) a w →
    (∃ v, Stab P ops C oj v a ∧ Mix P ops C E Q (pre ++ post) (a.put oj.dst v) w) ∨
    (E j = true ∧ Wanted ops oj a = true ∧ Eff P oj a w fun v w' => C w' ∧ Mix P ops C E Q (pre ++ post) (a.put oj.dst v) w')
  | [], a, w, _, _, h => by
    obtain ⟨o, ho, h⟩ := h
    rw [hj] at ho; cases ho
    exact h
  | i :: pre, a, w, hC, hp, h => by
    obtain ⟨oi, hi, h⟩ := h
    obtain ⟨hap, hch⟩ := hp i (by simp)
    have hp' : ∀ i ∈ pre, (∀ oi, ops[i]? = some oi → oi.apart ops oj = true) ∧ ¬ (E i = true ∧ E j = true) := fun k hk => hp k (by simp [hk])
    obtain ⟨h1, h2, h3⟩ := Oper.apart_spec (hap oi hi)
    have hsi : ∀ cs b, oi.op ≠ .select cs b := fun cs b => hs i oi cs b hi
    have hsj : ∀ cs b, oj.op ≠ .select cs b := fun cs b => hs j oj cs b hj
    -- j does not see what i writes; i does not see what j writes
    have ej : ∀ (a : Act) (u : Value), execOp (a.put oi.dst u).eval oj = execOp a.eval oj := fun a u => execOp_put oj hsj a oi.dst u h1
    have wj : ∀ (a : Act) (u : Value), Wanted ops oj (a.put oi.dst u) = Wanted ops oj a := fun a u => wanted_put oj a oi.dst u h1
    have ei : ∀ (a : Act) (u : Value), execOp (a.put oj.dst u).eval oi = execOp a.eval oi := fun a u => execOp_put oi hsi a oj.dst u h3
    have wi : ∀ (a : Act) (u : Value), Wanted ops oi (a.put oj.dst u) = Wanted ops oi a := fun a u => wanted_put oi a oj.dst u h3
    have pc : ∀ (a : Act) (u v : Value), (a.put oi.dst u).put oj.dst v = (a.put oj.dst v).put oi.dst u := fun a u v => Act.put_comm a u v h2
    rcases h with ⟨u, hu, h⟩ | ⟨hE, hW, h⟩
    · rcases pull hs hj post pre (a.put oi.dst u) w hC hp' h with ⟨v, hv, k⟩ | ⟨hEj, hWj, k⟩
      · refine .inl ⟨v, hv.of_same (ej a u).symm (wj a u).symm, oi, hi, .inl ⟨u, hu.of_same (ei a v) (wi a v), ?_⟩⟩
        rw [← pc a u v]; exact k
      · refine .inr ⟨hEj, by rw [← wj a u]; exact hWj, ?_⟩
        unfold Eff at k ⊢
        rw [ej a u] at k
        exact EffUpon_mono (fun v w' hk => ⟨hk.1, oi, hi, .inl ⟨u, hu.of_same (ei a v) (wi a v), by rw [← pc a u v]; exact hk.2⟩⟩) k
    · have hEj : ¬ E j = true := fun e => hch ⟨hE, e⟩
      have step : Eff P oi a w fun u w' => C w' ∧ ∃ v, Stab P ops C oj v a ∧ Mix P ops C E Q (pre ++ post) ((a.put oj.dst v).put oi.dst u) w' := by
        refine Eff_mono (fun u w' hk => ⟨hk.1, ?_⟩) h
        rcases pull hs hj post pre (a.put oi.dst u) w' hk.1 hp' hk.2 with ⟨v, hv, k⟩ | ⟨hEj', -, -⟩
        · exact ⟨v, hv.of_same (ej a u).symm (wj a u).symm, by rw [← pc a u v]; exact k⟩
        · exact absurd hEj' hEj
      obtain ⟨u0, w0, hc0, v0, hv0, -⟩ := EffUpon_some step
      refine .inl ⟨v0, hv0, oi, hi, .inr ⟨hE, by rw [wi a v0]; exact hW, ?_⟩⟩
      unfold Eff at step ⊢
      rw [ei a v0]
      refine EffUpon_mono (fun u w' hk => ?_) step
      obtain ⟨hc, v, hv, k⟩ := hk
      rw [Stab.unique hC hv hv0] at k
      exact ⟨hc, k⟩


def maskOf (acc : Array Nat) : List Edge → Nat
  | [] => 0
  | e :: es => if Region.binds .any e then (2 ^ e.on ||| acc.getD e.on 0) ||| maskOf acc es else maskOf acc es

def ancGo : List Oper → Array Nat → Array Nat
  | [], acc => acc
  | o :: os, acc => ancGo os (acc.push (maskOf acc o.after.toList))

def Closed (ops : Array Oper) (lst : Nat → Bool) : Prop := ∀ j o, ops[j]? = some o → lst j = true → ∀ e ∈ o.after.toList, Region.binds .any e = true → lst e.on = true

theorem mask_sound {acc : Array Nat} {lst : Nat → Bool} (hacc : ∀ k, lst k = true → ∀ i, (acc.getD k 0).testBit i = true → lst i = true) :
    ∀ (es : List Edge), (∀ e ∈ es, Region.binds .any e = true → lst e.on = true) → ∀ i, (maskOf acc es).testBit i = true → lst i = true
  | [], _, i, h => by simp [maskOf] at h
  | e :: es, he, i, h => by
    unfold maskOf at h
    have ih := mask_sound hacc es (fun e' h' => he e' (by simp [h']))
    by_cases hb : Region.binds .any e = true
    · rw [if_pos hb, Nat.testBit_or, Nat.testBit_or] at h
      have hl := he e (by simp) hb
      simp only [Bool.or_eq_true] at h
      rcases h with (h | h) | h
      · rw [Nat.testBit_two_pow] at h
        have : e.on = i := by simpa using h
        rw [← this]; exact hl
      · exact hacc _ hl _ h
      · exact ih _ h
    · rw [if_neg hb] at h; exact ih _ h

theorem anc_sound {ops : Array Oper} {lst : Nat → Bool} (hcl : Closed ops lst) : ∀ (os : List Oper) (acc : Array Nat), (∀ j, os[j]? = ops[acc.size + j]?) →
    (∀ k o, k < acc.size → ops[k]? = some o → (∀ e ∈ o.after.toList, Region.binds .any e = true → lst e.on = true) → ∀ i, (acc.getD k 0).testBit i = true → lst i = true) →
    (∀ k, acc.size ≤ k → k < acc.size + os.length → ∃ o, ops[k]? = some o) → (∀ k, k < acc.size → ∃ o, ops[k]? = some o) →
    ∀ k o, ops[k]? = some o → k < acc.size + os.length → (∀ e ∈ o.after.toList, Region.binds .any e = true → lst e.on = true) → ∀ i, ((ancGo os acc).getD k 0).testBit i = true → lst i = true
  | [], acc, _, hacc, _, _, k, o, ho, hk, he, i, h => hacc k o (by simpa using hk) ho he i h
  | x :: os, acc, hos, hacc, hex, hex', k, o, ho, hk, he, i, h => by
    have hx : ops[acc.size]? = some x := by simpa using (hos 0).symm
    refine anc_sound hcl os (acc.push (maskOf acc x.after.toList)) (fun j => by have := hos (j + 1); simpa [Nat.add_assoc, Nat.add_comm 1 j] using this) ?_ (fun k h1 h2 => hex k (by simp at h1; omega) (by simp at h2 ⊢; omega)) (fun k h1 => by
        simp at h1
        by_cases hk : k < acc.size
        · exact hex' k hk
        · exact ⟨x, by rw [show k = acc.size by omega]; exact hx⟩) k o ho (by simp at hk ⊢; omega) he i h
    intro k' o' hk' ho' he' i' h'
    simp at hk'
    have inner : ∀ k, lst k = true → ∀ i, (acc.getD k 0).testBit i = true → lst i = true := fun k'' hl i'' hi'' => by
      by_cases hlt : k'' < acc.size
      · obtain ⟨o'', ho''⟩ := hex' k'' hlt
        exact hacc k'' o'' hlt ho'' (fun e he hb => hcl k'' o'' ho'' hl e he hb) i'' hi''
      · rw [Array.getD_eq_getD_getElem?, Array.getElem?_eq_none (by omega)] at hi''
        simp at hi''
    by_cases hlt : k' < acc.size
    · refine hacc k' o' hlt ho' he' i' ?_
      rw [Array.getD_eq_getD_getElem?, Array.getElem?_push, if_neg (by omega), ← Array.getD_eq_getD_getElem?] at h'
      exact h'
    · have hke : k' = acc.size := by omega
      subst hke
      rw [hx] at ho'; cases ho'
      rw [Array.getD_eq_getD_getElem?, Array.getElem?_push, if_pos rfl] at h'
      exact mask_sound inner _ he' i' h'

def regionOk (ops : List Oper) (E : Nat → Bool) : Bool :=
  let A := ops.toArray
  let an := ancGo ops #[]
  Region.noSelect A &&
  ops.zipIdx.all fun (oj, j) =>
    oj.after.toList.all (fun e => !Region.binds .any e || Nat.blt e.on j) &&
    (ops.take j).zipIdx.all fun (oi, i) =>
      ((oj.after.toList.any fun e => Region.binds .any e && Nat.beq e.on i) || oi.apart A oj) &&
      (!(E i && E j) || (an.getD j 0).testBit i)

theorem zipIdx_all {α : Type} {p : α × Nat → Bool} {l : List α} (h : l.zipIdx.all p = true) {j : Nat} {x : α} (hj : l[j]? = some x) : p (x, j) = true := by
  rw [List.all_eq_true] at h
  refine h (x, j) ?_
  rw [List.mem_zipIdx_iff_getElem?]
  exact hj

theorem regionOk_spec {l : List Oper} (h : regionOk l E = true) : NoSel l.toArray ∧
    (∀ j oj, l[j]? = some oj → ∀ e ∈ oj.after.toList, Region.binds .any e = true → e.on < j) ∧
    (∀ i j oi oj, i < j → l[i]? = some oi → l[j]? = some oj → ((∃ e ∈ oj.after.toList, Region.binds .any e = true ∧ e.on = i) ∨ oi.apart l.toArray oj = true) ∧
      (E i = true → E j = true → ((ancGo l #[]).getD j 0).testBit i = true)) := by
  unfold regionOk at h
  simp only [Bool.and_eq_true] at h
  obtain ⟨h0, h⟩ := h
  refine ⟨Region.noSelect_spec h0, fun j oj hj e he hb => ?_, fun i j oi oj hij hi hj => ?_⟩
  · have h1 := zipIdx_all h hj
    simp only [Bool.and_eq_true, List.all_eq_true] at h1
    have := h1.1 e he
    simp only [hb, Bool.not_true, Bool.false_or] at this
    exact Nat.le_of_ble_eq_true this
  · have h1 := zipIdx_all h hj
    simp only [Bool.and_eq_true] at h1
    have h2 := zipIdx_all h1.2 (show (l.take j)[i]? = some oi by rw [List.getElem?_take, if_pos hij]; exact hi)
    simp only [Bool.and_eq_true, Bool.or_eq_true] at h2
    obtain ⟨h3, h4⟩ := h2
    refine ⟨?_, fun ei ej => ?_⟩
    · rcases h3 with h3 | h3
      · rw [List.any_eq_true] at h3
        obtain ⟨e, he, hb⟩ := h3
        simp only [Bool.and_eq_true] at hb
        exact .inl ⟨e, he, hb.1, Nat.eq_of_beq_eq_true hb.2⟩
      · exact .inr h3
    · simpa [ei, ej] using h4

theorem any_of_mix {l : List Oper} {Q : Exit → Act → World → Prop} (h : regionOk l E = true) : ∀ (m : Nat) (L : List Nat) (listed : Array Bool) (a : Act) (w : World),
    L.length = m → L.Pairwise (· < ·) → (∀ i, i ∈ L ↔ i < l.length ∧ listed.getD i true = false) → listed.size = l.length →
    Closed l.toArray (fun i => listed.getD i false) → C w → Mix P l.toArray C E (fun a w => Q .normal a w) L a w → wpAny P .any l.toArray Q m listed a w := by
  obtain ⟨hs, hback, hpair⟩ := regionOk_spec h
  intro m
  induction m with
  | zero =>
    intro L listed a w hlen hsort hmem hsz hcl hC hm
    have hL : L = [] := List.length_eq_zero_iff.1 hlen
    subst hL
    refine ⟨?_, hm⟩
    rw [List.eq_nil_iff_forall_not_mem]
    intro j hj
    obtain ⟨h1, o, ho, -⟩ := mem_ready.1 hj
    have hjl : j < l.length := by simpa using (Array.getElem?_eq_some_iff.1 ho).1
    have := (hmem j).2 ⟨hjl, h1⟩
    simp at this
  | succ m ih =>
    intro L listed a w hlen hsort hmem hsz hcl hC hm
    refine ⟨fun hnil => ?_, fun j hj => ?_⟩
    · -- the first that is left may come up
      cases L with
      | nil => simp at hlen
      | cons k L' =>
        exfalso
        have hk := (hmem k).1 (by simp)
        have hkr : k ∈ Region.ready .any l.toArray listed := by
          refine mem_ready.2 ⟨hk.2, l[k]'hk.1, by simp [hk.1], fun e he hb => ?_⟩
          have hlt := hback k (l[k]'hk.1) (by simp [hk.1]) e (by simpa using he) hb
          have hlt' : e.on < l.length := Nat.lt_trans hlt hk.1
          cases hg : listed.getD e.on true with
          | true =>
            rw [Array.getD_eq_getD_getElem?] at hg ⊢
            rw [Array.getElem?_eq_getElem (by omega)] at hg ⊢
            simpa using hg
          | false =>
            have hin := (hmem e.on).2 ⟨hlt', hg⟩
            rcases List.mem_cons.1 hin with heq | hin'
            · omega
            · have := (List.pairwise_cons.1 hsort).1 _ hin'
              omega
        rw [hnil] at hkr
        cases hkr
    · obtain ⟨hj1, oj, hoj, hjall⟩ := mem_ready.1 hj
      have hjl : j < l.length := by simpa using (Array.getElem?_eq_some_iff.1 hoj).1
      have hoj' : l[j]? = some oj := by simpa using hoj
      have hjL : j ∈ L := (hmem j).2 ⟨hjl, hj1⟩
      obtain ⟨pre, post, rfl⟩ := List.append_of_mem hjL
      have hpre : ∀ i ∈ pre, i < j := fun i hi => by
        have := List.pairwise_append.1 hsort
        exact this.2.2 i hi j (by simp)
      have hdep : ∀ e ∈ oj.after.toList, Region.binds .any e = true → listed.getD e.on false = true := fun e he hb => hjall e (by simpa using he) hb
      have hap : ∀ i ∈ pre, (∀ oi, l.toArray[i]? = some oi → oi.apart l.toArray oj = true) ∧ ¬ (E i = true ∧ E j = true) := fun i hi => by
        have hi1 := (hmem i).1 (by simp [hi])
        have hif : listed.getD i false = false := by
          have h1 := hi1.2
          rw [Array.getD_eq_getD_getElem?] at h1 ⊢
          rw [Array.getElem?_eq_getElem (by omega)] at h1 ⊢
          simpa using h1
        refine ⟨fun oi hoi => ?_, fun ⟨e1, e2⟩ => ?_⟩
        · obtain ⟨hor, -⟩ := hpair i j oi oj (hpre i hi) (by simpa using hoi) hoj'
          rcases hor with ⟨e, he, hb, heq⟩ | hap
          · have := hdep e he hb
            rw [heq, hif] at this
            cases this
          · exact hap
        · obtain ⟨-, hch⟩ := hpair i j (l[i]'hi1.1) oj (hpre i hi) (by simp [hi1.1]) hoj'
          have hb := hch e1 e2
          have := anc_sound (ops := l.toArray) hcl l #[] (by simp) (by simp) (fun k _ hk => ⟨l[k]'(by simpa using hk), by simp at hk; simp [hk]⟩) (by simp) j oj hoj (by simpa using hjl) hdep i hb
          rw [hif] at this
          cases this
      have hmem' : ∀ i, i ∈ pre ++ post ↔ i < l.length ∧ (listed.setIfInBounds j true).getD i true = false := fun i => by
        have hnd : i ∈ pre ++ post ↔ i ∈ pre ++ j :: post ∧ i ≠ j := by
          have hq := List.pairwise_append.1 hsort
          have hq2 := List.pairwise_cons.1 hq.2.1
          constructor
          · intro hi
            refine ⟨by rcases List.mem_append.1 hi with hi | hi <;> simp [hi], fun heq => ?_⟩
            subst heq
            rcases List.mem_append.1 hi with hi | hi
            · exact Nat.lt_irrefl _ (hpre _ hi)
            · exact Nat.lt_irrefl _ (hq2.1 _ hi)
          · rintro ⟨hi, hne⟩
            rcases List.mem_append.1 hi with hi | hi
            · simp [hi]
            · rcases List.mem_cons.1 hi with hi | hi
              · exact absurd hi hne
              · simp [hi]
        rw [hnd, hmem i]
        by_cases hij : j = i
        · subst hij
          have hset : (listed.setIfInBounds j true).getD j true = true := by
            rw [Array.getD_eq_getD_getElem?, Array.getElem?_setIfInBounds_self_of_lt (by omega)]; rfl
          rw [hset]
          simp
        · rw [getD_set_ne true hij]
          constructor
          · rintro ⟨⟨h1, h2⟩, -⟩; exact ⟨h1, h2⟩
          · rintro ⟨h1, h2⟩; exact ⟨⟨h1, h2⟩, fun e => hij e.symm⟩
      have hcl' : Closed l.toArray (fun i => (listed.setIfInBounds j true).getD i false) := fun k o hk hl e he hb => by
        by_cases hkj : j = k
        · subst hkj
          rw [hoj] at hk; cases hk
          exact getD_set_true (hdep e he hb)
        · have hl' : listed.getD k false = true := by
            have := getD_set_ne (listed := listed) false hkj
            simp only [this] at hl
            exact hl
          exact getD_set_true (hcl k o hk hl' e he hb)
      have hlen' : (pre ++ post).length = m := by simp at hlen ⊢; omega
      have hsort' : (pre ++ post).Pairwise (· < ·) := by
        refine hsort.sublist ?_
        exact List.Sublist.append_left (List.sublist_cons_self _ _) _
      have next : ∀ a' w', C w' → Mix P l.toArray C E (fun a w => Q .normal a w) (pre ++ post) a' w' → wpAny P .any l.toArray Q m (listed.setIfInBounds j true) a' w' := fun a' w' hC' hm' =>
        ih (pre ++ post) (listed.setIfInBounds j true) a' w' hlen' hsort' hmem' (by simpa using hsz) hcl' hC' hm'
      unfold wpOp
      simp only [hoj]
      rcases pull hs hoj post pre a w hC hap hm with ⟨v, hv, k⟩ | ⟨-, hW, k⟩
      · rcases hv with ⟨hW, hr⟩ | ⟨hW, rfl⟩
        · rw [if_pos (show Region.wanted _ _ = true from hW)]
          refine .inl ?_
          unfold Oper.wp
          rw [hr w hC]
          exact next _ _ hC k
        · rw [if_neg (by unfold Wanted at hW; rw [hW]; exact Bool.false_ne_true)]
          exact next _ _ hC k
      · rw [if_pos (show Region.wanted _ _ = true from hW)]
        exact .inl (wp_of_Eff (fun v w' hk => next _ _ hk.1 hk.2) k)

theorem region_drawn {id : Nat} {l : List Oper} {Q : Exit → Act → World → Prop} {a : Act} {w : World} (hm : P.follows .mixedOrders = true) (hok : regionOk l E = true)
    (hC : C { w with drawn := w.drawn + 1 }) (h : Mix P l.toArray C E (fun a w => Q .normal a w) (List.range l.length) a { w with drawn := w.drawn + 1 }) :
    (Code.region id l.toArray true).wp P Q a w := by
  refine wp_region_any hm ?_
  have := any_of_mix (P := P) (C := C) (Q := Q) hok l.length (List.range l.length) (Array.replicate l.length false) a { w with drawn := w.drawn + 1 } (by simp) List.pairwise_lt_range
    (fun i => by
      rw [List.mem_range]
      constructor
      · intro hi
        refine ⟨hi, ?_⟩
        rw [Array.getD_eq_getD_getElem?, Array.getElem?_eq_getElem (by simpa using hi)]
        simp
      · exact fun hi => hi.1)
    (by simp) (fun k o _ hk e _ _ => by
      exfalso
      by_cases hlt : k < l.length
      · simp [Array.getD_eq_getD_getElem?, hlt] at hk
      · simp [Array.getD_eq_getD_getElem?, hlt] at hk) hC h
  simpa using this

end order

abbrev Fr := List (Nat × Value)
abbrev Hp := Array Obj

def look : Fr → Nat → Option Value
  | [], _ => none
  | (j, v) :: l, i => bif Nat.beq i j then some v else look l i

def ev (l : Fr) : Operand → Option Value
  | .tmp t => look l t
  | .const v => some v
  | .global g => some (.pointer (some ⟨g, 0, none⟩))
  | .func f => some (.func (.func f) #[] #[])

def evs (l : Fr) : List Operand → Option (List Value)
  | [] => some []
  | x :: xs => match ev l x, evs l xs with
    | some v, some vs => some (v :: vs)
    | _, _ => none

structure Fits (l : Fr) (n : Nat) (a : Act) : Prop where
  size : a.tmps.size = n
  slots : ∀ i v, look l i = some v → a.tmps[i]? = some v
  defers : a.defers = []

theorem Fits.ev {l : Fr} {n : Nat} {a : Act} {x : Operand} {v : Value} (h : Fits l n a) (e : ev l x = some v) : a.eval x = v := by
  cases x with
  | tmp t => have := h.slots t v e; simp [Act.eval, this]
  | const u => simpa [Den.ev, Act.eval] using e
  | global g => simpa [Den.ev, Act.eval] using e
  | func f => simpa [Den.ev, Act.eval] using e

theorem Fits.evs {l : Fr} {n : Nat} {a : Act} (h : Fits l n a) : ∀ {xs : List Operand} {vs : List Value}, evs l xs = some vs → xs.map a.eval = vs
  | [], vs, e => by simp [Den.evs] at e; simp [e]
  | x :: xs, vs, e => by
    simp only [Den.evs] at e
    split at e
    · rename_i v vs' h1 h2
      cases e
      simp [h.ev h1, h.evs h2]
    · cases e

theorem Fits.put {l : Fr} {n : Nat} {a : Act} (h : Fits l n a) (d : Nat) (v : Value) (hd : Nat.blt d n = true) : Fits ((d, v) :: l) n (a.put (some d) v) := by
  have hd' : d < n := Nat.le_of_ble_eq_true hd
  refine ⟨by simp [Act.put, h.size], fun i u hu => ?_, h.defers⟩
  simp only [look] at hu
  cases hi : Nat.beq i d with
  | true =>
    have := Nat.eq_of_beq_eq_true hi
    subst this
    rw [hi] at hu
    simp only [cond_true] at hu
    cases hu
    simp only [Act.put]
    rw [Array.getElem?_setIfInBounds_self_of_lt (by rw [h.size]; exact hd')]
  | false =>
    rw [hi] at hu
    simp only [cond_false] at hu
    have hne : d ≠ i := fun e => by subst e; simp at hi
    simp only [Act.put]
    rw [Array.getElem?_setIfInBounds_ne hne]
    exact h.slots i u hu

theorem Fits.putNone {l : Fr} {n : Nat} {a : Act} (h : Fits l n a) (v : Value) : Fits l n (a.put none v) := h

def Sub (l' l : Fr) : Prop := ∀ i v, look l' i = some v → look l i = some v
theorem Sub.nil (l : Fr) : Sub [] l := fun i v h => by cases h
theorem Sub.refl (l : Fr) : Sub l l := fun _ _ h => h
theorem Sub.cons {l' l : Fr} {i : Nat} {v : Value} (h : look l i = some v) (k : Sub l' l) : Sub ((i, v) :: l') l := fun j u hu => by
  simp only [look] at hu
  cases hj : Nat.beq j i with
  | true =>
    have := Nat.eq_of_beq_eq_true hj
    subst this
    rw [hj] at hu
    simp only [cond_true] at hu
    rw [h]; exact hu
  | false => rw [hj] at hu; exact k j u hu
theorem Sub.consE {l' l : Fr} {i : Nat} {u v : Value} (h : look l i = some u) (e : u = v) (k : Sub l' l) : Sub ((i, v) :: l') l := Sub.cons (by rw [h, e]) k
theorem Fits.sub {l' l : Fr} {n : Nat} {a : Act} (h : Fits l n a) (k : Sub l' l) : Fits l' n a := ⟨h.size, fun i v hv => h.slots i v (k i v hv), h.defers⟩
theorem Fits.know {l : Fr} {n : Nat} {a : Act} (h : Fits l n a) {t : Nat} {v : Value} (e : look l t = some v) {u : Value} (hu : v = u) : Fits ((t, u) :: l) n a :=
  h.sub (Sub.cons (by rw [e, hu]) (Sub.refl l))


def bodyOf (fn : Func) : Code := fn.body.getD .skip
def cL : Code → Code
  | .seq a _ => a
  | .cond _ a _ => a
  | .block _ a => a
  | .loop a => a
  | .scope a => a
  | c => c
def cR : Code → Code
  | .seq _ b => b
  | .cond _ _ b => b
  | c => c
inductive Tag where
  | skip | seq | cond (x : Operand) | block (id : Nat) | loop | exit (id : Nat) | ret | label | region (draw : Bool) | other
def tagOf : Code → Tag
  | .skip => .skip
  | .seq .. => .seq
  | .cond x _ _ => .cond x
  | .block id _ => .block id
  | .loop _ => .loop
  | .exit id => .exit id
  | .ret => .ret
  | .label _ => .label
  | .region _ _ d => .region d
  | _ => .other
def opsOf : Code → List Oper
  | .region _ ops _ => ops.toList
  | _ => []
def opAt : List Oper → Nat → Option Oper
  | [], _ => none
  | o :: _, 0 => some o
  | _ :: os, k + 1 => opAt os k
theorem opAt_eq : ∀ (os : List Oper) (k : Nat), opAt os k = os[k]?
  | [], k => by simp [opAt]
  | o :: os, 0 => rfl
  | o :: os, k + 1 => by simp only [opAt, List.getElem?_cons_succ]; exact opAt_eq os k

def actsOp : Op → Bool
  | .alloc _ | .box _ _ | .buildSlice .. | .store .. | .makeMap .. | .makeSlice .. | .mapUpdate .. | .insert .. => true
  | .call c => match c.callee with
    | .builtin .append | .builtin .copy | .builtin .delete | .builtin .clear => true
    | .builtin _ => false
    | _ => true
  | _ => false
def effB (ops : List Oper) (i : Nat) : Bool := match opAt ops i with
  | some o => actsOp o.op
  | none => false


def Oth (w w' : World) : Prop := w'.os = w.os ∧ w'.tape = w.tape ∧ w'.output = w.output
theorem Oth.refl (w : World) : Oth w w := ⟨rfl, rfl, rfl⟩
theorem Oth.trans {a b c : World} (h : Oth a b) (k : Oth b c) : Oth a c := ⟨k.1.trans h.1, k.2.1.trans h.2.1, k.2.2.trans h.2.2⟩

def Ext (h h' : Hp) : Prop := h.size ≤ h'.size ∧ ∀ k, k < h.size → h'[k]? = h[k]?
theorem Ext.refl (h : Hp) : Ext h h := ⟨Nat.le_refl _, fun _ _ => rfl⟩
theorem Ext.trans {a b c : Hp} (h : Ext a b) (k : Ext b c) : Ext a c :=
  ⟨Nat.le_trans h.1 k.1, fun i hi => (k.2 i (Nat.lt_of_lt_of_le hi h.1)).trans (h.2 i hi)⟩
theorem Ext.push (h : Hp) (o : Obj) : Ext h (h.push o) := ⟨by simp, fun k hk => by rw [Array.getElem?_push, if_neg (by omega)]⟩
theorem Ext.below {w w' : World} (h : Ext w.heap w'.heap) (k : Oth w w') : Below w.heap.size w w' := ⟨k.1, k.2.1, k.2.2, h.1, h.2⟩

def CallsH (P : Program) (f : FuncId) (args : List Value) (h : Hp) (R : Value → Hp → Prop) : Prop :=
  ∀ w, w.heap = h → Calls P f args.toArray w fun e w' => ∃ v, e = .returned v ∧ R v w'.heap ∧ Oth w w'

theorem CallsH.mono {P : Program} {f : FuncId} {args : List Value} {h : Hp} {R R' : Value → Hp → Prop} (c : CallsH P f args h R) (k : ∀ v h', R v h' → R' v h') : CallsH P f args h R' :=
  fun w hw => (c w hw).mono fun _ _ ⟨v, he, hr, ho⟩ => ⟨v, he, k _ _ hr, ho⟩

abbrev Post := Exit → Fr → Hp → Prop

structure At (Q : Post) (e : Exit) (l : Fr) (h : Hp) : Prop where mk ::
  get : Q e l h

def lift (n : Nat) (Q : Post) (w0 : World) : Exit → Act → World → Prop := fun e a w => ∃ l, Fits l n a ∧ Q e l w.heap ∧ Oth w0 w

structure W (P : Program) (n : Nat) (c : Code) (Q : Post) (l : Fr) (h : Hp) : Prop where mk ::
  run : ∀ a w, Fits l n a → w.heap = h → c.wp P (lift n Q w) a w

section rules
variable {P : Program} {n : Nat} {Q : Post} {l : Fr} {h : Hp}

theorem lift_mono {Q' : Post} {w0 w1 : World} (ho : Oth w0 w1) (hq : ∀ e l h, Q e l h → Q' e l h) {e : Exit} {a : Act} {w : World} (k : lift n Q w1 e a w) : lift n Q' w0 e a w := by
  obtain ⟨l, h1, h2, h3⟩ := k
  exact ⟨l, h1, hq _ _ _ h2, ho.trans h3⟩

theorem w_sub {c : Code} {l' : Fr} (hl : Sub l' l) (k : W P n c Q l' h) : W P n c Q l h := W.mk fun a w hf hw => k.run a w (hf.sub hl) hw

theorem w_skip {c : Code} (hc : tagOf c = .skip) (k : At Q .normal l h) : W P n c Q l h := by
  cases c <;> first | cases hc | skip
  exact W.mk fun a w hf hw => wp_skip ⟨l, hf, by rw [hw]; exact k.get, Oth.refl w⟩
theorem w_label {c : Code} (hc : tagOf c = .label) (k : At Q .normal l h) : W P n c Q l h := by
  cases c <;> first | cases hc | skip
  exact W.mk fun a w hf hw => wp_label ⟨l, hf, by rw [hw]; exact k.get, Oth.refl w⟩
theorem w_exit {c : Code} {id : Nat} (hc : tagOf c = .exit id) (k : At Q (.exit id) l h) : W P n c Q l h := by
  cases c <;> cases hc
  exact W.mk fun a w hf hw => wp_exit ⟨l, hf, by rw [hw]; exact k.get, Oth.refl w⟩
theorem w_ret {c : Code} (hc : tagOf c = .ret) (k : At Q .ret l h) : W P n c Q l h := by
  cases c <;> first | cases hc | skip
  exact W.mk fun a w hf hw => wp_ret ⟨l, hf, by rw [hw]; exact k.get, Oth.refl w⟩

def Then (P : Program) (n : Nat) (y : Code) (Q : Post) : Post
  | .normal, l, h => W P n y Q l h
  | e, l, h => Q e l h

def plainSeq : Code → Bool
  | .seq (.block _ (.loop _)) _ => false
  | .seq (.loop _) _ => false
  | .seq _ _ => true
  | _ => false

theorem w_seqB {c : Code} (hc : tagOf c = .seq) (k : W P n (cL c) (Then P n (cR c) Q) l h) : W P n c Q l h := W.mk fun a w hf hw => by
  cases c <;> first | cases hc | skip
  rename_i x y
  change W P n x (Then P n y Q) l h at k
  refine wp_seq (wp_mono (k.run a w hf hw) fun e a' w' hq => ?_)
  obtain ⟨l', h1, h2, h3⟩ := hq
  cases e with
  | normal => exact wp_mono (h2.run a' w' h1 rfl) fun e a w hk => lift_mono h3 (fun _ _ _ h => h) hk
  | exit id => exact ⟨l', h1, h2, h3⟩
  | goto l => exact ⟨l', h1, h2, h3⟩
  | ret => exact ⟨l', h1, h2, h3⟩
  | panic c => exact ⟨l', h1, h2, h3⟩
  | outgrown => exact ⟨l', h1, h2, h3⟩

theorem w_seq {c : Code} (hc : plainSeq c = true) (k : W P n (cL c) (Then P n (cR c) Q) l h) : W P n c Q l h := by
  refine w_seqB ?_ k
  cases c <;> first | rfl | cases hc

theorem then_normal {y : Code} (k : W P n y Q l h) : At (Then P n y Q) .normal l h := ⟨k⟩
theorem then_exit {y : Code} {id : Nat} (k : At Q (.exit id) l h) : At (Then P n y Q) (.exit id) l h := ⟨k.get⟩
theorem then_ret {y : Code} (k : At Q .ret l h) : At (Then P n y Q) .ret l h := ⟨k.get⟩

def InB (id : Nat) (Q : Post) : Post
  | .exit id', l, h => if id' = id then Q .normal l h else Q (.exit id') l h
  | e, l, h => Q e l h

theorem w_block {b : Code} {id : Nat} (hc : tagOf b = .block id) (k : W P n (cL b) (InB id Q) l h) : W P n b Q l h := W.mk fun a w hf hw => by
  cases b <;> cases hc
  rename_i c
  change W P n c (InB id Q) l h at k
  refine wp_block (wp_mono (k.run a w hf hw) fun e a' w' hq => ?_)
  obtain ⟨l', h1, h2, h3⟩ := hq
  cases e with
  | exit id' =>
    simp only [InB] at h2
    simp only [Exit.inBlock]
    split
    · rename_i he; rw [if_pos he] at h2; exact ⟨l', h1, h2, h3⟩
    · rename_i he; rw [if_neg he] at h2; exact ⟨l', h1, h2, h3⟩
  | normal => exact ⟨l', h1, h2, h3⟩
  | goto l => exact ⟨l', h1, h2, h3⟩
  | ret => exact ⟨l', h1, h2, h3⟩
  | panic c => exact ⟨l', h1, h2, h3⟩
  | outgrown => exact ⟨l', h1, h2, h3⟩

theorem inb_normal {id : Nat} (k : At Q .normal l h) : At (InB id Q) .normal l h := ⟨k.get⟩
theorem inb_ret {id : Nat} (k : At Q .ret l h) : At (InB id Q) .ret l h := ⟨k.get⟩
theorem inb_here {id : Nat} (k : At Q .normal l h) : At (InB id Q) (.exit id) l h := ⟨by simp only [InB]; rw [if_pos trivial]; exact k.get⟩
theorem inb_past {id id' : Nat} (hne : Nat.beq id' id = false) (k : At Q (.exit id') l h) : At (InB id Q) (.exit id') l h := ⟨by
  simp only [InB]; rw [if_neg (fun e => by subst e; simp at hne)]; exact k.get⟩

theorem w_cond {c : Code} {x : Operand} {b : Bool} (hc : tagOf c = .cond x) (hx : ev l x = some (.bool b)) (ht : b = true → W P n (cL c) Q l h) (hf : b = false → W P n (cR c) Q l h) : W P n c Q l h := by
  cases c <;> cases hc
  exact W.mk fun a w hfit hw => wp_cond_split (hfit.ev hx) (fun e => (ht e).run a w hfit hw) (fun e => (hf e).run a w hfit hw)
theorem w_cond_true {c : Code} {x : Operand} (hc : tagOf c = .cond x) (hx : ev l x = some (.bool true)) (k : W P n (cL c) Q l h) : W P n c Q l h := w_cond hc hx (fun _ => k) (fun e => by cases e)
theorem w_cond_false {c : Code} {x : Operand} (hc : tagOf c = .cond x) (hx : ev l x = some (.bool false)) (k : W P n (cR c) Q l h) : W P n c Q l h := w_cond hc hx (fun e => by cases e) (fun _ => k)
theorem w_condD {c : Code} {x : Operand} {p : Prop} {d : Decidable p} (hc : tagOf c = .cond x) (hx : ev l x = some (.bool (decide p))) (ht : p → W P n (cL c) Q l h) (hf : ¬ p → W P n (cR c) Q l h) : W P n c Q l h :=
  w_cond hc hx (fun e => ht (of_decide_eq_true e)) (fun e => hf (of_decide_eq_false e))
theorem w_condT {c : Code} {x : Operand} {p : Prop} {d : Decidable p} (hc : tagOf c = .cond x) (hx : ev l x = some (.bool (decide p))) (hp : p) (k : W P n (cL c) Q l h) : W P n c Q l h := w_condD hc hx (fun _ => k) (fun e => absurd hp e)
theorem w_condF {c : Code} {x : Operand} {p : Prop} {d : Decidable p} (hc : tagOf c = .cond x) (hx : ev l x = some (.bool (decide p))) (hp : ¬ p) (k : W P n (cR c) Q l h) : W P n c Q l h := w_condD hc hx (fun e => absurd e hp) (fun _ => k)

def Cut {σ : Type} (F : σ → Fr) (D : σ → Hp → Prop) (Q : Post) : Post
  | .normal, l, h => ∃ s, Sub (F s) l ∧ D s h
  | e, l, h => Q e l h
theorem cut_normal {σ : Type} {F : σ → Fr} {D : σ → Hp → Prop} (s : σ) (h1 : Sub (F s) l) (h2 : D s h) : At (Cut F D Q) .normal l h := ⟨⟨s, h1, h2⟩⟩
theorem cut_exit {σ : Type} {F : σ → Fr} {D : σ → Hp → Prop} {id : Nat} (k : At Q (.exit id) l h) : At (Cut F D Q) (.exit id) l h := ⟨k.get⟩
theorem cut_ret {σ : Type} {F : σ → Fr} {D : σ → Hp → Prop} (k : At Q .ret l h) : At (Cut F D Q) .ret l h := ⟨k.get⟩
theorem w_cut {σ : Type} {c : Code} (hc : tagOf c = .seq) (F : σ → Fr) (D : σ → Hp → Prop) (k : W P n (cL c) (Cut F D Q) l h) (k2 : ∀ s h', D s h' → W P n (cR c) Q (F s) h') : W P n c Q l h :=
  w_seqB hc <| W.mk fun a w hf hw => wp_mono (k.run a w hf hw) fun e a' w' hq => by
    obtain ⟨l', h1, h2, h3⟩ := hq
    cases e with
    | normal =>
      obtain ⟨s, g1, g2⟩ := h2
      exact ⟨F s, h1.sub g1, k2 s _ g2, h3⟩
    | exit id => exact ⟨l', h1, h2, h3⟩
    | goto l => exact ⟨l', h1, h2, h3⟩
    | ret => exact ⟨l', h1, h2, h3⟩
    | panic c => exact ⟨l', h1, h2, h3⟩
    | outgrown => exact ⟨l', h1, h2, h3⟩

def Again {σ : Type} (Q : Post) (F : σ → Fr) (D : σ → Hp → Prop) (μ : σ → Nat) (s : σ) : Post
  | .normal, l, h => ∃ s', Sub (F s') l ∧ D s' h ∧ μ s' < μ s
  | e, l, h => Q e l h

theorem again_normal {σ : Type} {F : σ → Fr} {D : σ → Hp → Prop} {μ : σ → Nat} {s : σ} (s' : σ) (h1 : Sub (F s') l) (h2 : D s' h) (h3 : μ s' < μ s) : At (Again Q F D μ s) .normal l h := ⟨⟨s', h1, h2, h3⟩⟩
theorem again_exit {σ : Type} {F : σ → Fr} {D : σ → Hp → Prop} {μ : σ → Nat} {s : σ} {id : Nat} (k : At Q (.exit id) l h) : At (Again Q F D μ s) (.exit id) l h := ⟨k.get⟩
theorem again_ret {σ : Type} {F : σ → Fr} {D : σ → Hp → Prop} {μ : σ → Nat} {s : σ} (k : At Q .ret l h) : At (Again Q F D μ s) .ret l h := ⟨k.get⟩

theorem w_loop {σ : Type} {b : Code} (hc : tagOf b = .loop) (F : σ → Fr) (D : σ → Hp → Prop) (μ : σ → Nat) (s0 : σ) (h0 : Sub (F s0) l) (d0 : D s0 h)
    (round : ∀ s h, D s h → W P n (cL b) (Again Q F D μ s) (F s) h) : W P n b Q l h := W.mk fun a w hf hw => by
  cases b <;> first | cases hc | skip
  rename_i c
  change ∀ s h, D s h → W P n c (Again Q F D μ s) (F s) h at round
  have key : ∀ m s a' w', μ s < m → Fits (F s) n a' → D s w'.heap → Oth w w' → Code.rounds P c (lift n Q w) m a' w' := by
    intro m
    induction m with
    | zero => intro s a' w' hm; exact absurd hm (Nat.not_lt_zero _)
    | succ m ih =>
      intro s a' w' hm hfs hd ho
      rw [rounds_succ]
      refine wp_mono ((round s w'.heap hd).run a' w' hfs rfl) fun e a2 w2 hq => ?_
      obtain ⟨l2, g1, g2, g3⟩ := hq
      cases e with
      | normal =>
        obtain ⟨s', q1, q2, q3⟩ := g2
        exact ih s' a2 w2 (by omega) (g1.sub q1) q2 (ho.trans g3)
      | exit id => exact ⟨l2, g1, g2, ho.trans g3⟩
      | goto l => exact ⟨l2, g1, g2, ho.trans g3⟩
      | ret => exact ⟨l2, g1, g2, ho.trans g3⟩
      | panic c => exact ⟨l2, g1, g2, ho.trans g3⟩
      | outgrown => exact ⟨l2, g1, g2, ho.trans g3⟩
  exact wp_loop_rounds (μ s0 + 1) (key (μ s0 + 1) s0 a w (by omega) (hf.sub h0) (by rw [hw]; exact d0) (Oth.refl w))

def nth : List Value → Nat → Option Value
  | [], _ => none
  | v :: _, 0 => some v
  | _ :: vs, i + 1 => nth vs i
theorem nth_eq : ∀ (vs : List Value) (i : Nat), nth vs i = vs[i]?
  | [], i => by simp [nth]
  | v :: vs, 0 => rfl
  | v :: vs, i + 1 => by simp only [nth, List.getElem?_cons_succ]; exact nth_eq vs i


structure S (P : Program) (n : Nat) (ops : List Oper) (Ch : Hp → Prop) (E : Nat → Bool) (Q : Post) (k : Nat) (l : Fr) (h : Hp) : Prop where mk ::
  run : ∀ a w w0, Fits l n a → w.heap = h → Oth w0 w →
    Mix P ops.toArray (fun w' => Oth w0 w' ∧ Ch w'.heap) E (fun a w' => lift n Q w0 .normal a w') (List.range' k (ops.length - k)) a w

theorem wpOps_of_mix' {ops : Array Oper} {C : World → Prop} {E : Nat → Bool} {Q : Exit → Act → World → Prop} : ∀ (L : List Nat) (a : Act) (w : World), C w →
    Mix P ops C E (fun a w => Q .normal a w) L a w → wpOps P ops Q L a w
  | [], _, _, _, h => h
  | i :: L, a, w, hc, h => by
    obtain ⟨o, ho, h⟩ := h
    unfold wpOps
    simp only [ho]
    rcases h with ⟨v, hv, k⟩ | ⟨-, hW, k⟩
    · rcases hv with ⟨hW, hr⟩ | ⟨hW, rfl⟩
      · rw [if_pos (show Region.wanted _ _ = true from hW)]
        refine .inl ?_
        unfold Oper.wp
        rw [hr w hc]
        exact wpOps_of_mix' L _ _ hc k
      · rw [if_neg (by unfold Wanted at hW; rw [hW]; exact Bool.false_ne_true)]
        exact wpOps_of_mix' L _ _ hc k
    · rw [if_pos (show Region.wanted _ _ = true from hW)]
      exact .inl (wp_of_Eff (fun v w' hk => wpOps_of_mix' L _ _ hk.1 hk.2) k)

theorem r_plain {c : Code} (hc : tagOf c = .region false) (k : S P n (opsOf c) (fun _ => True) (fun _ => true) Q 0 l h) : W P n c Q l h := W.mk fun a w hf hw => by
  cases c <;> cases hc
  rename_i id ops
  refine wp_region ?_
  have := wpOps_of_mix' (Q := lift n Q w) _ a w ⟨Oth.refl w, trivial⟩ (k.run a w w hf hw (Oth.refl w))
  rw [Nat.sub_zero, ← List.range_eq_range'] at this
  simpa [opsOf] using this

theorem r_drawn {c : Code} (Ch : Hp → Prop) (E : Nat → Bool) (hc : tagOf c = .region true) (hm : P.follows .mixedOrders = true) (hok : regionOk (opsOf c) E = true) (hC : Ch h)
    (k : S P n (opsOf c) Ch E Q 0 l h) : W P n c Q l h := W.mk fun a w hf hw => by
  cases c <;> cases hc
  rename_i id ops
  have := region_drawn (id := id) (l := ops.toList) (E := E) (Q := lift n Q w) (C := fun w' => Oth w w' ∧ Ch w'.heap) hm hok ⟨⟨rfl, rfl, rfl⟩, by rw [← hw] at hC; exact hC⟩ (a := a) (by
    have := k.run a { w with drawn := w.drawn + 1 } w hf hw ⟨rfl, rfl, rfl⟩
    rw [Nat.sub_zero, ← List.range_eq_range'] at this
    exact this)
  simpa using this

theorem r_drawnA {c : Code} (hc : tagOf c = .region true) (hm : P.follows .mixedOrders = true) (hok : regionOk (opsOf c) (effB (opsOf c)) = true)
    (k : S P n (opsOf c) (fun _ => True) (effB (opsOf c)) Q 0 l h) : W P n c Q l h := r_drawn (fun _ => True) (effB (opsOf c)) hc hm hok trivial k

section ops
variable {ops : List Oper} {Ch : Hp → Prop} {E : Nat → Bool} {i : Nat}

theorem s_nil (hk : opAt ops i = none) (k : At Q .normal l h) : S P n ops Ch E Q i l h := S.mk fun a w w0 hf hw ho => by
  rw [opAt_eq, List.getElem?_eq_none_iff] at hk
  rw [Nat.sub_eq_zero_of_le hk]
  exact ⟨l, hf, by rw [hw]; exact k.get, ho⟩

theorem s_step {o : Oper} (ho : opAt ops i = some o) : ops.toArray[i]? = some o ∧ List.range' i (ops.length - i) = i :: List.range' (i + 1) (ops.length - (i + 1)) := by
  rw [opAt_eq] at ho
  have hlt := (List.getElem?_eq_some_iff.1 ho).1
  refine ⟨by simpa using ho, ?_⟩
  rw [show ops.length - i = (ops.length - (i + 1)) + 1 by omega, List.range'_succ]

def gd (ops : List Oper) (l : Fr) (g : Option (Nat × Bool)) : Option Bool :=
  match g with
  | none => some true
  | some (j, want) => match (ops[j]?).bind (·.dst) with
    | some t => match look l t with
      | some (.bool b) => some (b == want)
      | some (.tuple _) => some false
      | _ => none
    | none => none

theorem gd_wanted {o : Oper} {a : Act} {b : Bool} (hf : Fits l n a) (hg : gd ops l o.guard = some b) : Wanted ops.toArray o a = b := by
  unfold Wanted Region.wanted
  unfold gd at hg
  cases hgo : o.guard with
  | none => rw [hgo] at hg; simpa using hg
  | some p =>
    obtain ⟨j, want⟩ := p
    rw [hgo] at hg
    simp only at hg ⊢
    cases ht : (ops[j]?).bind (·.dst) with
    | none => rw [ht] at hg; cases hg
    | some t =>
      rw [ht] at hg
      simp only at hg
      cases hl : look l t with
      | none => rw [hl] at hg; cases hg
      | some v =>
        rw [hl] at hg
        have hj : (ops.toArray[j]?).bind (·.dst) = some t := by simpa using ht
        cases v <;> simp only at hg <;> try cases hg
        case some.some.some.bool.refl b' =>
          have := hf.slots t _ hl
          simp only [yielded, hj, Option.bind_some, this]
          cases b' <;> cases want <;> rfl
        case some.some.some.tuple.refl =>
          have := hf.slots t _ hl
          simp only [yielded, hj, Option.bind_some, this]
          rfl

theorem s_stable {o : Oper} {v : Value} {l' : Fr} (ho : opAt ops i = some o) (hg : gd ops l o.guard = some true) (hv : ∀ a w', Fits l n a → Ch w'.heap → (execOp a.eval o).run P w' = .ok (.value v) w')
    (hl : ∀ a, Fits l n a → Fits l' n (a.put o.dst v)) (k : S P n ops Ch E Q (i + 1) l' h) : S P n ops Ch E Q i l h := S.mk fun a w w0 hf hw hoth => by
  obtain ⟨h1, h2⟩ := s_step ho
  rw [h2]
  exact ⟨o, h1, .inl ⟨v, .inl ⟨gd_wanted hf hg, fun w' hc => hv a w' hf hc.2⟩, k.run _ w w0 (hl a hf) hw hoth⟩⟩

theorem s_skip {d : Nat} {op : Op} {ty : TypeId} {ps : String} {af : Array Edge} {g : Option (Nat × Bool)} (ho : opAt ops i = some ⟨some d, op, ty, ps, af, g⟩) (hg : gd ops l g = some false) (hb : Nat.blt d n = true)
    (k : S P n ops Ch E Q (i + 1) ((d, undef) :: l) h) : S P n ops Ch E Q i l h := S.mk fun a w w0 hf hw hoth => by
  obtain ⟨h1, h2⟩ := s_step ho
  rw [h2]
  exact ⟨_, h1, .inl ⟨undef, .inr ⟨gd_wanted hf hg, rfl⟩, k.run _ w w0 (hf.put d undef hb) hw hoth⟩⟩

theorem s_eff {o : Oper} (ho : opAt ops i = some o) (hE : E i = true) (hg : gd ops l o.guard = some true)
    (k : ∀ a w, Fits l n a → w.heap = h → Eff P o a w fun v w' => Oth w w' ∧ Ch w'.heap ∧ ∃ l', Fits l' n (a.put o.dst v) ∧ S P n ops Ch E Q (i + 1) l' w'.heap) :
    S P n ops Ch E Q i l h := S.mk fun a w w0 hf hw hoth => by
  obtain ⟨h1, h2⟩ := s_step ho
  rw [h2]
  refine ⟨o, h1, .inr ⟨hE, gd_wanted hf hg, Eff_mono (fun v w' hk => ?_) (k a w hf hw)⟩⟩
  obtain ⟨g1, g2, l', g3, g4⟩ := hk
  exact ⟨⟨hoth.trans g1, g2⟩, g4.run _ w' w0 g3 rfl (hoth.trans g1)⟩

theorem s_know {t : Nat} {v u : Value} (e : look l t = some v) (hu : v = u) (k : S P n ops Ch E Q i ((t, u) :: l) h) : S P n ops Ch E Q i l h :=
  S.mk fun a w w0 hf hw ho => k.run a w w0 (hf.know e hu) hw ho
theorem s_sub {l' : Fr} (hl : Sub l' l) (k : S P n ops Ch E Q i l' h) : S P n ops Ch E Q i l h := S.mk fun a w w0 hf hw ho => k.run a w w0 (hf.sub hl) hw ho
theorem w_know {c : Code} {t : Nat} {v u : Value} (e : look l t = some v) (hu : v = u) (k : W P n c Q ((t, u) :: l) h) : W P n c Q l h := W.mk fun a w hf hw => k.run a w (hf.know e hu) hw

theorem s_split (t : Nat) {p : Prop} {d : Decidable p} (e : look l t = some (.bool (decide p))) (ht : p → S P n ops Ch E Q i ((t, .bool true) :: l) h) (hf : ¬ p → S P n ops Ch E Q i ((t, .bool false) :: l) h) :
    S P n ops Ch E Q i l h := by
  by_cases hp : p
  · exact s_know e (by rw [decide_eq_true hp]) (ht hp)
  · exact s_know e (by rw [decide_eq_false hp]) (hf hp)
structure O (P : Program) (n : Nat) (ops : List Oper) (Ch : Hp → Prop) (E : Nat → Bool) (Q : Post) (i d : Nat) (op : Op) (l : Fr) (h : Hp) : Prop where mk ::
  get : ∀ {ty : TypeId} {ps : String} {af : Array Edge} {g : Option (Nat × Bool)}, opAt ops i = some ⟨some d, op, ty, ps, af, g⟩ → gd ops l g = some true → S P n ops Ch E Q i l h

theorem s_op {d : Nat} {op : Op} {ty : TypeId} {ps : String} {af : Array Edge} {g : Option (Nat × Bool)} (ho : opAt ops i = some ⟨some d, op, ty, ps, af, g⟩) (hg : gd ops l g = some true) (k : O P n ops Ch E Q i d op l h) : S P n ops Ch E Q i l h := k.get ho hg

theorem s_pure {d : Nat} {op : Op} {v : Value} (hb : Nat.blt d n = true)
    (hv : ∀ {ty : TypeId} {ps : String} {af : Array Edge} {g : Option (Nat × Bool)} a w', Fits l n a → (execOp a.eval ⟨some d, op, ty, ps, af, g⟩).run P w' = .ok (.value v) w')
    (k : S P n ops Ch E Q (i + 1) ((d, v) :: l) h) : O P n ops Ch E Q i d op l h :=
  O.mk fun ho hg => s_stable ho hg (fun a w' hf _ => hv a w' hf) (fun a hf => hf.put d v hb) k

section pure
variable {d : Nat} {t : TypeId} {x y z : Operand} {v : Value} {yt : TypeId}

theorem s_move (hx : ev l x = some v) (hb : Nat.blt d n = true) (k : S P n ops Ch E Q (i + 1) ((d, v) :: l) h) : O P n ops Ch E Q i d (.move x) l h :=
  s_pure hb (fun a w' hf => by rw [← hf.ev hx]; rfl) k
theorem s_assign (hx : ev l x = some v) (hb : Nat.blt d n = true) (k : S P n ops Ch E Q (i + 1) ((d, v) :: l) h) : O P n ops Ch E Q i d (.assign x) l h :=
  s_pure hb (fun a w' hf => by rw [← hf.ev hx]; rfl) k

theorem s_bin {op : BinOp} {vx vy : Value} (hx : ev l x = some vx) (hy : ev l y = some vy) (hb : Nat.blt d n = true)
    (hv : ∀ w', (do eqGuard op t x y vx vy; binOp op t vx vy : Sem Value).run P w' = .ok v w') (k : S P n ops Ch E Q (i + 1) ((d, v) :: l) h) : O P n ops Ch E Q i d (.binOp op t x y yt) l h :=
  s_pure hb (fun a w' hf => by
    have hv' := hv w'
    rw [← hf.ev hx, ← hf.ev hy] at hv'
    show ((do eqGuard op t x y (a.eval x) (a.eval y); binOp op t (a.eval x) (a.eval y) : Sem Value) >>= fun u => pure (Next.value u)).run P w' = _
    rw [Sem.run_bind, hv']; rfl) k

theorem s_pickT {vy : Value} (hx : ev l x = some (.bool true)) (hy : ev l y = some vy) (hb : Nat.blt d n = true) (k : S P n ops Ch E Q (i + 1) ((d, vy) :: l) h) : O P n ops Ch E Q i d (.pick x y z) l h :=
  s_pure hb (fun a w' hf => by rw [← hf.ev hy]; simp only [execOp, hf.ev hx]; rfl) k
theorem s_pickF {vz : Value} (hx : ev l x = some (.bool false)) (hz : ev l z = some vz) (hb : Nat.blt d n = true) (k : S P n ops Ch E Q (i + 1) ((d, vz) :: l) h) : O P n ops Ch E Q i d (.pick x y z) l h :=
  s_pure hb (fun a w' hf => by rw [← hf.ev hz]; simp only [execOp, hf.ev hx]; rfl) k

theorem s_not {b : Bool} (hx : ev l x = some (.bool b)) (hb : Nat.blt d n = true) (k : S P n ops Ch E Q (i + 1) ((d, .bool (!b)) :: l) h) : O P n ops Ch E Q i d (.unOp .not t x) l h :=
  s_pure hb (fun a w' hf => by simp only [execOp, hf.ev hx]; rfl) k

theorem s_extract {vs : List Value} {j : Nat} (hx : ev l x = some (.tuple vs.toArray)) (hj : nth vs j = some v) (hb : Nat.blt d n = true) (k : S P n ops Ch E Q (i + 1) ((d, v) :: l) h) : O P n ops Ch E Q i d (.extract x j) l h :=
  s_pure hb (fun a w' hf => by rw [nth_eq] at hj; simp [execOp, hf.ev hx, Instr.extract, hj]) k

end pure
end ops
end rules
end Go.Den

