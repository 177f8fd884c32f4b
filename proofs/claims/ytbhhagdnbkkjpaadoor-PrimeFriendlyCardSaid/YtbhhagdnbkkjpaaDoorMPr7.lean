/- Texts Flo to Flo of this work, joined: each says in its own head what it proves, and of which condition. -/
import Derived.Test.YtbhhagdnbkkjpaaDoorMPr6
/- A region in which one operation that acts may come up at any place among the others. No condition. -/
namespace Go.Den
set_option linter.unusedVariables false
set_option maxRecDepth 8000
open Go Go.RowKit

section float
variable {P : Program} {ops : Array Oper} {C : World → Prop} {E : Nat → Bool}

/-- The operation f may come up at any place of the list, and comes up behind it at the latest; then post. -/
def MixF (P : Program) (ops : Array Oper) (C : World → Prop) (E : Nat → Bool) (Q : Act → World → Prop) (f : Nat) (post : List Nat) : List Nat → Act → World → Prop
  | [], a, w => Mix P ops C E Q (f :: post) a w
  | i :: L, a, w => ∃ o, ops[i]? = some o ∧
      ((∃ v, Stab P ops C o v a ∧ MixF P ops C E Q f post L (a.put o.dst v) w) ∨
       (E i = true ∧ Wanted ops o a = true ∧ Mix P ops C E Q (f :: i :: (L ++ post)) a w ∧ Eff P o a w fun v w' => C w' ∧ MixF P ops C E Q f post L (a.put o.dst v) w'))

/-- Two operations that do not see each other. -/
structure Ap (ops : Array Oper) (oi oj : Oper) : Prop where mk ::
  ej : ∀ (a : Act) (u : Value), execOp (a.put oi.dst u).eval oj = execOp a.eval oj
  wj : ∀ (a : Act) (u : Value), Wanted ops oj (a.put oi.dst u) = Wanted ops oj a
  ei : ∀ (a : Act) (u : Value), execOp (a.put oj.dst u).eval oi = execOp a.eval oi
  wi : ∀ (a : Act) (u : Value), Wanted ops oi (a.put oj.dst u) = Wanted ops oi a
  pc : ∀ (a : Act) (u v : Value), (a.put oi.dst u).put oj.dst v = (a.put oj.dst v).put oi.dst u
theorem Ap.of {i j : Nat} {oi oj : Oper} (hs : NoSel ops) (hi : ops[i]? = some oi) (hj : ops[j]? = some oj) (h : oi.apart ops oj = true) : Ap ops oi oj := by
  obtain ⟨h1, h2, h3⟩ := Oper.apart_spec h
  have hsi : ∀ cs b, oi.op ≠ .select cs b := fun cs b => hs i oi cs b hi
  have hsj : ∀ cs b, oj.op ≠ .select cs b := fun cs b => hs j oj cs b hj
  exact ⟨fun a u => execOp_put oj hsj a oi.dst u h1, fun a u => wanted_put oj a oi.dst u h1, fun a u => execOp_put oi hsi a oj.dst u h3, fun a u => wanted_put oi a oj.dst u h3, fun a u v => Act.put_comm a u v h2⟩

/-- f now. -/
theorem floatNow (hs : NoSel ops) {Q : Act → World → Prop} {f : Nat} {of : Oper} (hf : ops[f]? = some of) (post : List Nat) : ∀ (pre : List Nat) (a : Act) (w : World), (∀ i ∈ pre, ∀ oi, ops[i]? = some oi → oi.apart ops of = true) →
    MixF P ops C E Q f post pre a w →
    (∃ v, Stab P ops C of v a ∧ Mix P ops C E Q (pre ++ post) (a.put of.dst v) w) ∨
    (E f = true ∧ Wanted ops of a = true ∧ Eff P of a w fun v w' => C w' ∧ Mix P ops C E Q (pre ++ post) (a.put of.dst v) w')
  | [], a, w, _, h => by
    obtain ⟨o, ho, h⟩ := h
    rw [hf] at ho; cases ho
    exact h
  | i :: pre, a, w, hp, h => by
    obtain ⟨oi, hi, h⟩ := h
    have ap := Ap.of hs hi hf (hp i (by simp) oi hi)
    rcases h with ⟨u, hu, h⟩ | ⟨hE, hW, ⟨o, ho, h⟩, -⟩
    · rcases floatNow hs hf post pre (a.put oi.dst u) w (fun k hk => hp k (by simp [hk])) h with ⟨v, hv, k⟩ | ⟨hEj, hWj, k⟩
      · refine .inl ⟨v, hv.of_same (ap.ej a u).symm (ap.wj a u).symm, oi, hi, .inl ⟨u, hu.of_same (ap.ei a v) (ap.wi a v), ?_⟩⟩
        rw [← ap.pc a u v]; exact k
      · refine .inr ⟨hEj, by rw [← ap.wj a u]; exact hWj, ?_⟩
        unfold Eff at k ⊢
        rw [ap.ej a u] at k
        exact EffUpon_mono (fun v w' hk => ⟨hk.1, oi, hi, .inl ⟨u, hu.of_same (ap.ei a v) (ap.wi a v), by rw [← ap.pc a u v]; exact hk.2⟩⟩) k
    · rw [hf] at ho; cases ho
      exact h

/-- An operation of pre now. -/
theorem floatPre (hs : NoSel ops) {Q : Act → World → Prop} {f j : Nat} {of oj : Oper} (hf : ops[f]? = some of) (hj : ops[j]? = some oj) (apj : of.apart ops oj = true) (post p2 : List Nat) : ∀ (pre : List Nat) (a : Act) (w : World), C w →
    (∀ i ∈ pre, (∀ oi, ops[i]? = some oi → oi.apart ops oj = true) ∧ ¬ (E i = true ∧ E j = true)) →
    MixF P ops C E Q f post (pre ++ j :: p2) a w →
    (∃ v, Stab P ops C oj v a ∧ MixF P ops C E Q f post (pre ++ p2) (a.put oj.dst v) w) ∨
    (E j = true ∧ Wanted ops oj a = true ∧ Eff P oj a w fun v w' => C w' ∧ MixF P ops C E Q f post (pre ++ p2) (a.put oj.dst v) w')
  | [], a, w, _, _, h => by
    obtain ⟨o, ho, h⟩ := h
    rw [hj] at ho; cases ho
    rcases h with h | ⟨h1, h2, -, h3⟩
    · exact .inl h
    · exact .inr ⟨h1, h2, h3⟩
  | i :: pre, a, w, hC, hp, h => by
    obtain ⟨oi, hi, h⟩ := h
    obtain ⟨hap, hch⟩ := hp i (by simp)
    have hp' : ∀ i ∈ pre, (∀ oi, ops[i]? = some oi → oi.apart ops oj = true) ∧ ¬ (E i = true ∧ E j = true) := fun k hk => hp k (by simp [hk])
    have ap := Ap.of hs hi hj (hap oi hi)
    rcases h with ⟨u, hu, h⟩ | ⟨hE, hW, g, h⟩
    · rcases floatPre hs hf hj apj post p2 pre (a.put oi.dst u) w hC hp' h with ⟨v, hv, k⟩ | ⟨hEj, hWj, k⟩
      · refine .inl ⟨v, hv.of_same (ap.ej a u).symm (ap.wj a u).symm, oi, hi, .inl ⟨u, hu.of_same (ap.ei a v) (ap.wi a v), ?_⟩⟩
        rw [← ap.pc a u v]; exact k
      · refine .inr ⟨hEj, by rw [← ap.wj a u]; exact hWj, ?_⟩
        unfold Eff at k ⊢
        rw [ap.ej a u] at k
        exact EffUpon_mono (fun v w' hk => ⟨hk.1, oi, hi, .inl ⟨u, hu.of_same (ap.ei a v) (ap.wi a v), by rw [← ap.pc a u v]; exact hk.2⟩⟩) k
    · have hEj : ¬ E j = true := fun e => hch ⟨hE, e⟩
      have step : Eff P oi a w fun u w' => C w' ∧ ∃ v, Stab P ops C oj v a ∧ MixF P ops C E Q f post (pre ++ p2) ((a.put oj.dst v).put oi.dst u) w' := by
        refine Eff_mono (fun u w' hk => ⟨hk.1, ?_⟩) h
        rcases floatPre hs hf hj apj post p2 pre (a.put oi.dst u) w' hk.1 hp' hk.2 with ⟨v, hv, k⟩ | ⟨hEj', -, -⟩
        · exact ⟨v, hv.of_same (ap.ej a u).symm (ap.wj a u).symm, by rw [← ap.pc a u v]; exact k⟩
        · exact absurd hEj' hEj
      have g' : ∃ v, Stab P ops C oj v a ∧ Mix P ops C E Q (f :: i :: (pre ++ p2 ++ post)) (a.put oj.dst v) w := by
        have g2 : Mix P ops C E Q ((f :: i :: pre) ++ j :: (p2 ++ post)) a w := by
          have e : (f :: i :: pre) ++ j :: (p2 ++ post) = f :: i :: (pre.append (j :: p2) ++ post) := by
            show f :: i :: (pre ++ j :: (p2 ++ post)) = f :: i :: ((pre ++ j :: p2) ++ post)
            simp
          rw [e]; exact g
        have hob : ∀ k ∈ f :: i :: pre, (∀ ok, ops[k]? = some ok → ok.apart ops oj = true) ∧ ¬ (E k = true ∧ E j = true) := by
          intro k hk
          refine ⟨fun ok hok => ?_, fun e => hEj e.2⟩
          rcases List.mem_cons.1 hk with rfl | hk
          · rw [hf] at hok; cases hok; exact apj
          · rcases List.mem_cons.1 hk with rfl | hk
            · exact hap ok hok
            · exact (hp' k hk).1 ok hok
        rcases pull hs hj (p2 ++ post) (f :: i :: pre) a w hC hob g2 with ⟨v, hv, k⟩ | ⟨hEj', -, -⟩
        · refine ⟨v, hv, ?_⟩
          have e : f :: i :: (pre ++ p2 ++ post) = (f :: i :: pre) ++ (p2 ++ post) := by simp
          rw [e]; exact k
        · exact absurd hEj' hEj
      obtain ⟨v0, hv0, g'⟩ := g'
      refine .inl ⟨v0, hv0, oi, hi, .inr ⟨hE, by rw [ap.wi a v0]; exact hW, g', ?_⟩⟩
      unfold Eff at step ⊢
      rw [ap.ei a v0]
      refine EffUpon_mono (fun u w' hk => ?_) step
      obtain ⟨hc, v, hv, k⟩ := hk
      rw [Stab.unique hC hv hv0] at k
      exact ⟨hc, k⟩

/-- An operation of post now: it does not act. -/
theorem floatPost (hs : NoSel ops) {Q : Act → World → Prop} {f j : Nat} {of oj : Oper} (hf : ops[f]? = some of) (hj : ops[j]? = some oj) (apj : of.apart ops oj = true) (hEj : ¬ E j = true) (p1 p2 : List Nat)
    (hp1 : ∀ i ∈ p1, ∀ oi, ops[i]? = some oi → oi.apart ops oj = true) : ∀ (pre : List Nat) (a : Act) (w : World), C w →
    (∀ i ∈ pre, ∀ oi, ops[i]? = some oi → oi.apart ops oj = true) →
    MixF P ops C E Q f (p1 ++ j :: p2) pre a w → ∃ v, Stab P ops C oj v a ∧ MixF P ops C E Q f (p1 ++ p2) pre (a.put oj.dst v) w
  | [], a, w, hC, _, h => by
    have hob : ∀ k ∈ f :: p1, (∀ ok, ops[k]? = some ok → ok.apart ops oj = true) ∧ ¬ (E k = true ∧ E j = true) := by
      intro k hk
      refine ⟨fun ok hok => ?_, fun e => hEj e.2⟩
      rcases List.mem_cons.1 hk with rfl | hk
      · rw [hf] at hok; cases hok; exact apj
      · exact hp1 k hk ok hok
    rcases pull (E := E) hs hj p2 (f :: p1) a w hC hob h with ⟨v, hv, k⟩ | ⟨hEj', -, -⟩
    · exact ⟨v, hv, k⟩
    · exact absurd hEj' hEj
  | i :: pre, a, w, hC, hp, h => by
    obtain ⟨oi, hi, h⟩ := h
    have hap := hp i (by simp)
    have ap := Ap.of hs hi hj (hap oi hi)
    have hp' : ∀ i ∈ pre, ∀ oi, ops[i]? = some oi → oi.apart ops oj = true := fun k hk => hp k (by simp [hk])
    rcases h with ⟨u, hu, h⟩ | ⟨hE, hW, g, h⟩
    · obtain ⟨v, hv, k⟩ := floatPost hs hf hj apj hEj p1 p2 hp1 pre (a.put oi.dst u) w hC hp' h
      refine ⟨v, hv.of_same (ap.ej a u).symm (ap.wj a u).symm, oi, hi, .inl ⟨u, hu.of_same (ap.ei a v) (ap.wi a v), ?_⟩⟩
      rw [← ap.pc a u v]; exact k
    · have step : Eff P oi a w fun u w' => C w' ∧ ∃ v, Stab P ops C oj v a ∧ MixF P ops C E Q f (p1 ++ p2) pre ((a.put oj.dst v).put oi.dst u) w' := by
        refine Eff_mono (fun u w' hk => ⟨hk.1, ?_⟩) h
        obtain ⟨v, hv, k⟩ := floatPost hs hf hj apj hEj p1 p2 hp1 pre (a.put oi.dst u) w' hk.1 hp' hk.2
        exact ⟨v, hv.of_same (ap.ej a u).symm (ap.wj a u).symm, by rw [← ap.pc a u v]; exact k⟩
      have g' : ∃ v, Stab P ops C oj v a ∧ Mix P ops C E Q (f :: i :: (pre ++ (p1 ++ p2))) (a.put oj.dst v) w := by
        have g2 : Mix P ops C E Q ((f :: i :: (pre ++ p1)) ++ j :: p2) a w := by
          have e : (f :: i :: (pre ++ p1)) ++ j :: p2 = f :: i :: (pre ++ (p1 ++ j :: p2)) := by simp
          rw [e]; exact g
        have hob : ∀ k ∈ f :: i :: (pre ++ p1), (∀ ok, ops[k]? = some ok → ok.apart ops oj = true) ∧ ¬ (E k = true ∧ E j = true) := by
          intro k hk
          refine ⟨fun ok hok => ?_, fun e => hEj e.2⟩
          rcases List.mem_cons.1 hk with rfl | hk
          · rw [hf] at hok; cases hok; exact apj
          · rcases List.mem_cons.1 hk with rfl | hk
            · exact hap ok hok
            · rcases List.mem_append.1 hk with hk | hk
              · exact hp' k hk ok hok
              · exact hp1 k hk ok hok
        rcases pull hs hj p2 (f :: i :: (pre ++ p1)) a w hC hob g2 with ⟨v, hv, k⟩ | ⟨hEj', -, -⟩
        · refine ⟨v, hv, ?_⟩
          have e : f :: i :: (pre ++ (p1 ++ p2)) = (f :: i :: (pre ++ p1)) ++ p2 := by simp
          rw [e]; exact k
        · exact absurd hEj' hEj
      obtain ⟨v0, hv0, g'⟩ := g'
      refine ⟨v0, hv0, oi, hi, .inr ⟨hE, by rw [ap.wi a v0]; exact hW, g', ?_⟩⟩
      unfold Eff at step ⊢
      rw [ap.ei a v0]
      refine EffUpon_mono (fun u w' hk => ?_) step
      obtain ⟨hc, v, hv, k⟩ := hk
      rw [Stab.unique hC hv hv0] at k
      exact ⟨hc, k⟩

theorem Mix.congr {E' : Nat → Bool} {Q : Act → World → Prop} : ∀ (L : List Nat) (a : Act) (w : World), (∀ i ∈ L, E i = true → E' i = true) → Mix P ops C E Q L a w → Mix P ops C E' Q L a w
  | [], _, _, _, h => h
  | i :: L, a, w, hE, h => by
    have hE' : ∀ i ∈ L, E i = true → E' i = true := fun k hk => hE k (by simp [hk])
    obtain ⟨o, ho, h⟩ := h
    refine ⟨o, ho, ?_⟩
    rcases h with ⟨v, hv, k⟩ | ⟨h1, h2, k⟩
    · exact .inl ⟨v, hv, Mix.congr L _ _ hE' k⟩
    · exact .inr ⟨hE i (by simp) h1, h2, Eff_mono (fun v w' hk => ⟨hk.1, Mix.congr L _ _ hE' hk.2⟩) k⟩

/-- As regionOk, but for the operation f, which is apart from all ahead of it and after which all come that act and stand behind it. -/
def regionOkF (ops : List Oper) (E : Nat → Bool) (f : Nat) : Bool :=
  let A := ops.toArray
  regionOk ops (fun i => E i && !(Nat.beq i f)) &&
  match ops[f]? with
  | none => false
  | some of => (ops.take f).all (fun oi => oi.apart A of && of.apart A oi) &&
    (ops.zipIdx.all fun (oj, j) => !(Nat.blt f j && E j) || oj.after.toList.any fun e => Region.binds .any e && Nat.beq e.on f)

theorem regionOkF_spec {l : List Oper} {f : Nat} (h : regionOkF l E f = true) : regionOk l (fun i => E i && !(Nat.beq i f)) = true ∧ ∃ of, l[f]? = some of ∧
    (∀ i oi, i < f → l[i]? = some oi → oi.apart l.toArray of = true ∧ of.apart l.toArray oi = true) ∧
    (∀ j oj, f < j → E j = true → l[j]? = some oj → ∃ e ∈ oj.after.toList, Region.binds .any e = true ∧ e.on = f) := by
  unfold regionOkF at h
  simp only [Bool.and_eq_true] at h
  obtain ⟨h0, h⟩ := h
  refine ⟨h0, ?_⟩
  cases hf : l[f]? with
  | none => rw [hf] at h; cases h
  | some of =>
    rw [hf] at h
    simp only [Bool.and_eq_true, List.all_eq_true] at h
    obtain ⟨h1, h2⟩ := h
    refine ⟨of, rfl, fun i oi hi ho => h1 oi ?_, fun j oj hj hE ho => ?_⟩
    · have : (l.take f)[i]? = some oi := by rw [List.getElem?_take, if_pos hi]; exact ho
      exact List.mem_of_getElem? this
    · have h3 := h2 (oj, j) (List.mem_zipIdx_iff_getElem?.2 ho)
      have hlt : Nat.blt f j = true := Nat.ble_eq_true_of_le hj
      simp only [hlt, hE, Bool.and_self, Bool.not_true, Bool.false_or, List.any_eq_true, Bool.and_eq_true] at h3
      obtain ⟨e, he, hb, hq⟩ := h3
      exact ⟨e, he, hb, Nat.eq_of_beq_eq_true hq⟩

theorem any_of_mixF {l : List Oper} {f : Nat} {Q : Exit → Act → World → Prop} (hF : regionOkF l E f = true) : ∀ (m : Nat) (pre post : List Nat) (listed : Array Bool) (a : Act) (w : World),
    (pre ++ f :: post).length = m → (pre ++ f :: post).Pairwise (· < ·) → (∀ i, i ∈ pre ++ f :: post ↔ i < l.length ∧ listed.getD i true = false) → listed.size = l.length →
    Closed l.toArray (fun i => listed.getD i false) → C w → MixF P l.toArray C E (fun a w => Q .normal a w) f post pre a w → wpAny P .any l.toArray Q m listed a w := by
  obtain ⟨h, of, hof, hpreF, hpostF⟩ := regionOkF_spec hF
  obtain ⟨hs, hback, hpair⟩ := regionOk_spec h
  intro m
  induction m with
  | zero =>
    intro pre post listed a w hlen
    simp at hlen
  | succ m ih =>
    intro pre post listed a w hlen hsort hmem hsz hcl hC hm
    have hofA : l.toArray[f]? = some of := by simpa using hof
    have hq := List.pairwise_append.1 hsort
    have hq2 := List.pairwise_cons.1 hq.2.1
    have hpf : ∀ i ∈ pre, i < f := fun i hi => hq.2.2 i hi f (by simp)
    have hfp : ∀ i ∈ post, f < i := hq2.1
    have hnotL : ∀ i ∈ pre ++ f :: post, listed.getD i false = false := fun i hi => by
      have h1 := (hmem i).1 hi
      have h2 := h1.2
      rw [Array.getD_eq_getD_getElem?] at h2 ⊢
      rw [Array.getElem?_eq_getElem (by omega)] at h2 ⊢
      simpa using h2
    refine ⟨fun hnil => ?_, fun j hj => ?_⟩
    · -- the first that is left may come up
      obtain ⟨k, L', hL⟩ : ∃ k L', pre ++ f :: post = k :: L' := by
        cases pre with
        | nil => exact ⟨_, _, rfl⟩
        | cons k p => exact ⟨_, _, rfl⟩
      rw [hL] at hmem hsort
      exfalso
      have hk := (hmem k).1 (by simp)
      have hkr : k ∈ Region.ready .any l.toArray listed := by
        refine mem_ready.2 ⟨hk.2, l[k]'hk.1, by simp [hk.1], fun e he hb => ?_⟩
        have hlt := hback k (l[k]'hk.1) (by simp [hk.1]) e (by simpa using he) hb
        have hlt' : e.on < l.length := Nat.lt_trans hlt hk.1
        cases hg : listed.getD e.on true with
        | true =>
          rw [Array.getD_eq_getD_getElem?] at hg ⊢
          rw [Array.getElem?_eq_getElem (by omega)] at hg ⊢
          simpa using hg
        | false =>
          have hin := (hmem e.on).2 ⟨hlt', hg⟩
          rcases List.mem_cons.1 hin with heq | hin'
          · omega
          · have := (List.pairwise_cons.1 hsort).1 _ hin'
            omega
      rw [hnil] at hkr
      cases hkr
    · obtain ⟨hj1, oj, hoj, hjall⟩ := mem_ready.1 hj
      have hjl : j < l.length := by simpa using (Array.getElem?_eq_some_iff.1 hoj).1
      have hoj' : l[j]? = some oj := by simpa using hoj
      have hjL : j ∈ pre ++ f :: post := (hmem j).2 ⟨hjl, hj1⟩
      have hdep : ∀ e ∈ oj.after.toList, Region.binds .any e = true → listed.getD e.on false = true := fun e he hb => hjall e (by simpa using he) hb
      -- what is left and stands ahead is apart, and does not act beside it
      have hap : ∀ i, i ∈ pre ++ f :: post → i < j → (∀ oi, l.toArray[i]? = some oi → oi.apart l.toArray oj = true) ∧ (i ≠ f → j ≠ f → ¬ (E i = true ∧ E j = true)) := fun i hi hij => by
        have hi1 := (hmem i).1 hi
        have hif := hnotL i hi
        refine ⟨fun oi hoi => ?_, fun n1 n2 ⟨e1, e2⟩ => ?_⟩
        · obtain ⟨hor, -⟩ := hpair i j oi oj hij (by simpa using hoi) hoj'
          rcases hor with ⟨e, he, hb, heq⟩ | hap
          · have := hdep e he hb
            rw [heq, hif] at this
            cases this
          · exact hap
        · obtain ⟨-, hch⟩ := hpair i j (l[i]'hi1.1) oj hij (by simp [hi1.1]) hoj'
          have b1 : Nat.beq i f = false := by
            cases hb : Nat.beq i f with
            | true => exact absurd (Nat.eq_of_beq_eq_true hb) n1
            | false => rfl
          have b2 : Nat.beq j f = false := by
            cases hb : Nat.beq j f with
            | true => exact absurd (Nat.eq_of_beq_eq_true hb) n2
            | false => rfl
          have hb := hch (by simp [e1, b1]) (by simp [e2, b2])
          have := anc_sound (ops := l.toArray) hcl l #[] (by simp) (by simp) (fun k _ hk => ⟨l[k]'(by simpa using hk), by simp at hk; simp [hk]⟩) (by simp) j oj hoj (by simpa using hjl) hdep i hb
          rw [hif] at this
          cases this
      have hcl' : Closed l.toArray (fun i => (listed.setIfInBounds j true).getD i false) := fun k o hk hl e he hb => by
        by_cases hkj : j = k
        · subst hkj
          rw [hoj] at hk; cases hk
          exact getD_set_true (hdep e he hb)
        · have hl' : listed.getD k false = true := by
            have := getD_set_ne (listed := listed) false hkj
            simp only [this] at hl
            exact hl
          exact getD_set_true (hcl k o hk hl' e he hb)
      have hmem' : ∀ A B, pre ++ f :: post = A ++ j :: B → ∀ i, i ∈ A ++ B ↔ i < l.length ∧ (listed.setIfInBounds j true).getD i true = false := fun A B hAB i => by
        rw [hAB] at hsort hmem
        have hnd : i ∈ A ++ B ↔ i ∈ A ++ j :: B ∧ i ≠ j := by
          have hq := List.pairwise_append.1 hsort
          have hq2 := List.pairwise_cons.1 hq.2.1
          constructor
          · intro hi
            refine ⟨by rcases List.mem_append.1 hi with hi | hi <;> simp [hi], fun heq => ?_⟩
            subst heq
            rcases List.mem_append.1 hi with hi | hi
            · exact Nat.lt_irrefl _ (hq.2.2 i hi i (by simp))
            · exact Nat.lt_irrefl _ (hq2.1 _ hi)
          · rintro ⟨hi, hne⟩
            rcases List.mem_append.1 hi with hi | hi
            · simp [hi]
            · rcases List.mem_cons.1 hi with hi | hi
              · exact absurd hi hne
              · simp [hi]
        rw [hnd, hmem i]
        by_cases hij : j = i
        · subst hij
          have hset : (listed.setIfInBounds j true).getD j true = true := by
            rw [Array.getD_eq_getD_getElem?, Array.getElem?_setIfInBounds_self_of_lt (by omega)]; rfl
          rw [hset]
          simp
        · rw [getD_set_ne true hij]
          constructor
          · rintro ⟨⟨h1, h2⟩, -⟩; exact ⟨h1, h2⟩
          · rintro ⟨h1, h2⟩; exact ⟨⟨h1, h2⟩, fun e => hij e.symm⟩
      have hsort' : ∀ A B, pre ++ f :: post = A ++ j :: B → (A ++ B).Pairwise (· < ·) := fun A B hAB => by
        rw [hAB] at hsort
        exact hsort.sublist (List.Sublist.append_left (List.sublist_cons_self _ _) _)
      have hlen' : ∀ A B, pre ++ f :: post = A ++ j :: B → (A ++ B).length = m := fun A B hAB => by
        rw [hAB] at hlen
        simp at hlen ⊢; omega
      unfold wpOp
      simp only [hoj]
      -- a step that leaves what may go on
      have fin : ∀ (X : Act → World → Prop), (∀ a' w', C w' → X a' w' → wpAny P .any l.toArray Q m (listed.setIfInBounds j true) a' w') →
          ((∃ v, Stab P l.toArray C oj v a ∧ X (a.put oj.dst v) w) ∨ (Wanted l.toArray oj a = true ∧ Eff P oj a w fun v w' => C w' ∧ X (a.put oj.dst v) w')) →
          (if Region.wanted oj (yielded l.toArray a.tmps) = true then (oj.wp P a w (wpAny P .any l.toArray Q m (listed.setIfInBounds j true)) Q ∨ (oj.asks P a w ∧ LetsOut Q)) else wpAny P .any l.toArray Q m (listed.setIfInBounds j true) (a.put oj.dst undef) w) := by
        intro X next hx
        rcases hx with ⟨v, hv, k⟩ | ⟨hW, k⟩
        · rcases hv with ⟨hW, hr⟩ | ⟨hW, rfl⟩
          · rw [if_pos (show Region.wanted _ _ = true from hW)]
            refine .inl ?_
            unfold Oper.wp
            rw [hr w hC]
            exact next _ _ hC k
          · rw [if_neg (by unfold Wanted at hW; rw [hW]; exact Bool.false_ne_true)]
            exact next _ _ hC k
        · rw [if_pos (show Region.wanted _ _ = true from hW)]
          exact .inl (wp_of_Eff (fun v w' hk => next _ _ hk.1 hk.2) k)
      rcases List.mem_append.1 hjL with hjp | hjp
      · -- of pre
        obtain ⟨q1, q2, rfl⟩ := List.append_of_mem hjp
        have hjf := hpf j hjp
        have e0 : (q1 ++ j :: q2) ++ f :: post = q1 ++ j :: (q2 ++ f :: post) := by simp
        have e1 : q1 ++ (q2 ++ f :: post) = (q1 ++ q2) ++ f :: post := by simp
        have hq1 : ∀ i ∈ q1, i < j := fun i hi => by
          have := hsort
          rw [e0] at this
          exact (List.pairwise_append.1 this).2.2 i hi j (by simp)
        refine fin (fun a' w' => MixF P l.toArray C E (fun a w => Q .normal a w) f post (q1 ++ q2) a' w') (fun a' w' hC' hx => ?_) ?_
        · refine ih (q1 ++ q2) post (listed.setIfInBounds j true) a' w' ?_ ?_ ?_ (by simpa using hsz) hcl' hC' hx
          · rw [← e1]; exact hlen' _ _ e0
          · rw [← e1]; exact hsort' _ _ e0
          · rw [← e1]; exact hmem' _ _ e0
        · have hob : ∀ i ∈ q1, (∀ oi, l.toArray[i]? = some oi → oi.apart l.toArray oj = true) ∧ ¬ (E i = true ∧ E j = true) := fun i hi => by
            have h1 := hap i (by simp [hi]) (hq1 i hi)
            refine ⟨h1.1, h1.2 (fun e => ?_) (fun e => ?_)⟩
            · have := hq1 i hi; omega
            · omega
          rcases floatPre hs hofA hoj (hpreF j oj hjf hoj').2 post q2 q1 a w hC hob hm with hx | ⟨-, hW, hx⟩
          · exact .inl hx
          · exact .inr ⟨hW, hx⟩
      · rcases List.mem_cons.1 hjp with rfl | hjp
        · -- f itself
          rw [hofA] at hoj; cases hoj
          have hA : ∀ i ∈ pre ++ post, i ≠ j := fun i hi e => by
            subst e
            rcases List.mem_append.1 hi with hi | hi
            · exact Nat.lt_irrefl _ (hpf _ hi)
            · exact Nat.lt_irrefl _ (hfp _ hi)
          refine fin (fun a' w' => Mix P l.toArray C E (fun a w => Q .normal a w) (pre ++ post) a' w') (fun a' w' hC' hx => ?_) ?_
          · refine any_of_mix (E := fun i => E i && !(Nat.beq i j)) h m (pre ++ post) (listed.setIfInBounds j true) a' w' (hlen' _ _ rfl) (hsort' _ _ rfl) (hmem' _ _ rfl) (by simpa using hsz) hcl' hC' ?_
            refine hx.congr _ _ _ fun i hi hE => ?_
            have : Nat.beq i j = false := by
              cases hb : Nat.beq i j with
              | true => exact absurd (Nat.eq_of_beq_eq_true hb) (hA i hi)
              | false => rfl
            simp [hE, this]
          · rcases floatNow hs hofA post pre a w (fun i hi oi ho => (hpreF i oi (hpf i hi) (by simpa using ho)).1) hm with hx | ⟨-, hW, hx⟩
            · exact .inl hx
            · exact .inr ⟨hW, hx⟩
        · -- of post
          obtain ⟨q1, q2, rfl⟩ := List.append_of_mem hjp
          have hjf := hfp j hjp
          have e0 : pre ++ f :: (q1 ++ j :: q2) = (pre ++ f :: q1) ++ j :: q2 := by simp
          have e1 : (pre ++ f :: q1) ++ q2 = pre ++ f :: (q1 ++ q2) := by simp
          have hq1 : ∀ i ∈ pre ++ f :: q1, i < j := fun i hi => by
            have := hsort
            rw [e0] at this
            exact (List.pairwise_append.1 this).2.2 i hi j (by simp)
          have hin : ∀ i, i ∈ pre ++ f :: q1 → i ∈ pre ++ f :: (q1 ++ j :: q2) := fun i hi => by
            rw [e0]; simp only [List.mem_append] at hi ⊢; exact .inl hi
          have hEj : ¬ E j = true := fun hE => by
            obtain ⟨e, he, hb, hef⟩ := hpostF j oj hjf hE hoj'
            have h1 := hdep e he hb
            rw [hef, hnotL f (by simp)] at h1
            cases h1
          refine fin (fun a' w' => MixF P l.toArray C E (fun a w => Q .normal a w) f (q1 ++ q2) pre a' w') (fun a' w' hC' hx => ?_) ?_
          · refine ih pre (q1 ++ q2) (listed.setIfInBounds j true) a' w' ?_ ?_ ?_ (by simpa using hsz) hcl' hC' hx
            · rw [← e1]; exact hlen' _ _ e0
            · rw [← e1]; exact hsort' _ _ e0
            · rw [← e1]; exact hmem' _ _ e0
          · refine .inl (floatPost hs hofA hoj ?_ hEj q1 q2 ?_ pre a w hC ?_ hm)
            · exact (hap f (by simp) hjf).1 of hofA
            · exact fun i hi oi ho => (hap i (by simp [hi]) (hq1 i (by simp [hi]))).1 oi ho
            · exact fun i hi oi ho => (hap i (by simp [hi]) (hq1 i (by simp [hi]))).1 oi ho

/-- A drawn region with such an operation. -/
theorem region_float {id : Nat} {l : List Oper} {f : Nat} {Q : Exit → Act → World → Prop} {a : Act} {w : World} (hm : P.follows .mixedOrders = true) (hok : regionOkF l E f = true)
    (hC : C { w with drawn := w.drawn + 1 }) (h : MixF P l.toArray C E (fun a w => Q .normal a w) f (List.range' (f + 1) (l.length - (f + 1))) (List.range f) a { w with drawn := w.drawn + 1 }) :
    (Code.region id l.toArray true).wp P Q a w := by
  refine wp_region_any hm ?_
  obtain ⟨-, of, hof, -⟩ := regionOkF_spec hok
  have hfl : f < l.length := (List.getElem?_eq_some_iff.1 hof).1
  have hsplit : List.range f ++ f :: List.range' (f + 1) (l.length - (f + 1)) = List.range l.length := by
    rw [List.range_eq_range', List.range_eq_range', ← List.range'_succ]
    rw [show l.length - (f + 1) + 1 = l.length - f by omega]
    have := @List.range'_append 0 f (l.length - f) 1
    rw [show (0 + 1 * f) = f by omega] at this
    rw [this, show f + (l.length - f) = l.length by omega]
  have := any_of_mixF (P := P) (C := C) (Q := Q) hok l.length (List.range f) (List.range' (f + 1) (l.length - (f + 1))) (Array.replicate l.length false) a { w with drawn := w.drawn + 1 } (by rw [hsplit]; simp) (by rw [hsplit]; exact List.pairwise_lt_range)
    (fun i => by
      rw [hsplit, List.mem_range]
      constructor
      · intro hi
        refine ⟨hi, ?_⟩
        rw [Array.getD_eq_getD_getElem?, Array.getElem?_eq_getElem (by simpa using hi)]
        simp
      · exact fun hi => hi.1)
    (by simp) (fun k o _ hk e _ _ => by
      exfalso
      by_cases hlt : k < l.length
      · simp [Array.getD_eq_getD_getElem?, hlt] at hk
      · simp [Array.getD_eq_getD_getElem?, hlt] at hk) hC h
  simpa using this

end float

/-! ### By frames -/

theorem wanted_none {ops : Array Oper} {o : Oper} {a : Act} (h : o.guard = none) : Wanted ops o a = true := by
  unfold Wanted Region.wanted; rw [h]

/-- The same operations, from another list of them. -/
theorem mix_ops {P : Program} {C : World → Prop} {o1 o2 : List Oper} {Q1 Q2 : Act → World → Prop} (hg : ∀ o ∈ o2, o.guard = none) (hQ : ∀ a w, Q1 a w → Q2 a w) : ∀ (L1 L2 : List Nat) (a : Act) (w : World),
    L1.map (fun i => o1[i]?) = L2.map (fun i => o2[i]?) → Mix P o1.toArray C (effB o1) Q1 L1 a w → Mix P o2.toArray C (effB o2) Q2 L2 a w
  | [], [], a, w, _, h => hQ a w h
  | [], _ :: _, a, w, he, h => by simp at he
  | _ :: _, [], a, w, he, h => by simp at he
  | i :: L1, j :: L2, a, w, he, h => by
    simp only [List.map_cons, List.cons.injEq] at he
    obtain ⟨he1, he2⟩ := he
    obtain ⟨o, ho, h⟩ := h
    have ho1 : o1[i]? = some o := by simpa using ho
    have ho2 : o2[j]? = some o := by rw [← he1]; exact ho1
    have hn : o.guard = none := hg o (List.mem_of_getElem? ho2)
    refine ⟨o, by simpa using ho2, ?_⟩
    rcases h with ⟨v, hv, k⟩ | ⟨h1, h2, k⟩
    · refine .inl ⟨v, ?_, mix_ops hg hQ L1 L2 _ _ he2 k⟩
      rcases hv with ⟨-, hr⟩ | ⟨hW, -⟩
      · exact .inl ⟨wanted_none hn, hr⟩
      · rw [wanted_none hn] at hW; cases hW
    · refine .inr ⟨?_, wanted_none hn, Eff_mono (fun v w' hk => ⟨hk.1, mix_ops hg hQ L1 L2 _ _ he2 hk.2⟩) k⟩
      unfold effB at h1 ⊢
      rw [opAt_eq, ho1] at h1
      rw [opAt_eq, ho2]
      exact h1

theorem map_range' {l : List Oper} : ∀ (k i : Nat), i + k ≤ l.length → (List.range' i k).map (fun i => l[i]?) = ((l.drop i).take k).map some
  | 0, i, _ => by simp
  | k + 1, i, h => by
    have hi : i < l.length := by omega
    rw [List.range'_succ, List.map_cons, map_range' k (i + 1) (by omega), List.drop_eq_getElem_cons hi, List.take_succ_cons, List.map_cons, List.getElem?_eq_getElem hi]

/-- f at place i. -/
def moveTo (ops : List Oper) (f i : Nat) : List Oper := ops.take i ++ (ops[f]?.toList ++ ((ops.drop i).take (f - i) ++ ops.drop (f + 1)))

def noGuards (ops : List Oper) : Bool := ops.all fun o => o.guard.isNone
theorem noGuards_spec {ops : List Oper} (h : noGuards ops = true) : ∀ o ∈ ops, o.guard = none := by
  unfold noGuards at h
  rw [List.all_eq_true] at h
  exact fun o ho => by simpa using h o ho

section rules
variable {P : Program} {n : Nat} {ops : List Oper} {Ch : Hp → Prop} {Q : Post} {l : Fr} {h : Hp} {f i : Nat}

/-- What is left of a region, from number i on, where f has not come up yet. -/
structure SF (P : Program) (n : Nat) (ops : List Oper) (Ch : Hp → Prop) (Q : Post) (f i : Nat) (l : Fr) (h : Hp) : Prop where mk ::
  run : ∀ a w w0, Fits l n a → w.heap = h → Oth w0 w →
    MixF P ops.toArray (fun w' => Oth w0 w' ∧ Ch w'.heap) (effB ops) (fun a w' => lift n Q w0 .normal a w') f (List.range' (f + 1) (ops.length - (f + 1))) (List.range' i (f - i)) a w

def ToSF (P : Program) (n : Nat) (ops : List Oper) (Ch : Hp → Prop) (Q : Post) (f i : Nat) : Post := fun e l h => e = .normal ∧ SF P n ops Ch Q f i l h
theorem to_sf (k : SF P n ops Ch Q f i l h) : At (ToSF P n ops Ch Q f i) .normal l h := ⟨⟨rfl, k⟩⟩

theorem r_drawnF {c : Code} (Ch : Hp → Prop) (f : Nat) (hc : tagOf c = .region true) (hm : P.follows .mixedOrders = true) (hok : regionOkF (opsOf c) (effB (opsOf c)) f = true) (hC : Ch h)
    (k : SF P n (opsOf c) Ch Q f 0 l h) : W P n c Q l h := W.mk fun a w hf hw => by
  cases c <;> cases hc
  rename_i id ops
  have := region_float (id := id) (l := ops.toList) (f := f) (E := effB ops.toList) (Q := lift n Q w) (C := fun w' => Oth w w' ∧ Ch w'.heap) hm hok ⟨⟨rfl, rfl, rfl⟩, by rw [← hw] at hC; exact hC⟩ (a := a) (by
    have := k.run a { w with drawn := w.drawn + 1 } w hf hw ⟨rfl, rfl, rfl⟩
    rw [Nat.sub_zero, ← List.range_eq_range'] at this
    exact this)
  simpa using this

/-- f comes last. -/
theorem sf_end (hf : Nat.blt f ops.length = true) (k : S P n ops Ch (effB ops) Q f l h) : SF P n ops Ch Q f f l h := SF.mk fun a w w0 h1 h2 h3 => by
  have hlt : f < ops.length := Nat.le_of_ble_eq_true hf
  have := k.run a w w0 h1 h2 h3
  rw [show ops.length - f = ops.length - (f + 1) + 1 by omega, List.range'_succ] at this
  rw [Nat.sub_self]
  exact this

theorem mixF_of_mix {C : World → Prop} {E : Nat → Bool} {os : Array Oper} {Q1 Q2 : Act → World → Prop} {post rest : List Nat} (hQ : ∀ a w, Q1 a w → MixF P os C E Q2 f post rest a w) : ∀ (L : List Nat) (a : Act) (w : World),
    (∀ i ∈ L, E i = false) → Mix P os C E Q1 L a w → MixF P os C E Q2 f post (L ++ rest) a w
  | [], a, w, _, h => hQ a w h
  | i :: L, a, w, hE, h => by
    obtain ⟨o, ho, h⟩ := h
    refine ⟨o, ho, .inl ?_⟩
    rcases h with ⟨v, hv, k⟩ | ⟨h1, -⟩
    · exact ⟨v, hv, mixF_of_mix hQ L _ _ (fun i hi => hE i (by simp [hi])) k⟩
    · rw [hE i (by simp)] at h1; cases h1

/-- Operations that do not act, from i up to m. -/
theorem sf_seg (m : Nat) (him : Nat.ble i m = true) (hmf : Nat.ble m f = true) (hlen : Nat.ble f ops.length = true) (hg : noGuards ops = true) (hE : ((List.range' i (m - i)).all fun j => !effB ops j) = true)
    (k : S P n (ops.take m) Ch (effB (ops.take m)) (ToSF P n ops Ch Q f m) i l h) : SF P n ops Ch Q f i l h := SF.mk fun a w w0 h1 h2 h3 => by
  have him := Nat.le_of_ble_eq_true him
  have hmf := Nat.le_of_ble_eq_true hmf
  have hlen := Nat.le_of_ble_eq_true hlen
  have := k.run a w w0 h1 h2 h3
  have hl : (ops.take m).length = m := by rw [List.length_take]; omega
  rw [hl] at this
  have e : (List.range' i (m - i)).map (fun j => (ops.take m)[j]?) = (List.range' i (m - i)).map (fun j => ops[j]?) := by
    refine List.map_congr_left fun j hj => ?_
    rw [List.mem_range'_1] at hj
    rw [List.getElem?_take, if_pos (by omega)]
  have h4 := mix_ops (noGuards_spec hg) (fun a w h => h) _ _ a w e this
  have hsp : List.range' i (f - i) = List.range' i (m - i) ++ List.range' m (f - m) := by
    have := @List.range'_append i (m - i) (f - m) 1
    rw [show i + 1 * (m - i) = m by omega, show m - i + (f - m) = f - i by omega] at this
    exact this.symm
  rw [hsp]
  refine mixF_of_mix (fun a w hq => ?_) _ a w (fun j hj => by rw [List.all_eq_true] at hE; simpa using hE j hj) h4
  obtain ⟨l', g1, ⟨-, g2⟩, g3⟩ := hq
  exact g2.run a w w0 g1 rfl g3

/-- An operation that acts: f ahead of it, and f behind it. -/
theorem sf_act (hif : Nat.blt i f = true) (hlen : Nat.blt f ops.length = true) (hg : noGuards ops = true)
    (k1 : S P n (moveTo ops f i) Ch (effB (moveTo ops f i)) Q i l h)
    (k2 : S P n (ops.take (i + 1)) Ch (effB (ops.take (i + 1))) (ToSF P n ops Ch Q f (i + 1)) i l h) : SF P n ops Ch Q f i l h := SF.mk fun a w w0 h1 h2 h3 => by
  have hif : i < f := Nat.le_of_ble_eq_true hif
  have hlen : f < ops.length := Nat.le_of_ble_eq_true hlen
  have g1 := k1.run a w w0 h1 h2 h3
  have g2 := k2.run a w w0 h1 h2 h3
  have hml : (moveTo ops f i).length = ops.length := by
    unfold moveTo
    rw [List.getElem?_eq_getElem hlen]
    simp only [List.length_append, List.length_take, Option.toList_some, List.length_cons, List.length_nil, List.length_drop]
    omega
  have e1 : (List.range' i ((moveTo ops f i).length - i)).map (fun j => (moveTo ops f i)[j]?) = (f :: (List.range' i (f - i) ++ List.range' (f + 1) (ops.length - (f + 1)))).map (fun j => ops[j]?) := by
    rw [map_range' _ _ (by omega), List.map_cons, List.map_append, map_range' _ _ (by omega), map_range' _ _ (by omega), hml, List.getElem?_eq_getElem hlen]
    have ed : (moveTo ops f i).drop i = ops[f] :: ((ops.drop i).take (f - i) ++ ops.drop (f + 1)) := by
      unfold moveTo
      rw [List.drop_append_of_le_length (by rw [List.length_take]; omega), List.getElem?_eq_getElem hlen, List.drop_eq_nil_of_le (by rw [List.length_take]; omega)]
      rfl
    rw [ed, List.take_of_length_le (by
      simp only [List.length_append, List.length_take, List.length_cons, List.length_drop]
      omega), List.take_of_length_le (l := ops.drop (f + 1)) (by simp)]
    simp
  have m1 := mix_ops (noGuards_spec hg) (fun a w h => h) _ _ a w e1 g1
  have hl : (ops.take (i + 1)).length = i + 1 := by rw [List.length_take]; omega
  rw [hl, show i + 1 - i = 1 by omega] at g2
  have e2 : (List.range' i 1).map (fun j => (ops.take (i + 1))[j]?) = (List.range' i 1).map (fun j => ops[j]?) := by
    refine List.map_congr_left fun j hj => ?_
    rw [List.mem_range'_1] at hj
    rw [List.getElem?_take, if_pos (by omega)]
  have m2 := mix_ops (noGuards_spec hg) (fun a w h => h) _ _ a w e2 g2
  have hto : ∀ a w, lift n (ToSF P n ops Ch Q f (i + 1)) w0 .normal a w → MixF P ops.toArray (fun w' => Oth w0 w' ∧ Ch w'.heap) (effB ops) (fun a w' => lift n Q w0 .normal a w') f (List.range' (f + 1) (ops.length - (f + 1))) (List.range' (i + 1) (f - (i + 1))) a w := by
    intro a w hq
    obtain ⟨l', x1, ⟨-, x2⟩, x3⟩ := hq
    exact x2.run a w w0 x1 rfl x3
  have hsp : List.range' i (f - i) = i :: List.range' (i + 1) (f - (i + 1)) := by
    rw [show f - i = f - (i + 1) + 1 by omega, List.range'_succ]
  rw [hsp] at m1 ⊢
  obtain ⟨o, ho, m2⟩ := m2
  refine ⟨o, ho, ?_⟩
  rcases m2 with ⟨v, hv, k⟩ | ⟨y1, y2, k⟩
  · exact .inl ⟨v, hv, hto _ _ k⟩
  · exact .inr ⟨y1, y2, m1, Eff_mono (fun v w' hk => ⟨hk.1, hto _ _ hk.2⟩) k⟩

/-- A cut ahead of the code that comes next. -/
theorem w_thenCut {σ : Type} {c y : Code} (F : σ → Fr) (D : σ → Hp → Prop) (k : W P n c (Cut F D (Then P n y Q)) l h) (k2 : ∀ s h', D s h' → W P n y Q (F s) h') : W P n c (Then P n y Q) l h :=
  W.mk fun a w hf hw => wp_mono (k.run a w hf hw) fun e a' w' hq => by
    obtain ⟨l', h1, h2, h3⟩ := hq
    cases e with
    | normal =>
      obtain ⟨s, g1, g2⟩ := h2
      exact ⟨F s, h1.sub g1, k2 s _ g2, h3⟩
    | exit id => exact ⟨l', h1, h2, h3⟩
    | goto l => exact ⟨l', h1, h2, h3⟩
    | ret => exact ⟨l', h1, h2, h3⟩
    | panic c => exact ⟨l', h1, h2, h3⟩
    | outgrown => exact ⟨l', h1, h2, h3⟩
end rules
end Go.Den
