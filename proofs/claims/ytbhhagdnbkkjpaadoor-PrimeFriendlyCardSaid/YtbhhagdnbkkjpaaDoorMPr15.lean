/- Texts Tail to DenT of this work, joined: each says in its own head what it proves, and of which condition. -/
import Derived.Test.YtbhhagdnbkkjpaaDoorMPr14
/- A drawn region whose last operations wait for all before them: the others in the text's order, then these. No condition. -/
namespace Go.Den
set_option linter.unusedVariables false
set_option maxRecDepth 8000
open Go Go.RowKit

section tail
variable {P : Program} {C : World → Prop} {E : Nat → Bool}

/-- What is asked of a region: as ever ahead of the number t; from there on each waits for all before it. -/
def regionOkT (ops : List Oper) (E : Nat → Bool) (t : Nat) : Bool :=
  let A := ops.toArray
  let an := ancGo ops #[]
  Region.noSelect A &&
  ops.zipIdx.all fun (oj, j) =>
    oj.after.toList.all (fun e => !Region.binds .any e || Nat.blt e.on j) &&
    (match oj.guard with | none => true | some g => Nat.blt g.1 j) &&
    (ops.take j).zipIdx.all fun (oi, i) =>
      bif Nat.blt j t then
        ((oj.after.toList.any fun e => Region.binds .any e && Nat.beq e.on i) || oi.apart A oj) &&
        (!(E i && E j) || (an.getD j 0).testBit i)
      else (an.getD j 0).testBit i

theorem regionOkT_spec {l : List Oper} {t : Nat} (h : regionOkT l E t = true) : NoSel l.toArray ∧
    (∀ j oj, l[j]? = some oj → ∀ e ∈ oj.after.toList, Region.binds .any e = true → e.on < j) ∧
    (∀ (j : Nat) (oj : Oper) (g : Nat × Bool), l[j]? = some oj → oj.guard = some g → g.1 < j) ∧
    (∀ i j oi oj, i < j → j < t → l[i]? = some oi → l[j]? = some oj → ((∃ e ∈ oj.after.toList, Region.binds .any e = true ∧ e.on = i) ∨ oi.apart l.toArray oj = true) ∧
      (E i = true → E j = true → ((ancGo l #[]).getD j 0).testBit i = true)) ∧
    (∀ i j oi oj, i < j → ¬ j < t → l[i]? = some oi → l[j]? = some oj → ((ancGo l #[]).getD j 0).testBit i = true) := by
  unfold regionOkT at h
  simp only [Bool.and_eq_true] at h
  obtain ⟨h0, h⟩ := h
  have hq : ∀ i j oi oj, i < j → l[i]? = some oi → l[j]? = some oj → (bif Nat.blt j t then
        ((oj.after.toList.any fun e => Region.binds .any e && Nat.beq e.on i) || oi.apart l.toArray oj) &&
        (!(E i && E j) || ((ancGo l #[]).getD j 0).testBit i)
      else ((ancGo l #[]).getD j 0).testBit i) = true := fun i j oi oj hij hi hj => by
    have h1 := zipIdx_all h hj
    simp only [Bool.and_eq_true] at h1
    exact zipIdx_all h1.2 (show (l.take j)[i]? = some oi by rw [List.getElem?_take, if_pos hij]; exact hi)
  refine ⟨Region.noSelect_spec h0, fun j oj hj e he hb => ?_, fun j oj g hj hg => ?_, fun i j oi oj hij hjt hi hj => ?_, fun i j oi oj hij hjt hi hj => ?_⟩
  · have h1 := zipIdx_all h hj
    simp only [Bool.and_eq_true, List.all_eq_true] at h1
    have := h1.1.1 e he
    simp only [hb, Bool.not_true, Bool.false_or] at this
    exact Nat.le_of_ble_eq_true this
  · have h1 := zipIdx_all h hj
    simp only [Bool.and_eq_true] at h1
    have := h1.1.2
    rw [hg] at this
    exact Nat.le_of_ble_eq_true this
  · have h2 := hq i j oi oj hij hi hj
    rw [show Nat.blt j t = true from Nat.ble_eq_true_of_le hjt, cond_true] at h2
    simp only [Bool.and_eq_true, Bool.or_eq_true] at h2
    obtain ⟨h3, h4⟩ := h2
    refine ⟨?_, fun ei ej => ?_⟩
    · rcases h3 with h3 | h3
      · rw [List.any_eq_true] at h3
        obtain ⟨e, he, hb⟩ := h3
        simp only [Bool.and_eq_true] at hb
        exact .inl ⟨e, he, hb.1, Nat.eq_of_beq_eq_true hb.2⟩
      · exact .inr h3
    · simpa [ei, ej] using h4
  · have h2 := hq i j oi oj hij hi hj
    have : Nat.blt j t = false := by
      cases hb : Nat.blt j t with
      | false => rfl
      | true => exact absurd (Nat.le_of_ble_eq_true hb) hjt
    rwa [this, cond_false] at h2

/-- The last ones: each comes up in its turn. -/
theorem any_of_last {D : World → Prop} {l : List Oper} {t : Nat} {Q : Exit → Act → World → Prop} (h : regionOkT l E t = true) : ∀ (m s : Nat) (listed : Array Bool) (a : Act) (w : World),
    s + m = l.length → t ≤ s → (∀ i, i < l.length → (listed.getD i true = false ↔ s ≤ i)) → listed.size = l.length →
    Closed l.toArray (fun i => listed.getD i false) → D w → Mix P l.toArray D (fun _ => true) (fun a w => Q .normal a w) (List.range' s m) a w → wpAny P .any l.toArray Q m listed a w := by
  obtain ⟨hs, hback, -, -, hlast⟩ := regionOkT_spec h
  intro m
  induction m with
  | zero =>
    intro s listed a w hlen hts hmem hsz hcl hD hm
    refine ⟨?_, hm⟩
    rw [List.eq_nil_iff_forall_not_mem]
    intro j hj
    obtain ⟨h1, o, ho, -⟩ := mem_ready.1 hj
    have hjl : j < l.length := by simpa using (Array.getElem?_eq_some_iff.1 ho).1
    have := (hmem j hjl).1 h1
    omega
  | succ m ih =>
    intro s listed a w hlen hts hmem hsz hcl hD hm
    have hsl : s < l.length := by omega
    have getb : ∀ i, i < l.length → listed.getD i true = listed.getD i false := fun i hi => by
      rw [Array.getD_eq_getD_getElem?, Array.getD_eq_getD_getElem?, Array.getElem?_eq_getElem (by omega)]; rfl
    refine ⟨fun hnil => ?_, fun j hj => ?_⟩
    · exfalso
      have hkr : s ∈ Region.ready .any l.toArray listed := by
        refine mem_ready.2 ⟨(hmem s hsl).2 (Nat.le_refl _), l[s]'hsl, by simp [hsl], fun e he hb => ?_⟩
        have hlt := hback s (l[s]'hsl) (by simp [hsl]) e (by simpa using he) hb
        have hlt' : e.on < l.length := Nat.lt_trans hlt hsl
        rw [← getb _ hlt']
        cases hg : listed.getD e.on true with
        | true => rfl
        | false => have := (hmem e.on hlt').1 hg; omega
      rw [hnil] at hkr
      cases hkr
    · obtain ⟨hj1, oj, hoj, hjall⟩ := mem_ready.1 hj
      have hjl : j < l.length := by simpa using (Array.getElem?_eq_some_iff.1 hoj).1
      have hoj' : l[j]? = some oj := by simpa using hoj
      have hjs := (hmem j hjl).1 hj1
      have hdep : ∀ e ∈ oj.after.toList, Region.binds .any e = true → listed.getD e.on false = true := fun e he hb => hjall e (by simpa using he) hb
      have hje : j = s := by
        rcases Nat.lt_or_ge s j with hlt | hge
        · exfalso
          have hb := hlast s j (l[s]'hsl) oj hlt (by omega) (by simp [hsl]) hoj'
          have := anc_sound (ops := l.toArray) hcl l #[] (by simp) (by simp) (fun k _ hk => ⟨l[k]'(by simpa using hk), by simp at hk; simp [hk]⟩) (by simp) j oj hoj (by simpa using hjl) hdep s hb
          have h2 := (hmem s hsl).2 (Nat.le_refl _)
          rw [getb s hsl, this] at h2
          cases h2
        · omega
      subst hje
      rw [List.range'_succ] at hm
      obtain ⟨o, ho, hm⟩ := hm
      rw [hoj] at ho; cases ho
      have hmem' : ∀ i, i < l.length → ((listed.setIfInBounds j true).getD i true = false ↔ j + 1 ≤ i) := fun i hi => by
        by_cases hij : j = i
        · subst hij
          have hset : (listed.setIfInBounds j true).getD j true = true := by
            rw [Array.getD_eq_getD_getElem?, Array.getElem?_setIfInBounds_self_of_lt (by omega)]; rfl
          rw [hset]; simp
        · rw [getD_set_ne true hij, hmem i hi]; omega
      have hcl' : Closed l.toArray (fun i => (listed.setIfInBounds j true).getD i false) := fun k o hk hl e he hb => by
        by_cases hkj : j = k
        · subst hkj
          rw [hoj] at hk; cases hk
          exact getD_set_true (hdep e he hb)
        · have hl' : listed.getD k false = true := by
            have := getD_set_ne (listed := listed) false hkj
            simp only [this] at hl
            exact hl
          exact getD_set_true (hcl k o hk hl' e he hb)
      have next : ∀ a' w', D w' → Mix P l.toArray D (fun _ => true) (fun a w => Q .normal a w) (List.range' (j + 1) m) a' w' → wpAny P .any l.toArray Q m (listed.setIfInBounds j true) a' w' := fun a' w' hD' hm' =>
        ih (j + 1) (listed.setIfInBounds j true) a' w' (by omega) (by omega) hmem' (by simpa using hsz) hcl' hD' hm'
      unfold wpOp
      simp only [hoj]
      rcases hm with ⟨v, hv, k⟩ | ⟨-, hW, k⟩
      · rcases hv with ⟨hW, hr⟩ | ⟨hW, rfl⟩
        · rw [if_pos (show Region.wanted _ _ = true from hW)]
          refine .inl ?_
          unfold Oper.wp
          rw [hr w hD]
          exact next _ _ hD k
        · rw [if_neg (by unfold Wanted at hW; rw [hW]; exact Bool.false_ne_true)]
          exact next _ _ hD k
      · rw [if_pos (show Region.wanted _ _ = true from hW)]
        exact .inl (wp_of_Eff (fun v w' hk => next _ _ hk.1 hk.2) k)

theorem any_of_mixT {D : World → Prop} {l : List Oper} {t : Nat} {Q : Exit → Act → World → Prop} (h : regionOkT l E t = true) (ht : t ≤ l.length) : ∀ (m : Nat) (L : List Nat) (listed : Array Bool) (a : Act) (w : World),
    L.length = m → L.Pairwise (· < ·) → (∀ i, i ∈ L ↔ i < t ∧ listed.getD i true = false) → (∀ i, i < l.length → ¬ i < t → listed.getD i true = false) → listed.size = l.length →
    Closed l.toArray (fun i => listed.getD i false) → C w → Mix P l.toArray C E (fun a w => D w ∧ Mix P l.toArray D (fun _ => true) (fun a w => Q .normal a w) (List.range' t (l.length - t)) a w) L a w →
    wpAny P .any l.toArray Q (m + (l.length - t)) listed a w := by
  obtain ⟨hs, hback, -, hpair, hlast⟩ := regionOkT_spec h
  intro m
  induction m with
  | zero =>
    intro L listed a w hlen hsort hmem htl hsz hcl hC hm
    have hL : L = [] := List.length_eq_zero_iff.1 hlen
    subst hL
    rw [Nat.zero_add]
    refine any_of_last h (l.length - t) t listed a w (by omega) (Nat.le_refl _) (fun i hi => ⟨fun hf => ?_, fun hge => htl i hi (by omega)⟩) hsz hcl hm.1 hm.2
    rcases Nat.lt_or_ge i t with hlt | hge
    · have := (hmem i).2 ⟨hlt, hf⟩
      cases this
    · exact hge
  | succ m ih =>
    intro L listed a w hlen hsort hmem htl hsz hcl hC hm
    have getb : ∀ i, i < l.length → listed.getD i true = listed.getD i false := fun i hi => by
      rw [Array.getD_eq_getD_getElem?, Array.getD_eq_getD_getElem?, Array.getElem?_eq_getElem (by omega)]; rfl
    rw [show m + 1 + (l.length - t) = (m + (l.length - t)) + 1 by omega]
    cases L with
    | nil => simp at hlen
    | cons k0 L0 =>
    have hk0 := (hmem k0).1 (by simp)
    refine ⟨fun hnil => ?_, fun j hj => ?_⟩
    · exfalso
      have hkl : k0 < l.length := by omega
      have hkr : k0 ∈ Region.ready .any l.toArray listed := by
        refine mem_ready.2 ⟨hk0.2, l[k0]'hkl, by simp [hkl], fun e he hb => ?_⟩
        have hlt := hback k0 (l[k0]'hkl) (by simp [hkl]) e (by simpa using he) hb
        have hlt' : e.on < l.length := Nat.lt_trans hlt hkl
        rw [← getb _ hlt']
        cases hg : listed.getD e.on true with
        | true => rfl
        | false =>
          have hin := (hmem e.on).2 ⟨by omega, hg⟩
          rcases List.mem_cons.1 hin with heq | hin'
          · omega
          · have := (List.pairwise_cons.1 hsort).1 _ hin'
            omega
      rw [hnil] at hkr
      cases hkr
    · obtain ⟨hj1, oj, hoj, hjall⟩ := mem_ready.1 hj
      have hjl : j < l.length := by simpa using (Array.getElem?_eq_some_iff.1 hoj).1
      have hoj' : l[j]? = some oj := by simpa using hoj
      have hdep : ∀ e ∈ oj.after.toList, Region.binds .any e = true → listed.getD e.on false = true := fun e he hb => hjall e (by simpa using he) hb
      have hanc : ∀ i, ((ancGo l #[]).getD j 0).testBit i = true → listed.getD i false = true := fun i hb =>
        anc_sound (ops := l.toArray) hcl l #[] (by simp) (by simp) (fun k _ hk => ⟨l[k]'(by simpa using hk), by simp at hk; simp [hk]⟩) (by simp) j oj hoj (by simpa using hjl) hdep i hb
      have hjt : j < t := by
        rcases Nat.lt_or_ge j t with hlt | hge
        · exact hlt
        · exfalso
          have hkl : k0 < l.length := by omega
          have hb := hanc k0 (hlast k0 j (l[k0]'hkl) oj (by omega) (by omega) (by simp [hkl]) hoj')
          have := hk0.2
          rw [getb k0 hkl, hb] at this
          cases this
      have hjL : j ∈ k0 :: L0 := (hmem j).2 ⟨hjt, hj1⟩
      obtain ⟨pre, post, hL⟩ := List.append_of_mem hjL
      rw [hL] at hm hsort hmem hlen
      have hpre : ∀ i ∈ pre, i < j := fun i hi => by
        have := List.pairwise_append.1 hsort
        exact this.2.2 i hi j (by simp)
      have hap : ∀ i ∈ pre, (∀ oi, l.toArray[i]? = some oi → oi.apart l.toArray oj = true) ∧ ¬ (E i = true ∧ E j = true) := fun i hi => by
        have hi1 := (hmem i).1 (by simp [hi])
        have hil : i < l.length := by omega
        have hif : listed.getD i false = false := by rw [← getb i hil]; exact hi1.2
        refine ⟨fun oi hoi => ?_, fun ⟨e1, e2⟩ => ?_⟩
        · obtain ⟨hor, -⟩ := hpair i j oi oj (hpre i hi) hjt (by simpa using hoi) hoj'
          rcases hor with ⟨e, he, hb, heq⟩ | hap
          · have := hdep e he hb
            rw [heq, hif] at this
            cases this
          · exact hap
        · obtain ⟨-, hch⟩ := hpair i j (l[i]'hil) oj (hpre i hi) hjt (by simp [hil]) hoj'
          have := hanc i (hch e1 e2)
          rw [hif] at this
          cases this
      have hmem' : ∀ i, i ∈ pre ++ post ↔ i < t ∧ (listed.setIfInBounds j true).getD i true = false := fun i => by
        have hnd : i ∈ pre ++ post ↔ i ∈ pre ++ j :: post ∧ i ≠ j := by
          have hq := List.pairwise_append.1 hsort
          have hq2 := List.pairwise_cons.1 hq.2.1
          constructor
          · intro hi
            refine ⟨by rcases List.mem_append.1 hi with hi | hi <;> simp [hi], fun heq => ?_⟩
            subst heq
            rcases List.mem_append.1 hi with hi | hi
            · exact Nat.lt_irrefl _ (hpre _ hi)
            · exact Nat.lt_irrefl _ (hq2.1 _ hi)
          · rintro ⟨hi, hne⟩
            rcases List.mem_append.1 hi with hi | hi
            · simp [hi]
            · rcases List.mem_cons.1 hi with hi | hi
              · exact absurd hi hne
              · simp [hi]
        rw [hnd, hmem i]
        by_cases hij : j = i
        · subst hij
          have hset : (listed.setIfInBounds j true).getD j true = true := by
            rw [Array.getD_eq_getD_getElem?, Array.getElem?_setIfInBounds_self_of_lt (by omega)]; rfl
          rw [hset]
          simp
        · rw [getD_set_ne true hij]
          constructor
          · rintro ⟨⟨h1, h2⟩, -⟩; exact ⟨h1, h2⟩
          · rintro ⟨h1, h2⟩; exact ⟨⟨h1, h2⟩, fun e => hij e.symm⟩
      have htl' : ∀ i, i < l.length → ¬ i < t → (listed.setIfInBounds j true).getD i true = false := fun i hi hit => by
        rw [getD_set_ne true (by omega)]; exact htl i hi hit
      have hcl' : Closed l.toArray (fun i => (listed.setIfInBounds j true).getD i false) := fun k o hk hl e he hb => by
        by_cases hkj : j = k
        · subst hkj
          rw [hoj] at hk; cases hk
          exact getD_set_true (hdep e he hb)
        · have hl' : listed.getD k false = true := by
            have := getD_set_ne (listed := listed) false hkj
            simp only [this] at hl
            exact hl
          exact getD_set_true (hcl k o hk hl' e he hb)
      have hlen' : (pre ++ post).length = m := by simp at hlen ⊢; omega
      have hsort' : (pre ++ post).Pairwise (· < ·) := by
        refine hsort.sublist ?_
        exact List.Sublist.append_left (List.sublist_cons_self _ _) _
      have next : ∀ a' w', C w' → Mix P l.toArray C E (fun a w => D w ∧ Mix P l.toArray D (fun _ => true) (fun a w => Q .normal a w) (List.range' t (l.length - t)) a w) (pre ++ post) a' w' → wpAny P .any l.toArray Q (m + (l.length - t)) (listed.setIfInBounds j true) a' w' := fun a' w' hC' hm' =>
        ih (pre ++ post) (listed.setIfInBounds j true) a' w' hlen' hsort' hmem' htl' (by simpa using hsz) hcl' hC' hm'
      unfold wpOp
      simp only [hoj]
      rcases pull hs hoj post pre a w hC hap hm with ⟨v, hv, k⟩ | ⟨-, hW, k⟩
      · rcases hv with ⟨hW, hr⟩ | ⟨hW, rfl⟩
        · rw [if_pos (show Region.wanted _ _ = true from hW)]
          refine .inl ?_
          unfold Oper.wp
          rw [hr w hC]
          exact next _ _ hC k
        · rw [if_neg (by unfold Wanted at hW; rw [hW]; exact Bool.false_ne_true)]
          exact next _ _ hC k
      · rw [if_pos (show Region.wanted _ _ = true from hW)]
        exact .inl (wp_of_Eff (fun v w' hk => next _ _ hk.1 hk.2) k)

theorem region_drawnT {D : World → Prop} {id t : Nat} {l : List Oper} {Q : Exit → Act → World → Prop} {a : Act} {w : World} (hm : P.follows .mixedOrders = true) (hok : regionOkT l E t = true) (ht : t ≤ l.length)
    (hC : C { w with drawn := w.drawn + 1 }) (h : Mix P l.toArray C E (fun a w => D w ∧ Mix P l.toArray D (fun _ => true) (fun a w => Q .normal a w) (List.range' t (l.length - t)) a w) (List.range t) a { w with drawn := w.drawn + 1 }) :
    (Code.region id l.toArray true).wp P Q a w := by
  refine wp_region_any hm ?_
  have := any_of_mixT (P := P) (C := C) (Q := Q) hok ht t (List.range t) (Array.replicate l.length false) a { w with drawn := w.drawn + 1 } (by simp) List.pairwise_lt_range
    (fun i => by
      rw [List.mem_range]
      constructor
      · intro hi
        refine ⟨hi, ?_⟩
        rw [Array.getD_eq_getD_getElem?, Array.getElem?_eq_getElem (by simp; omega)]
        simp
      · exact fun hi => hi.1)
    (fun i hi _ => by rw [Array.getD_eq_getD_getElem?, Array.getElem?_eq_getElem (by simpa using hi)]; simp)
    (by simp) (fun k o _ hk e _ _ => by
      exfalso
      by_cases hlt : k < l.length
      · simp [Array.getD_eq_getD_getElem?, hlt] at hk
      · simp [Array.getD_eq_getD_getElem?, hlt] at hk) hC h
  rw [show t + (l.length - t) = l.length by omega] at this
  simpa using this
end tail

section take
variable {P : Program} {C : World → Prop} {E : Nat → Bool}
theorem wanted_take {l : List Oper} {t : Nat} {o : Oper} {a : Act} (hg : ∀ g, o.guard = some g → g.1 < t) : Wanted (l.take t).toArray o a = Wanted l.toArray o a := by
  unfold Wanted Region.wanted
  cases ho : o.guard with
  | none => rfl
  | some g =>
    have := hg g ho
    simp only [yielded]
    have e : (l.take t).toArray[g.1]? = l.toArray[g.1]? := by simp [this]
    rw [e]
theorem mix_take {l : List Oper} {t : Nat} {Q : Act → World → Prop} (hg : ∀ (j : Nat) (oj : Oper) (g : Nat × Bool), l[j]? = some oj → oj.guard = some g → g.1 < j) : ∀ (L : List Nat) (a : Act) (w : World), (∀ i ∈ L, i < t) →
    Mix P (l.take t).toArray C E Q L a w → Mix P l.toArray C E Q L a w
  | [], a, w, _, h => h
  | i :: L, a, w, hL, ⟨o, ho, h⟩ => by
    have hi := hL i (by simp)
    have ho' : l[i]? = some o := by simpa [List.getElem?_take, hi] using ho
    have hw : Wanted (l.take t).toArray o a = Wanted l.toArray o a := wanted_take fun g hgo => Nat.lt_trans (hg i o g ho' hgo) hi
    refine ⟨o, by simpa using ho', ?_⟩
    rcases h with ⟨v, hv, k⟩ | ⟨h1, h2, k⟩
    · refine .inl ⟨v, ?_, mix_take hg L _ _ (fun j hj => hL j (by simp [hj])) k⟩
      unfold Stab at hv ⊢
      rwa [hw] at hv
    · exact .inr ⟨h1, by rw [← hw]; exact h2, Eff_mono (fun v w' hk => ⟨hk.1, mix_take hg L _ _ (fun j hj => hL j (by simp [hj])) hk.2⟩) k⟩
end take

/-- Behind the head of a region: its last operations, in the text's order. -/
def TailQ (P : Program) (n : Nat) (ops : List Oper) (t : Nat) (Q : Post) : Post
  | .normal, l, h => S P n ops (fun _ => True) (fun _ => true) Q t l h
  | e, l, h => Q e l h
theorem tail_end {P : Program} {n : Nat} {ops : List Oper} {t : Nat} {Q : Post} {l : Fr} {h : Hp} (k : S P n ops (fun _ => True) (fun _ => true) Q t l h) : At (TailQ P n ops t Q) .normal l h := ⟨k⟩


section rules
variable {P : Program} {n : Nat} {Q : Post} {l : Fr} {h : Hp}
theorem mix_monoQ {ops : Array Oper} {C : World → Prop} {E : Nat → Bool} {Q Q' : Act → World → Prop} (hQ : ∀ a w, Q a w → Q' a w) (L : List Nat) (a : Act) (w : World) (k : Mix P ops C E Q L a w) : Mix P ops C E Q' L a w := mix_mono hQ L a w k
/-- A drawn region: its operations ahead of the number t in the text's order, in a class of heaps; then the last ones. -/
theorem r_drawnT {c : Code} (t : Nat) (Ch : Hp → Prop) (hc : tagOf c = .region true) (hm : P.follows .mixedOrders = true) (hok : regionOkT (opsOf c) (effB (opsOf c)) t = true) (ht : Nat.ble t (opsOf c).length = true) (hC : Ch h)
    (k : S P n ((opsOf c).take t) Ch (effB (opsOf c)) (TailQ P n (opsOf c) t Q) 0 l h) : W P n c Q l h := W.mk fun a w hf hw => by
  cases c <;> cases hc
  rename_i id ops
  have ht' : t ≤ ops.toList.length := Nat.le_of_ble_eq_true ht
  obtain ⟨-, -, hg, -, -⟩ := regionOkT_spec hok
  have key : ∀ w0 : World, w0.heap = w.heap → Oth w w0 → Mix P ops.toList.toArray (fun w' => Oth w w' ∧ Ch w'.heap) (effB ops.toList) (fun a w' => (Oth w w' ∧ True) ∧ Mix P ops.toList.toArray (fun w' => Oth w w' ∧ True) (fun _ => true) (fun a w2 => lift n Q w .normal a w2) (List.range' t (ops.toList.length - t)) a w') (List.range t) a w0 := fun w0 hw0 ho => by
    have h1 := k.run a w0 w hf (by rw [hw0]; exact hw) ho
    have hlen : ((opsOf (Code.region id ops true)).take t).length = t := by
      show (ops.toList.take t).length = t
      rw [List.length_take]; omega
    rw [Nat.sub_zero, hlen, ← List.range_eq_range'] at h1
    have h2 := mix_take (P := P) (E := effB ops.toList) (l := ops.toList) (t := t) hg (List.range t) a w0 (fun i hi => List.mem_range.1 hi) h1
    refine mix_mono (fun a' w' hq => ?_) _ _ _ h2
    obtain ⟨l', g1, g2, g3⟩ := hq
    refine ⟨⟨g3, trivial⟩, ?_⟩
    have h3 := g2.run a' w' w g1 rfl g3
    have e : opsOf (Code.region id ops true) = ops.toList := rfl
    rw [e] at h3
    exact h3
  have := region_drawnT (P := P) (id := id) (l := ops.toList) (E := effB ops.toList) (Q := lift n Q w) (C := fun w' => Oth w w' ∧ Ch w'.heap) (D := fun w' => Oth w w' ∧ True) hm hok ht' (a := a) (w := w) ⟨⟨rfl, rfl, rfl⟩, by rw [← hw] at hC; exact hC⟩ (key { w with drawn := w.drawn + 1 } rfl ⟨rfl, rfl, rfl⟩)
  simpa using this
end rules
end Go.Den

/- Package crt: a number out of two residues (what the fixed call asks). Condition of what tests primes: the table of math/bits reads as it is laid. -/
namespace Go.Proofs.YtbhhagdnbkkjpaaDoor
set_option linter.unusedVariables false
set_option maxRecDepth 8000
open Go Go.Den Go.RowKit Go.Dig

theorem fin0 {P : Program} {n : Nat} {fn : Func} {R : Value → Hp → Prop} {l : Fr} {h : Hp} (hr : fn.results = #[]) (k : R (.tuple #[]) h) : At (Den.Fin P n fn R) .normal l h :=
  ⟨⟨.tuple #[], fun a w hf _ => by simp [results, hr], k⟩⟩

def timesN (V P r q back : Nat) : Nat := mulm (subm r (V % q) q) back q

theorem inv15 {back : Nat} {ok : Bool} (h : InvIs (1 % 5) 5 back ok) : back = 1 := by
  cases ok with
  | false => rcases (h.2 rfl).1 with h | h
             · omega
             · exact absurd (by decide) h
  | true => have := (h.1 rfl).2.2; omega
theorem inv57 {back : Nat} {ok : Bool} (h : InvIs (5 % 7) 7 back ok) : back = 3 := by
  cases ok with
  | false => rcases (h.2 rfl).1 with h | h
             · omega
             · exact absurd (by decide) h
  | true => have := (h.1 rfl).2.2; omega

def stV : Nat → Nat
  | 0 => 0
  | 1 => 2
  | _ => 17
def stP : Nat → Nat
  | 0 => 1
  | 1 => 5
  | _ => 35

end Go.Proofs.YtbhhagdnbkkjpaaDoor

/- Package crt: the fixed calls, and the law of sums and products. Condition: the table of math/bits reads as it is laid. -/
namespace Go.Proofs.YtbhhagdnbkkjpaaDoor
set_option linter.unusedVariables false
set_option maxRecDepth 8000
open Go Go.Den Go.RowKit Go.Dig

theorem right57 : rightP [5, 7] := by decide +kernel

theorem lift_add (x y : Int) (q : Nat) : liftm (x + y) q = addm (liftm x q) (liftm y q) q := by
  unfold liftm addm
  split
  · rfl
  · rename_i h
    have hx := Int.emod_nonneg x (b := (q : Int)) (by omega)
    have hy := Int.emod_nonneg y (b := (q : Int)) (by omega)
    have e : ((x + y) % (q : Int)) = (((x % (q : Int)).toNat + (y % (q : Int)).toNat) % q : Nat) := by
      rw [Int.natCast_emod, Int.natCast_add, Int.toNat_of_nonneg hx, Int.toNat_of_nonneg hy, ← Int.add_emod]
    rw [e, Int.toNat_natCast]
theorem lift_mul (x y : Int) (q : Nat) : liftm (x * y) q = mulm (liftm x q) (liftm y q) q := by
  unfold liftm mulm
  split
  · rfl
  · rename_i h
    have hx := Int.emod_nonneg x (b := (q : Int)) (by omega)
    have hy := Int.emod_nonneg y (b := (q : Int)) (by omega)
    have e : ((x * y) % (q : Int)) = (((x % (q : Int)).toNat * (y % (q : Int)).toNat) % q : Nat) := by
      rw [Int.natCast_emod, Int.natCast_mul, Int.toNat_of_nonneg hx, Int.toNat_of_nonneg hy, ← Int.mul_emod]
    rw [e, Int.toNat_natCast]
theorem iv_of (z : Int) : IV (decide (z < 0)) z.natAbs = z := by
  unfold IV
  by_cases h : z < 0
  · simp [h]; omega
  · simp [h]; omega
theorem iv_natAbs (n : Bool) (X : Nat) : (IV n X).natAbs = X := (iv_abs n X).1
theorem lift_lt64 {z : Int} {q : Nat} (hq : q < 18446744073709551616) : liftm z q < 18446744073709551616 := by
  unfold liftm
  split
  · omega
  · have := Int.emod_lt_of_pos z (b := (q : Int)) (by omega)
    have := Int.emod_nonneg z (b := (q : Int)) (by omega)
    omega

end Go.Proofs.YtbhhagdnbkkjpaaDoor

/- Package param: rows, sizes, and which parameters may be. Condition of what tests primes: the table of math/bits reads as it is laid. -/
namespace Go.Proofs.YtbhhagdnbkkjpaaDoor
set_option linter.unusedVariables false
set_option maxRecDepth 8000
open Go Go.Den Go.RowKit Go.Dig

/-- Parameters as they lie. -/
structure ParD where mk ::
  n : Int
  t : Nat
  vq : Value
  q : List Nat
  w : Int
abbrev ParD.cells (p : ParD) : List Value := [I p.n, U p.t, p.vq, I p.w]
structure ParAt (h : Hp) (p : ParD) : Prop where mk ::
  row : SlF h U p.vq p.q
  al : Al 18446744073709551616 p.q
  t64 : p.t < 18446744073709551616
  ln : p.q.length ≤ 4611686018427387904
theorem ParAt.ext {h h' : Hp} {p : ParD} (s : ParAt h p) (e : Ext h h') : ParAt h' p := ⟨s.row.ext e, s.al, s.t64, s.ln⟩

def rowP (n : Int) : Prop := n = 8 ∨ n = 16 ∨ n = 32 ∨ n = 64 ∨ n = 128 ∨ n = 256
instance (n : Int) : Decidable (rowP n) := by unfold rowP; exact inferInstance
def rowF (n : Int) : Nat := if rowP n then 420 else if n = 1024 then 27 else if n = 2048 then 54 else if n = 4096 then 109 else 0
theorem and_pow : ∀ n : Nat, n < 257 → 8 ≤ n → (n &&& (n - 1) = 0 ↔ (n = 8 ∨ n = 16 ∨ n = 32 ∨ n = 64 ∨ n = 128 ∨ n = 256)) := by decide +kernel
theorem rowF_pos {n : Int} (h : 0 < rowF n) : 8 ≤ n ∧ n ≤ 4096 := by
  unfold rowF at h
  by_cases h1 : rowP n
  · unfold rowP at h1; omega
  rw [if_neg h1] at h
  by_cases h2 : n = 1024
  · omega
  rw [if_neg h2] at h
  by_cases h3 : n = 2048
  · omega
  rw [if_neg h3] at h
  by_cases h4 : n = 4096
  · omega
  rw [if_neg h4] at h
  omega

def sizedP (p : ParD) : Prop := 0 < rowF p.n ∧ 1 ≤ p.w ∧ p.w ≤ 16
instance (p : ParD) : Decidable (sizedP p) := by unfold sizedP; exact inferInstance
def frP (n : Int) (q : Nat) : Prop := q % (2 * n.toNat) = 1 ∧ isB q = true
instance (n : Int) (q : Nat) : Decidable (frP n q) := by unfold frP; exact inferInstance
def plainP (p : ParD) : Prop := p.t < 1073741824 ∧ frP p.n p.t
instance (p : ParD) : Decidable (plainP p) := by unfold plainP; exact inferInstance
def primesP (p : ParD) : Prop := (∀ q ∈ p.q, q < 1125899906842624 ∧ q ≠ p.t ∧ frP p.n q) ∧ p.q.Nodup ∧ 0 < p.q.length ∧ p.q.length ≤ 8
instance (p : ParD) : Decidable (primesP p) := by unfold primesP; exact inferInstance
def shortP (p : ParD) : Prop := nb (prodL p.q) ≤ rowF p.n
instance (p : ParD) : Decidable (shortP p) := by unfold shortP; exact inferInstance
def parP (p : ParD) : Prop := sizedP p ∧ plainP p ∧ primesP p ∧ shortP p
instance (p : ParD) : Decidable (parP p) := by unfold parP; exact inferInstance

end Go.Proofs.YtbhhagdnbkkjpaaDoor

/- Package param: the check, levels and steps. Condition of what tests primes: the table of math/bits reads as it is laid. -/
namespace Go.Proofs.YtbhhagdnbkkjpaaDoor
set_option linter.unusedVariables false
set_option maxRecDepth 8000
open Go Go.Den Go.RowKit Go.Dig

def askP (p : ParD) : Nat → Prop
  | 0 => sizedP p
  | 1 => plainP p
  | 2 => primesP p
  | _ => shortP p
theorem parP_of {p : ParD} (h : ∀ j, j < 4 → askP p j) : parP p := ⟨h 0 (by decide), h 1 (by decide), h 2 (by decide), h 3 (by decide)⟩

/-- What a level's modulus is refused by, or 0. -/
def levE (p : ParD) (l : Int) : Nat := if parP p then (if l < 0 ∨ (p.q.length : Int) ≤ l then 10 else 0) else 8
def levM (p : ParD) (l : Int) : Nat := prodL (p.q.take (l.toNat + 1))
theorem al_take {b : Nat} {xs : List Nat} (h : Al b xs) (n : Nat) : Al b (xs.take n) := fun x hx => h x (List.mem_of_mem_take hx)

end Go.Proofs.YtbhhagdnbkkjpaaDoor

/- Package param: the fixed calls, and the laws of steps and rows. Condition: the table of math/bits reads as it is laid. -/
namespace Go.Proofs.YtbhhagdnbkkjpaaDoor
set_option linter.unusedVariables false
set_option maxRecDepth 8000
open Go Go.Den Go.RowKit Go.Dig

/-- Parameters whose row may be as long as any. -/
structure ParA0 (h : Hp) (p : ParD) : Prop where mk ::
  row : SlF h U p.vq p.q
  al : Al 18446744073709551616 p.q
  t64 : p.t < 18446744073709551616
  ln : p.q.length < 9223372036854775808

theorem par97 (w : Value) : parP ⟨8, 17, w, [97, 193], 2⟩ := (by decide +kernel : parP ⟨8, 17, .bool false, [97, 193], 2⟩)
theorem par0 (w : Value) : ¬ parP ⟨0, 0, w, [], 0⟩ := (by decide +kernel : ¬ parP ⟨0, 0, .bool false, [], 0⟩)
theorem lev97 (w : Value) : levE ⟨8, 17, w, [97, 193], 2⟩ 1 = 0 := by unfold levE; rw [if_pos (par97 w)]; rfl
theorem levM97 (w : Value) : levM ⟨8, 17, w, [97, 193], 2⟩ 1 = 18721 := rfl

theorem levE_par {p : ParD} {l : Int} (h : levE p l = 0) : parP p ∧ 0 ≤ l ∧ l < p.q.length := by
  unfold levE at h
  by_cases hp : parP p
  · rw [if_pos hp] at h
    by_cases hl : l < 0 ∨ (p.q.length : Int) ≤ l
    · rw [if_pos hl] at h; omega
    · exact ⟨hp, by omega, by omega⟩
  · rw [if_neg hp] at h; omega
theorem par_t {p : ParD} (hp : parP p) : 0 < p.t := by
  have := hp.2.1.2.1
  by_cases e : p.t = 0
  · rw [e, Nat.zero_mod] at this; omega
  · omega
theorem levM_len {p : ParD} {l : Int} (hp : parP p) (A : Al 18446744073709551616 p.q) : (dg 18446744073709551616 (levM p l)).length ≤ 9 := by
  have h1 := dg_len (b := 18446744073709551616) (n := levM p l) (k := (p.q.take (l.toNat + 1)).length + 1) (by decide) (prodL_lt (al_take A _))
  have h2 := hp.2.2.1.2.2.2
  rw [List.length_take] at h1
  omega

theorem levE_top {p : ParD} (hp : parP p) {m : Nat} (hm : m < p.q.length) : levE p (m : Int) = 0 := by
  unfold levE
  rw [if_pos hp, if_neg (by omega)]
theorem levM_all {p : ParD} {m : Nat} (hm : m + 1 = p.q.length) : levM p (m : Int) = prodL p.q := by
  unfold levM
  rw [Int.toNat_natCast, hm, List.take_length]
theorem levM_step {p : ParD} {m q : Nat} (hq : p.q[m + 1]? = some q) : levM p ((m + 1 : Nat) : Int) = levM p (m : Int) * q := by
  unfold levM
  rw [Int.toNat_natCast, Int.toNat_natCast, take_snoc hq, prodL_snoc]

end Go.Proofs.YtbhhagdnbkkjpaaDoor

/- Package param: parameters compared, and the law of it. Condition of the fixed calls: the table of math/bits reads as it is laid. -/
namespace Go.Proofs.YtbhhagdnbkkjpaaDoor
set_option linter.unusedVariables false
set_option maxRecDepth 8000
open Go Go.Den Go.RowKit Go.Dig

/-- What the closure 'rest' makes of parameters. -/
def restL (p : ParD) : List Int := [p.n, IntKind.i64.wrap p.t, p.w]
def sameP (a b : ParD) : Prop := a.n = b.n ∧ a.t = b.t ∧ a.w = b.w ∧ a.q = b.q
instance (a b : ParD) : Decidable (sameP a b) := by unfold sameP; exact inferInstance
theorem wrap_inj {a b : Nat} (ha : a < 18446744073709551616) (hb : b < 18446744073709551616) (h : IntKind.i64.wrap a = IntKind.i64.wrap b) : a = b := by
  rw [IntKind.wrap_i64, IntKind.wrap_i64] at h
  omega
theorem restL_eq {a b : ParD} (ha : a.t < 18446744073709551616) (hb : b.t < 18446744073709551616) : restL a = restL b ↔ (a.n = b.n ∧ a.t = b.t ∧ a.w = b.w) := by
  unfold restL
  constructor
  · intro h
    simp only [List.cons.injEq, and_true] at h
    exact ⟨h.1, wrap_inj ha hb h.2.1, h.2.2⟩
  · rintro ⟨h1, h2, h3⟩
    rw [h1, h2, h3]

theorem sameP_comm (a b : ParD) : decide (sameP b a) = decide (sameP a b) := by
  rw [decide_eq_decide]
  unfold sameP
  constructor <;> rintro ⟨h1, h2, h3, h4⟩ <;> exact ⟨h1.symm, h2.symm, h3.symm, h4.symm⟩
theorem ParA0.ext {h h' : Hp} {p : ParD} (s : ParA0 h p) (e : Ext h h') : ParA0 h' p := ⟨s.row.ext e, s.al, s.t64, s.ln⟩

end Go.Proofs.YtbhhagdnbkkjpaaDoor

/- Package ntt: no table at all; the fixed calls; the law NttNil. Condition: the table of math/bits reads as it is laid. -/
namespace Go.Proofs.YtbhhagdnbkkjpaaDoor
set_option linter.unusedVariables false
set_option maxRecDepth 8000
open Go Go.Den Go.RowKit Go.Mth

theorem dft_inj {t : Tbl} (K : TblOk t) {xs ys : List Nat} (hx : Fit (2 ^ t.L) t.q xs) (hy : Fit (2 ^ t.L) t.q ys) (h : ∀ k, k < 2 ^ t.L → Cg t.q (dft (2 ^ t.L) t.w (gt xs) k) (dft (2 ^ t.L) t.w (gt ys) k)) : xs = ys :=
  lists_cg (by rw [hx.1, hy.1]) hx.2 hy.2 fun p hp => by
    have hp' : p < 2 ^ t.L := by rw [← hx.1]; exact hp
    have h1 := idft_dft K.cw K.cuw K.cp (gt xs) hp'
    have h2 := idft_dft K.cw K.cuw K.cp (gt ys) hp'
    exact h1.symm.trans ((idft_cg (fun j hj => h j hj) p).trans h2)
theorem val_eq {t : Tbl} {xs ys zs : List Nat} (h : Val t xs ys) (hz : Fit (2 ^ t.L) t.q zs) (e : ∀ k, k < 2 ^ t.L → Cg t.q (gt zs k) (dft (2 ^ t.L) t.w (gt xs) k)) : ys = zs :=
  lists_cg (by rw [h.1.1, hz.1]) h.1.2 hz.2 fun p hp => (h.2 p (by rw [← h.1.1]; exact hp)).trans (e p (by rw [← h.1.1]; exact hp)).symm
theorem prd_eq {t : Tbl} (K : TblOk t) {xs ys rs zs : List Nat} (h : Prd t xs ys rs) (hz : Fit (2 ^ t.L) t.q zs) (e : ∀ k, k < 2 ^ t.L → Cg t.q (dft (2 ^ t.L) t.w (gt zs) k) (dft (2 ^ t.L) t.w (gt xs) k * dft (2 ^ t.L) t.w (gt ys) k)) : rs = zs :=
  dft_inj K h.1 hz fun k hk => (h.2 k hk).trans (e k hk).symm

theorem root5 {r : Nat} (h : RootR 5 4 r) : r = 2 := by
  obtain ⟨hr, w, hw, hp, ⟨j, hj, rfl⟩, hall⟩ := h
  have h0 := hall 0 (by decide)
  have h1 := hall 1 (by decide)
  have key : ∀ w, w < 5 → powm w (4 / 2) 5 = 5 - 1 → ∀ j, j < 4 / 2 → w ^ (2 * j + 1) % 5 ≤ w ^ (2 * 0 + 1) % 5 → w ^ (2 * j + 1) % 5 ≤ w ^ (2 * 1 + 1) % 5 → w ^ (2 * j + 1) % 5 = 2 := by decide
  exact key w hw hp j hj h0 h1
theorem isB5 : isB 5 = true := by decide +kernel
theorem cgd {q : Nat} {a b : Int} (h : (a - b) % (q : Int) = 0) : Cg q a b := ⟨(a - b) / q, by have := Int.emod_add_mul_ediv (a - b) q; omega⟩

end Go.Proofs.YtbhhagdnbkkjpaaDoor

/- Plain facts for the laws of package ntt: fast powers, the three primes. No condition. -/
namespace Go.Proofs.YtbhhagdnbkkjpaaDoor
set_option linter.unusedVariables false
set_option maxRecDepth 8000
open Go Go.Den Go.RowKit Go.Mth

def fp (m : Nat) : Nat → Nat → Nat → Nat
  | 0, _, _ => 1 % m
  | f + 1, a, n => if n = 0 then 1 % m else if n % 2 = 1 then a * fp m f (a * a % m) (n / 2) % m else fp m f (a * a % m) (n / 2)
theorem fp_eq (m : Nat) : ∀ f a n, n < 2 ^ f → fp m f a n = a ^ n % m
  | 0, a, n, h => by
    obtain rfl : n = 0 := by rw [Nat.pow_zero] at h; omega
    rfl
  | f + 1, a, n, h => by
    unfold fp
    by_cases h0 : n = 0
    · rw [if_pos h0, h0, Nat.pow_zero]
    rw [if_neg h0, fp_eq m f _ _ (by rw [Nat.pow_succ] at h; omega)]
    have e : (a * a % m) ^ (n / 2) % m = a ^ (2 * (n / 2)) % m := by rw [← Nat.pow_mod, Nat.pow_mul, Nat.pow_two]
    rw [e]
    by_cases h1 : n % 2 = 1
    · rw [if_pos h1, Nat.mul_mod_mod, ← Nat.pow_succ', show (2 * (n / 2)).succ = n by omega]
    · rw [if_neg h1, show 2 * (n / 2) = n by omega]
theorem powm_fp {a n m : Nat} (hn : n < 18446744073709551616) (hm : m ≠ 0) : powm a n m = fp m 64 a n := by
  unfold powm; rw [if_neg hm, fp_eq m 64 a n hn]

def holdsF (n d s a : Nat) : Bool := a % n == 0 || (fp n 64 (a % n) d == 1 || (fp n 64 (a % n) d == n - 1 || holdsLoop n (s - 1) (fp n 64 (a % n) d)))
def isF (n : Nat) : Bool := if n < 4 ∨ n % 2 = 0 then n == 2 || n == 3 else bases.all (holdsF n ((n - 1) / 2 ^ tz (n - 1)) (tz (n - 1)))
theorem isB_fast {n : Nat} (hn : n < 18446744073709551616) (h0 : n ≠ 0) : isB n = isF n := by
  unfold isB isF
  have hd : (n - 1) / 2 ^ tz (n - 1) < 18446744073709551616 := Nat.lt_of_le_of_lt (Nat.div_le_self _ _) (by omega)
  have : holdsB n ((n - 1) / 2 ^ tz (n - 1)) (tz (n - 1)) = holdsF n ((n - 1) / 2 ^ tz (n - 1)) (tz (n - 1)) := by
    funext a
    unfold holdsB holdsF
    rw [powm_fp hd h0]
  rw [this]

def q3 : List Nat := [12289, 40961, 1152921504606830593]
def x3 : List Nat := [11, 3, 5]
theorem is3 : isB 12289 = true ∧ isB 40961 = true ∧ isB 1152921504606830593 = true :=
  ⟨(isB_fast (by decide) (by decide)).trans (by decide +kernel), (isB_fast (by decide) (by decide)).trans (by decide +kernel), (isB_fast (by decide) (by decide)).trans (by decide +kernel)⟩
def facts (r : Nat) (q X : Nat) : Bool := Nat.beq (q % (2 * 2 ^ (r + 1))) 1 && Nat.beq (fp q 64 (fp q 64 X ((q - 1) / 2 ^ (r + 2))) (2 ^ (r + 2) / 2)) (q - 1)
theorem facts9 : ∀ r, r < 9 → facts r (q3.getD (r % 3) 0) (x3.getD (r % 3) 0) = true := by decide +kernel
theorem prime3 {r : Nat} (hr : r < 9) : ∃ q X, q3[r % 3]? = some q ∧ q < 2305843009213693952 ∧ 1 < q ∧ isB q = true ∧ q % (2 * 2 ^ (r + 1)) = 1 ∧ 2 ≤ X ∧ X < 18446744073709551615 ∧ powm (powm X ((q - 1) / 2 ^ (r + 2)) q) (2 ^ (r + 2) / 2) q = q - 1 := by
  have hf := facts9 r hr
  have h2 : (2 : Nat) ^ (r + 2) ≤ 2 ^ 10 := Nat.pow_le_pow_right (by decide) (by omega)
  obtain ⟨q, hq, X, hX, b⟩ : ∃ q, q3[r % 3]? = some q ∧ ∃ X, x3.getD (r % 3) 0 = X ∧ q < 2305843009213693952 ∧ 1 < q ∧ isB q = true ∧ 2 ≤ X ∧ X < 18446744073709551615 := by
    rcases (show r % 3 = 0 ∨ r % 3 = 1 ∨ r % 3 = 2 by omega) with h | h | h <;> rw [h]
    · exact ⟨_, rfl, _, rfl, by decide, by decide, is3.1, by decide, by decide⟩
    · exact ⟨_, rfl, _, rfl, by decide, by decide, is3.2.1, by decide, by decide⟩
    · exact ⟨_, rfl, _, rfl, by decide, by decide, is3.2.2, by decide, by decide⟩
  rw [getD_of hq, hX] at hf
  obtain ⟨b1, b2, b3, b4, b5⟩ := b
  unfold facts at hf
  simp only [Bool.and_eq_true] at hf
  refine ⟨q, X, hq, b1, b2, b3, Nat.eq_of_beq_eq_true hf.1, b4, b5, ?_⟩
  rw [powm_fp (a := X) (by have := Nat.div_le_self (q - 1) (2 ^ (r + 2)); omega) (by omega), powm_fp (by omega) (by omega)]
  exact Nat.eq_of_beq_eq_true hf.2

/-- There and back. -/
theorem val_bck {t : Tbl} (K : TblOk t) {xs ys zs : List Nat} (hx : Fit (2 ^ t.L) t.q xs) (h1 : Val t xs ys) (h2 : Bck t ys zs) : zs = xs :=
  lists_cg (by rw [h2.1.1, hx.1]) h2.1.2 hx.2 fun p hp => by
    have hp' : p < 2 ^ t.L := by rw [← h2.1.1]; exact hp
    exact (h2.2 p hp').trans ((idft_cg (fun j hj => h1.2 j hj) p).trans (idft_dft K.cw K.cuw K.cp (gt xs) hp'))
theorem bck_val {t : Tbl} (K : TblOk t) {xs ys zs : List Nat} (hx : Fit (2 ^ t.L) t.q xs) (h1 : Bck t xs ys) (h2 : Val t ys zs) : zs = xs :=
  lists_cg (by rw [h2.1.1, hx.1]) h2.1.2 hx.2 fun p hp => by
    have hp' : p < 2 ^ t.L := by rw [← h2.1.1]; exact hp
    exact (h2.2 p hp').trans ((dft_cg (fun j hj => h1.2 j hj) p).trans (dft_idft K.cw K.cuw K.cp (gt xs) hp'))

/-- A row cut to n words below q. -/
def cutL (xs : List Nat) (n q : Nat) : List Nat := (List.range n).map fun i => if i < xs.length then xs.getD i 0 % q else 0
theorem cutL_fit (xs : List Nat) {n q : Nat} (hq : 0 < q) : Fit n q (cutL xs n q) := ⟨by unfold cutL; simp, fun x hx => by
  unfold cutL at hx
  obtain ⟨i, -, rfl⟩ := List.mem_map.1 hx
  split
  · exact Nat.mod_lt _ hq
  · exact hq⟩
theorem cutL_get {xs : List Nat} {n q k : Nat} (hk : k < n) : (cutL xs n q)[k]? = some (if k < xs.length then xs.getD k 0 % q else 0) := by
  unfold cutL; rw [List.getElem?_map, List.getElem?_range hk]; rfl
end Go.Proofs.YtbhhagdnbkkjpaaDoor

/- Walking rules: remainders of any kind of number. No condition. -/
namespace Go.Den
set_option linter.unusedVariables false
set_option maxRecDepth 8000
open Go Go.RowKit

section rules
variable {P : Program} {n : Nat} {Q : Post} {l : Fr} {h : Hp} {ops : List Oper} {Ch : Hp → Prop} {E : Nat → Bool} {i d : Nat} {x y : Operand}
theorem s_remU8 {a b : Nat} {t yt : TypeId} (hx : IsK (ev l x) .u8 a) (hy : IsK (ev l y) .u8 b) (hb : Nat.blt d n = true) (hn : 0 < b)
    (q : S P n ops Ch E Q (i + 1) ((d, .int .u8 ((a % b : Nat) : Int)) :: l) h) : O P n ops Ch E Q i d (.binOp .rem t x y yt) l h :=
  s_bin hx.h hy.h hb (fun w' => by
    show (Op.intDiv .rem .u8 (a : Int) (b : Int)).run P w' = _
    unfold Op.intDiv
    rw [if_neg (by omega)]
    show Result.ok (Value.int .u8 ((a : Int).tmod b)) w' = _
    rw [← Int.ofNat_tmod]) q
end rules
end Go.Den
