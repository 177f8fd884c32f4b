/- A drawn region whose last operations wait for all before them: the others in the text's order, then these. No condition. -/
import Derived.Test.YtajgcmgkhmkmbaaDoorDenL
namespace Go.Den
set_option linter.unusedVariables false
set_option maxRecDepth 8000
open Go Go.RowKit

section tail
variable {P : Program} {C : World → Prop} {E : Nat → Bool}

/-- What is asked of a region: as ever ahead of the number t; from there on each waits for all before it. -/
def regionOkT (ops : List Oper) (E : Nat → Bool) (t : Nat) : Bool :=
  let A := ops.toArray
  let an := ancGo ops #[]
  Region.noSelect A &&
  ops.zipIdx.all fun (oj, j) =>
    oj.after.toList.all (fun e => !Region.binds .any e || Nat.blt e.on j) &&
    (match oj.guard with | none => true | some g => Nat.blt g.1 j) &&
    (ops.take j).zipIdx.all fun (oi, i) =>
      bif Nat.blt j t then
        ((oj.after.toList.any fun e => Region.binds .any e && Nat.beq e.on i) || oi.apart A oj) &&
        (!(E i && E j) || (an.getD j 0).testBit i)
      else (an.getD j 0).testBit i

theorem regionOkT_spec {l : List Oper} {t : Nat} (h : regionOkT l E t = true) : NoSel l.toArray ∧
    (∀ j oj, l[j]? = some oj → ∀ e ∈ oj.after.toList, Region.binds .any e = true → e.on < j) ∧
    (∀ (j : Nat) (oj : Oper) (g : Nat × Bool), l[j]? = some oj → oj.guard = some g → g.1 < j) ∧
    (∀ i j oi oj, i < j → j < t → l[i]? = some oi → l[j]? = some oj → ((∃ e ∈ oj.after.toList, Region.binds .any e = true ∧ e.on = i) ∨ oi.apart l.toArray oj = true) ∧
      (E i = true → E j = true → ((ancGo l #[]).getD j 0).testBit i = true)) ∧
    (∀ i j oi oj, i < j → ¬ j < t → l[i]? = some oi → l[j]? = some oj → ((ancGo l #[]).getD j 0).testBit i = true) := by
  unfold regionOkT at h
  simp only [Bool.and_eq_true] at h
  obtain ⟨h0, h⟩ := h
  have hq : ∀ i j oi oj, i < j → l[i]? = some oi → l[j]? = some oj → (bif Nat.blt j t then
        ((oj.after.toList.any fun e => Region.binds .any e && Nat.beq e.on i) || oi.apart l.toArray oj) &&
        (!(E i && E j) || ((ancGo l #[]).getD j 0).testBit i)
      else ((ancGo l #[]).getD j 0).testBit i) = true := fun i j oi oj hij hi hj => by
    have h1 := zipIdx_all h hj
    simp only [Bool.and_eq_true] at h1
    exact zipIdx_all h1.2 (show (l.take j)[i]? = some oi by rw [List.getElem?_take, if_pos hij]; exact hi)
  refine ⟨Region.noSelect_spec h0, fun j oj hj e he hb => ?_, fun j oj g hj hg => ?_, fun i j oi oj hij hjt hi hj => ?_, fun i j oi oj hij hjt hi hj => ?_⟩
  · have h1 := zipIdx_all h hj
    simp only [Bool.and_eq_true, List.all_eq_true] at h1
    have := h1.1.1 e he
    simp only [hb, Bool.not_true, Bool.false_or] at this
    exact Nat.le_of_ble_eq_true this
  · have h1 := zipIdx_all h hj
    simp only [Bool.and_eq_true] at h1
    have := h1.1.2
    rw [hg] at this
    exact Nat.le_of_ble_eq_true this
  · have h2 := hq i j oi oj hij hi hj
    rw [show Nat.blt j t = true from Nat.ble_eq_true_of_le hjt, cond_true] at h2
    simp only [Bool.and_eq_true, Bool.or_eq_true] at h2
    obtain ⟨h3, h4⟩ := h2
    refine ⟨?_, fun ei ej => ?_⟩
    · rcases h3 with h3 | h3
      · rw [List.any_eq_true] at h3
        obtain ⟨e, he, hb⟩ := h3
        simp only [Bool.and_eq_true] at hb
        exact .inl ⟨e, he, hb.1, Nat.eq_of_beq_eq_true hb.2⟩
      · exact .inr h3
    · simpa [ei, ej] using h4
  · have h2 := hq i j oi oj hij hi hj
    have : Nat.blt j t = false := by
      cases hb : Nat.blt j t with
      | false => rfl
      | true => exact absurd (Nat.le_of_ble_eq_true hb) hjt
    rwa [this, cond_false] at h2

/-- The last ones: each comes up in its turn. -/
theorem any_of_last {D : World → Prop} {l : List Oper} {t : Nat} {Q : Exit → Act → World → Prop} (h : regionOkT l E t = true) : ∀ (m s : Nat) (listed : Array Bool) (a : Act) (w : World),
    s + m = l.length → t ≤ s → (∀ i, i < l.length → (listed.getD i true = false ↔ s ≤ i)) → listed.size = l.length →
    Closed l.toArray (fun i => listed.getD i false) → D w → Mix P l.toArray D (fun _ => true) (fun a w => Q .normal a w) (List.range' s m) a w → wpAny P .any l.toArray Q m listed a w := by
  obtain ⟨hs, hback, -, -, hlast⟩ := regionOkT_spec h
  intro m
  induction m with
  | zero =>
    intro s listed a w hlen hts hmem hsz hcl hD hm
    refine ⟨?_, hm⟩
    rw [List.eq_nil_iff_forall_not_mem]
    intro j hj
    obtain ⟨h1, o, ho, -⟩ := mem_ready.1 hj
    have hjl : j < l.length := by simpa using (Array.getElem?_eq_some_iff.1 ho).1
    have := (hmem j hjl).1 h1
    omega
  | succ m ih =>
    intro s listed a w hlen hts hmem hsz hcl hD hm
    have hsl : s < l.length := by omega
    have getb : ∀ i, i < l.length → listed.getD i true = listed.getD i false := fun i hi => by
      rw [Array.getD_eq_getD_getElem?, Array.getD_eq_getD_getElem?, Array.getElem?_eq_getElem (by omega)]; rfl
    refine ⟨fun hnil => ?_, fun j hj => ?_⟩
    · exfalso
      have hkr : s ∈ Region.ready .any l.toArray listed := by
        refine mem_ready.2 ⟨(hmem s hsl).2 (Nat.le_refl _), l[s]'hsl, by simp [hsl], fun e he hb => ?_⟩
        have hlt := hback s (l[s]'hsl) (by simp [hsl]) e (by simpa using he) hb
        have hlt' : e.on < l.length := Nat.lt_trans hlt hsl
        rw [← getb _ hlt']
        cases hg : listed.getD e.on true with
        | true => rfl
        | false => have := (hmem e.on hlt').1 hg; omega
      rw [hnil] at hkr
      cases hkr
    · obtain ⟨hj1, oj, hoj, hjall⟩ := mem_ready.1 hj
      have hjl : j < l.length := by simpa using (Array.getElem?_eq_some_iff.1 hoj).1
      have hoj' : l[j]? = some oj := by simpa using hoj
      have hjs := (hmem j hjl).1 hj1
      have hdep : ∀ e ∈ oj.after.toList, Region.binds .any e = true → listed.getD e.on false = true := fun e he hb => hjall e (by simpa using he) hb
      have hje : j = s := by
        rcases Nat.lt_or_ge s j with hlt | hge
        · exfalso
          have hb := hlast s j (l[s]'hsl) oj hlt (by omega) (by simp [hsl]) hoj'
          have := anc_sound (ops := l.toArray) hcl l #[] (by simp) (by simp) (fun k _ hk => ⟨l[k]'(by simpa using hk), by simp at hk; simp [hk]⟩) (by simp) j oj hoj (by simpa using hjl) hdep s hb
          have h2 := (hmem s hsl).2 (Nat.le_refl _)
          rw [getb s hsl, this] at h2
          cases h2
        · omega
      subst hje
      rw [List.range'_succ] at hm
      obtain ⟨o, ho, hm⟩ := hm
      rw [hoj] at ho; cases ho
      have hmem' : ∀ i, i < l.length → ((listed.setIfInBounds j true).getD i true = false ↔ j + 1 ≤ i) := fun i hi => by
        by_cases hij : j = i
        · subst hij
          have hset : (listed.setIfInBounds j true).getD j true = true := by
            rw [Array.getD_eq_getD_getElem?, Array.getElem?_setIfInBounds_self_of_lt (by omega)]; rfl
          rw [hset]; simp
        · rw [getD_set_ne true hij, hmem i hi]; omega
      have hcl' : Closed l.toArray (fun i => (listed.setIfInBounds j true).getD i false) := fun k o hk hl e he hb => by
        by_cases hkj : j = k
        · subst hkj
          rw [hoj] at hk; cases hk
          exact getD_set_true (hdep e he hb)
        · have hl' : listed.getD k false = true := by
            have := getD_set_ne (listed := listed) false hkj
            simp only [this] at hl
            exact hl
          exact getD_set_true (hcl k o hk hl' e he hb)
      have next : ∀ a' w', D w' → Mix P l.toArray D (fun _ => true) (fun a w => Q .normal a w) (List.range' (j + 1) m) a' w' → wpAny P .any l.toArray Q m (listed.setIfInBounds j true) a' w' := fun a' w' hD' hm' =>
        ih (j + 1) (listed.setIfInBounds j true) a' w' (by omega) (by omega) hmem' (by simpa using hsz) hcl' hD' hm'
      unfold wpOp
      simp only [hoj]
      rcases hm with ⟨v, hv, k⟩ | ⟨-, hW, k⟩
      · rcases hv with ⟨hW, hr⟩ | ⟨hW, rfl⟩
        · rw [if_pos (show Region.wanted _ _ = true from hW)]
          refine .inl ?_
          unfold Oper.wp
          rw [hr w hD]
          exact next _ _ hD k
        · rw [if_neg (by unfold Wanted at hW; rw [hW]; exact Bool.false_ne_true)]
          exact next _ _ hD k
      · rw [if_pos (show Region.wanted _ _ = true from hW)]
        exact .inl (wp_of_Eff (fun v w' hk => next _ _ hk.1 hk.2) k)

theorem any_of_mixT {D : World → Prop} {l : List Oper} {t : Nat} {Q : Exit → Act → World → Prop} (h : regionOkT l E t = true) (ht : t ≤ l.length) : ∀ (m : Nat) (L : List Nat) (listed : Array Bool) (a : Act) (w : World),
    L.length = m → L.Pairwise (· < ·) → (∀ i, i ∈ L ↔ i < t ∧ listed.getD i true = false) → (∀ i, i < l.length → ¬ i < t → listed.getD i true = false) → listed.size = l.length →
    Closed l.toArray (fun i => listed.getD i false) → C w → Mix P l.toArray C E (fun a w => D w ∧ Mix P l.toArray D (fun _ => true) (fun a w => Q .normal a w) (List.range' t (l.length - t)) a w) L a w →
    wpAny P .any l.toArray Q (m + (l.length - t)) listed a w := by
  obtain ⟨hs, hback, -, hpair, hlast⟩ := regionOkT_spec h
  intro m
  induction m with
  | zero =>
    intro L listed a w hlen hsort hmem htl hsz hcl hC hm
    have hL : L = [] := List.length_eq_zero_iff.1 hlen
    subst hL
    rw [Nat.zero_add]
    refine any_of_last h (l.length - t) t listed a w (by omega) (Nat.le_refl _) (fun i hi => ⟨fun hf => ?_, fun hge => htl i hi (by omega)⟩) hsz hcl hm.1 hm.2
    rcases Nat.lt_or_ge i t with hlt | hge
    · have := (hmem i).2 ⟨hlt, hf⟩
      cases this
    · exact hge
  | succ m ih =>
    intro L listed a w hlen hsort hmem htl hsz hcl hC hm
    have getb : ∀ i, i < l.length → listed.getD i true = listed.getD i false := fun i hi => by
      rw [Array.getD_eq_getD_getElem?, Array.getD_eq_getD_getElem?, Array.getElem?_eq_getElem (by omega)]; rfl
    rw [show m + 1 + (l.length - t) = (m + (l.length - t)) + 1 by omega]
    cases L with
    | nil => simp at hlen
    | cons k0 L0 =>
    have hk0 := (hmem k0).1 (by simp)
    refine ⟨fun hnil => ?_, fun j hj => ?_⟩
    · exfalso
      have hkl : k0 < l.length := by omega
      have hkr : k0 ∈ Region.ready .any l.toArray listed := by
        refine mem_ready.2 ⟨hk0.2, l[k0]'hkl, by simp [hkl], fun e he hb => ?_⟩
        have hlt := hback k0 (l[k0]'hkl) (by simp [hkl]) e (by simpa using he) hb
        have hlt' : e.on < l.length := Nat.lt_trans hlt hkl
        rw [← getb _ hlt']
        cases hg : listed.getD e.on true with
        | true => rfl
        | false =>
          have hin := (hmem e.on).2 ⟨by omega, hg⟩
          rcases List.mem_cons.1 hin with heq | hin'
          · omega
          · have := (List.pairwise_cons.1 hsort).1 _ hin'
            omega
      rw [hnil] at hkr
      cases hkr
    · obtain ⟨hj1, oj, hoj, hjall⟩ := mem_ready.1 hj
      have hjl : j < l.length := by simpa using (Array.getElem?_eq_some_iff.1 hoj).1
      have hoj' : l[j]? = some oj := by simpa using hoj
      have hdep : ∀ e ∈ oj.after.toList, Region.binds .any e = true → listed.getD e.on false = true := fun e he hb => hjall e (by simpa using he) hb
      have hanc : ∀ i, ((ancGo l #[]).getD j 0).testBit i = true → listed.getD i false = true := fun i hb =>
        anc_sound (ops := l.toArray) hcl l #[] (by simp) (by simp) (fun k _ hk => ⟨l[k]'(by simpa using hk), by simp at hk; simp [hk]⟩) (by simp) j oj hoj (by simpa using hjl) hdep i hb
      have hjt : j < t := by
        rcases Nat.lt_or_ge j t with hlt | hge
        · exact hlt
        · exfalso
          have hkl : k0 < l.length := by omega
          have hb := hanc k0 (hlast k0 j (l[k0]'hkl) oj (by omega) (by omega) (by simp [hkl]) hoj')
          have := hk0.2
          rw [getb k0 hkl, hb] at this
          cases this
      have hjL : j ∈ k0 :: L0 := (hmem j).2 ⟨hjt, hj1⟩
      obtain ⟨pre, post, hL⟩ := List.append_of_mem hjL
      rw [hL] at hm hsort hmem hlen
      have hpre : ∀ i ∈ pre, i < j := fun i hi => by
        have := List.pairwise_append.1 hsort
        exact this.2.2 i hi j (by simp)
      have hap : ∀ i ∈ pre, (∀ oi, l.toArray[i]? = some oi → oi.apart l.toArray oj = true) ∧ ¬ (E i = true ∧ E j = true) := fun i hi => by
        have hi1 := (hmem i).1 (by simp [hi])
        have hil : i < l.length := by omega
        have hif : listed.getD i false = false := by rw [← getb i hil]; exact hi1.2
        refine ⟨fun oi hoi => ?_, fun ⟨e1, e2⟩ => ?_⟩
        · obtain ⟨hor, -⟩ := hpair i j oi oj (hpre i hi) hjt (by simpa using hoi) hoj'
          rcases hor with ⟨e, he, hb, heq⟩ | hap
          · have := hdep e he hb
            rw [heq, hif] at this
            cases this
          · exact hap
        · obtain ⟨-, hch⟩ := hpair i j (l[i]'hil) oj (hpre i hi) hjt (by simp [hil]) hoj'
          have := hanc i (hch e1 e2)
          rw [hif] at this
          cases this
      have hmem' : ∀ i, i ∈ pre ++ post ↔ i < t ∧ (listed.setIfInBounds j true).getD i true = false := fun i => by
        have hnd : i ∈ pre ++ post ↔ i ∈ pre ++ j :: post ∧ i ≠ j := by
          have hq := List.pairwise_append.1 hsort
          have hq2 := List.pairwise_cons.1 hq.2.1
          constructor
          · intro hi
            refine ⟨by rcases List.mem_append.1 hi with hi | hi <;> simp [hi], fun heq => ?_⟩
            subst heq
            rcases List.mem_append.1 hi with hi | hi
            · exact Nat.lt_irrefl _ (hpre _ hi)
            · exact Nat.lt_irrefl _ (hq2.1 _ hi)
          · rintro ⟨hi, hne⟩
            rcases List.mem_append.1 hi with hi | hi
            · simp [hi]
            · rcases List.mem_cons.1 hi with hi | hi
              · exact absurd hi hne
              · simp [hi]
        rw [hnd, hmem i]
        by_cases hij : j = i
        · subst hij
          have hset : (listed.setIfInBounds j true).getD j true = true := by
            rw [Array.getD_eq_getD_getElem?, Array.getElem?_setIfInBounds_self_of_lt (by omega)]; rfl
          rw [hset]
          simp
        · rw [getD_set_ne true hij]
          constructor
          · rintro ⟨⟨h1, h2⟩, -⟩; exact ⟨h1, h2⟩
          · rintro ⟨h1, h2⟩; exact ⟨⟨h1, h2⟩, fun e => hij e.symm⟩
      have htl' : ∀ i, i < l.length → ¬ i < t → (listed.setIfInBounds j true).getD i true = false := fun i hi hit => by
        rw [getD_set_ne true (by omega)]; exact htl i hi hit
      have hcl' : Closed l.toArray (fun i => (listed.setIfInBounds j true).getD i false) := fun k o hk hl e he hb => by
        by_cases hkj : j = k
        · subst hkj
          rw [hoj] at hk; cases hk
          exact getD_set_true (hdep e he hb)
        · have hl' : listed.getD k false = true := by
            have := getD_set_ne (listed := listed) false hkj
            simp only [this] at hl
            exact hl
          exact getD_set_true (hcl k o hk hl' e he hb)
      have hlen' : (pre ++ post).length = m := by simp at hlen ⊢; omega
      have hsort' : (pre ++ post).Pairwise (· < ·) := by
        refine hsort.sublist ?_
        exact List.Sublist.append_left (List.sublist_cons_self _ _) _
      have next : ∀ a' w', C w' → Mix P l.toArray C E (fun a w => D w ∧ Mix P l.toArray D (fun _ => true) (fun a w => Q .normal a w) (List.range' t (l.length - t)) a w) (pre ++ post) a' w' → wpAny P .any l.toArray Q (m + (l.length - t)) (listed.setIfInBounds j true) a' w' := fun a' w' hC' hm' =>
        ih (pre ++ post) (listed.setIfInBounds j true) a' w' hlen' hsort' hmem' htl' (by simpa using hsz) hcl' hC' hm'
      unfold wpOp
      simp only [hoj]
      rcases pull hs hoj post pre a w hC hap hm with ⟨v, hv, k⟩ | ⟨-, hW, k⟩
      · rcases hv with ⟨hW, hr⟩ | ⟨hW, rfl⟩
        · rw [if_pos (show Region.wanted _ _ = true from hW)]
          refine .inl ?_
          unfold Oper.wp
          rw [hr w hC]
          exact next _ _ hC k
        · rw [if_neg (by unfold Wanted at hW; rw [hW]; exact Bool.false_ne_true)]
          exact next _ _ hC k
      · rw [if_pos (show Region.wanted _ _ = true from hW)]
        exact .inl (wp_of_Eff (fun v w' hk => next _ _ hk.1 hk.2) k)

theorem region_drawnT {D : World → Prop} {id t : Nat} {l : List Oper} {Q : Exit → Act → World → Prop} {a : Act} {w : World} (hm : P.follows .mixedOrders = true) (hok : regionOkT l E t = true) (ht : t ≤ l.length)
    (hC : C { w with drawn := w.drawn + 1 }) (h : Mix P l.toArray C E (fun a w => D w ∧ Mix P l.toArray D (fun _ => true) (fun a w => Q .normal a w) (List.range' t (l.length - t)) a w) (List.range t) a { w with drawn := w.drawn + 1 }) :
    (Code.region id l.toArray true).wp P Q a w := by
  refine wp_region_any hm ?_
  have := any_of_mixT (P := P) (C := C) (Q := Q) hok ht t (List.range t) (Array.replicate l.length false) a { w with drawn := w.drawn + 1 } (by simp) List.pairwise_lt_range
    (fun i => by
      rw [List.mem_range]
      constructor
      · intro hi
        refine ⟨hi, ?_⟩
        rw [Array.getD_eq_getD_getElem?, Array.getElem?_eq_getElem (by simp; omega)]
        simp
      · exact fun hi => hi.1)
    (fun i hi _ => by rw [Array.getD_eq_getD_getElem?, Array.getElem?_eq_getElem (by simpa using hi)]; simp)
    (by simp) (fun k o _ hk e _ _ => by
      exfalso
      by_cases hlt : k < l.length
      · simp [Array.getD_eq_getD_getElem?, hlt] at hk
      · simp [Array.getD_eq_getD_getElem?, hlt] at hk) hC h
  rw [show t + (l.length - t) = l.length by omega] at this
  simpa using this
end tail

section take
variable {P : Program} {C : World → Prop} {E : Nat → Bool}
theorem wanted_take {l : List Oper} {t : Nat} {o : Oper} {a : Act} (hg : ∀ g, o.guard = some g → g.1 < t) : Wanted (l.take t).toArray o a = Wanted l.toArray o a := by
  unfold Wanted Region.wanted
  cases ho : o.guard with
  | none => rfl
  | some g =>
    have := hg g ho
    simp only [yielded]
    have e : (l.take t).toArray[g.1]? = l.toArray[g.1]? := by simp [List.getElem?_take, this]
    rw [e]
theorem mix_take {l : List Oper} {t : Nat} {Q : Act → World → Prop} (hg : ∀ (j : Nat) (oj : Oper) (g : Nat × Bool), l[j]? = some oj → oj.guard = some g → g.1 < j) : ∀ (L : List Nat) (a : Act) (w : World), (∀ i ∈ L, i < t) →
    Mix P (l.take t).toArray C E Q L a w → Mix P l.toArray C E Q L a w
  | [], a, w, _, h => h
  | i :: L, a, w, hL, ⟨o, ho, h⟩ => by
    have hi := hL i (by simp)
    have ho' : l[i]? = some o := by simpa [List.getElem?_take, hi] using ho
    have hw : Wanted (l.take t).toArray o a = Wanted l.toArray o a := wanted_take fun g hgo => Nat.lt_trans (hg i o g ho' hgo) hi
    refine ⟨o, by simpa using ho', ?_⟩
    rcases h with ⟨v, hv, k⟩ | ⟨h1, h2, k⟩
    · refine .inl ⟨v, ?_, mix_take hg L _ _ (fun j hj => hL j (by simp [hj])) k⟩
      unfold Stab at hv ⊢
      rwa [hw] at hv
    · exact .inr ⟨h1, by rw [← hw]; exact h2, Eff_mono (fun v w' hk => ⟨hk.1, mix_take hg L _ _ (fun j hj => hL j (by simp [hj])) hk.2⟩) k⟩
end take

/-- Behind the head of a region: its last operations, in the text's order. -/
def TailQ (P : Program) (n : Nat) (ops : List Oper) (t : Nat) (Q : Post) : Post
  | .normal, l, h => S P n ops (fun _ => True) (fun _ => true) Q t l h
  | e, l, h => Q e l h
theorem tail_end {P : Program} {n : Nat} {ops : List Oper} {t : Nat} {Q : Post} {l : Fr} {h : Hp} (k : S P n ops (fun _ => True) (fun _ => true) Q t l h) : At (TailQ P n ops t Q) .normal l h := ⟨k⟩


section rules
variable {P : Program} {n : Nat} {Q : Post} {l : Fr} {h : Hp}
theorem mix_monoQ {ops : Array Oper} {C : World → Prop} {E : Nat → Bool} {Q Q' : Act → World → Prop} (hQ : ∀ a w, Q a w → Q' a w) (L : List Nat) (a : Act) (w : World) (k : Mix P ops C E Q L a w) : Mix P ops C E Q' L a w := mix_mono hQ L a w k
/-- A drawn region: its operations ahead of the number t in the text's order, in a class of heaps; then the last ones. -/
theorem r_drawnT {c : Code} (t : Nat) (Ch : Hp → Prop) (hc : tagOf c = .region true) (hm : P.follows .mixedOrders = true) (hok : regionOkT (opsOf c) (effB (opsOf c)) t = true) (ht : Nat.ble t (opsOf c).length = true) (hC : Ch h)
    (k : S P n ((opsOf c).take t) Ch (effB (opsOf c)) (TailQ P n (opsOf c) t Q) 0 l h) : W P n c Q l h := W.mk fun a w hf hw => by
  cases c <;> cases hc
  rename_i id ops
  have ht' : t ≤ ops.toList.length := Nat.le_of_ble_eq_true ht
  obtain ⟨-, -, hg, -, -⟩ := regionOkT_spec hok
  have key : ∀ w0 : World, w0.heap = w.heap → Oth w w0 → Mix P ops.toList.toArray (fun w' => Oth w w' ∧ Ch w'.heap) (effB ops.toList) (fun a w' => (Oth w w' ∧ True) ∧ Mix P ops.toList.toArray (fun w' => Oth w w' ∧ True) (fun _ => true) (fun a w2 => lift n Q w .normal a w2) (List.range' t (ops.toList.length - t)) a w') (List.range t) a w0 := fun w0 hw0 ho => by
    have h1 := k.run a w0 w hf (by rw [hw0]; exact hw) ho
    have hlen : ((opsOf (Code.region id ops true)).take t).length = t := by
      show (ops.toList.take t).length = t
      rw [List.length_take]; omega
    rw [Nat.sub_zero, hlen, ← List.range_eq_range'] at h1
    have h2 := mix_take (P := P) (E := effB ops.toList) (l := ops.toList) (t := t) hg (List.range t) a w0 (fun i hi => List.mem_range.1 hi) h1
    refine mix_mono (fun a' w' hq => ?_) _ _ _ h2
    obtain ⟨l', g1, g2, g3⟩ := hq
    refine ⟨⟨g3, trivial⟩, ?_⟩
    have h3 := g2.run a' w' w g1 rfl g3
    have e : opsOf (Code.region id ops true) = ops.toList := rfl
    rw [e] at h3
    exact h3
  have := region_drawnT (P := P) (id := id) (l := ops.toList) (E := effB ops.toList) (Q := lift n Q w) (C := fun w' => Oth w w' ∧ Ch w'.heap) (D := fun w' => Oth w w' ∧ True) hm hok ht' (a := a) (w := w) ⟨⟨rfl, rfl, rfl⟩, by rw [← hw] at hC; exact hC⟩ (key { w with drawn := w.drawn + 1 } rfl ⟨rfl, rfl, rfl⟩)
  simpa using this
end rules
end Go.Den
