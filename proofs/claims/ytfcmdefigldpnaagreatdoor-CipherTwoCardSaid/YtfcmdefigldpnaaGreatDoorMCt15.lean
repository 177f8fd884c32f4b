/- Texts Tail to ParA of this work, joined, without what the law does not lean on. -/
import Derived.Test.YtfcmdefigldpnaaGreatDoorMCt14
namespace Go.Den
set_option linter.unusedVariables false
set_option maxRecDepth 8000
open Go Go.RowKit

section tail
variable {P : Program} {C : World → Prop} {E : Nat → Bool}

/-- What is asked of a region: as ever ahead of the number t; from there on each waits for all before it. -/
def regionOkT (ops : List Oper) (E : Nat → Bool) (t : Nat) : Bool :=
  let A := ops.toArray
  let an := ancGo ops #[]
  Region.noSelect A &&
  ops.zipIdx.all fun (oj, j) =>
    oj.after.toList.all (fun e => !Region.binds .any e || Nat.blt e.on j) &&
    (match oj.guard with | none => true | some g => Nat.blt g.1 j) &&
    (ops.take j).zipIdx.all fun (oi, i) =>
      bif Nat.blt j t then
        ((oj.after.toList.any fun e => Region.binds .any e && Nat.beq e.on i) || oi.apart A oj) &&
        (!(E i && E j) || (an.getD j 0).testBit i)
      else (an.getD j 0).testBit i

theorem regionOkT_spec {l : List Oper} {t : Nat} (h : regionOkT l E t = true) : NoSel l.toArray ∧
    (∀ j oj, l[j]? = some oj → ∀ e ∈ oj.after.toList, Region.binds .any e = true → e.on < j) ∧
    (∀ (j : Nat) (oj : Oper) (g : Nat × Bool), l[j]? = some oj → oj.guard = some g → g.1 < j) ∧
    (∀ i j oi oj, i < j → j < t → l[i]? = some oi → l[j]? = some oj → ((∃ e ∈ oj.after.toList, Region.binds .any e = true ∧ e.on = i) ∨ oi.apart l.toArray oj = true) ∧
      (E i = true → E j = true → ((ancGo l #[]).getD j 0).testBit i = true)) ∧
    (∀ i j oi oj, i < j → ¬ j < t → l[i]? = some oi → l[j]? = some oj → ((ancGo l #[]).getD j 0).testBit i = true) := by
  unfold regionOkT at h
  simp only [Bool.and_eq_true] at h
  obtain ⟨h0, h⟩ := h
  have hq : ∀ i j oi oj, i < j → l[i]? = some oi → l[j]? = some oj → (bif Nat.blt j t then
        ((oj.after.toList.any fun e => Region.binds .any e && Nat.beq e.on i) || oi.apart l.toArray oj) &&
        (!(E i && E j) || ((ancGo l #[]).getD j 0).testBit i)
      else ((ancGo l #[]).getD j 0).testBit i) = true := fun i j oi oj hij hi hj => by
    have h1 := zipIdx_all h hj
    simp only [Bool.and_eq_true] at h1
    exact zipIdx_all h1.2 (show (l.take j)[i]? = some oi by rw [List.getElem?_take, if_pos hij]; exact hi)
  refine ⟨Region.noSelect_spec h0, fun j oj hj e he hb => ?_, fun j oj g hj hg => ?_, fun i j oi oj hij hjt hi hj => ?_, fun i j oi oj hij hjt hi hj => ?_⟩
  · have h1 := zipIdx_all h hj
    simp only [Bool.and_eq_true, List.all_eq_true] at h1
    have := h1.1.1 e he
    simp only [hb, Bool.not_true, Bool.false_or] at this
    exact Nat.le_of_ble_eq_true this
  · have h1 := zipIdx_all h hj
    simp only [Bool.and_eq_true] at h1
    have := h1.1.2
    rw [hg] at this
    exact Nat.le_of_ble_eq_true this
  · have h2 := hq i j oi oj hij hi hj
    rw [show Nat.blt j t = true from Nat.ble_eq_true_of_le hjt, cond_true] at h2
    simp only [Bool.and_eq_true, Bool.or_eq_true] at h2
    obtain ⟨h3, h4⟩ := h2
    refine ⟨?_, fun ei ej => ?_⟩
    · rcases h3 with h3 | h3
      · rw [List.any_eq_true] at h3
        obtain ⟨e, he, hb⟩ := h3
        simp only [Bool.and_eq_true] at hb
        exact .inl ⟨e, he, hb.1, Nat.eq_of_beq_eq_true hb.2⟩
      · exact .inr h3
    · simpa [ei, ej] using h4
  · have h2 := hq i j oi oj hij hi hj
    have : Nat.blt j t = false := by
      cases hb : Nat.blt j t with
      | false => rfl
      | true => exact absurd (Nat.le_of_ble_eq_true hb) hjt
    rwa [this, cond_false] at h2

/-- The last ones: each comes up in its turn. -/
theorem any_of_last {D : World → Prop} {l : List Oper} {t : Nat} {Q : Exit → Act → World → Prop} (h : regionOkT l E t = true) : ∀ (m s : Nat) (listed : Array Bool) (a : Act) (w : World),
    s + m = l.length → t ≤ s → (∀ i, i < l.length → (listed.getD i true = false ↔ s ≤ i)) → listed.size = l.length →
    Closed l.toArray (fun i => listed.getD i false) → D w → Mix P l.toArray D (fun _ => true) (fun a w => Q .normal a w) (List.range' s m) a w → wpAny P .any l.toArray Q m listed a w := by
  obtain ⟨hs, hback, -, -, hlast⟩ := regionOkT_spec h
  intro m
  induction m with
  | zero =>
    intro s listed a w hlen hts hmem hsz hcl hD hm
    refine ⟨?_, hm⟩
    rw [List.eq_nil_iff_forall_not_mem]
    intro j hj
    obtain ⟨h1, o, ho, -⟩ := mem_ready.1 hj
    have hjl : j < l.length := by simpa using (Array.getElem?_eq_some_iff.1 ho).1
    have := (hmem j hjl).1 h1
    omega
  | succ m ih =>
    intro s listed a w hlen hts hmem hsz hcl hD hm
    have hsl : s < l.length := by omega
    have getb : ∀ i, i < l.length → listed.getD i true = listed.getD i false := fun i hi => by
      rw [Array.getD_eq_getD_getElem?, Array.getD_eq_getD_getElem?, Array.getElem?_eq_getElem (by omega)]; rfl
    refine ⟨fun hnil => ?_, fun j hj => ?_⟩
    · exfalso
      have hkr : s ∈ Region.ready .any l.toArray listed := by
        refine mem_ready.2 ⟨(hmem s hsl).2 (Nat.le_refl _), l[s]'hsl, by simp [hsl], fun e he hb => ?_⟩
        have hlt := hback s (l[s]'hsl) (by simp [hsl]) e (by simpa using he) hb
        have hlt' : e.on < l.length := Nat.lt_trans hlt hsl
        rw [← getb _ hlt']
        cases hg : listed.getD e.on true with
        | true => rfl
        | false => have := (hmem e.on hlt').1 hg; omega
      rw [hnil] at hkr
      cases hkr
    · obtain ⟨hj1, oj, hoj, hjall⟩ := mem_ready.1 hj
      have hjl : j < l.length := by simpa using (Array.getElem?_eq_some_iff.1 hoj).1
      have hoj' : l[j]? = some oj := by simpa using hoj
      have hjs := (hmem j hjl).1 hj1
      have hdep : ∀ e ∈ oj.after.toList, Region.binds .any e = true → listed.getD e.on false = true := fun e he hb => hjall e (by simpa using he) hb
      have hje : j = s := by
        rcases Nat.lt_or_ge s j with hlt | hge
        · exfalso
          have hb := hlast s j (l[s]'hsl) oj hlt (by omega) (by simp [hsl]) hoj'
          have := anc_sound (ops := l.toArray) hcl l #[] (by simp) (by simp) (fun k _ hk => ⟨l[k]'(by simpa using hk), by simp at hk; simp [hk]⟩) (by simp) j oj hoj (by simpa using hjl) hdep s hb
          have h2 := (hmem s hsl).2 (Nat.le_refl _)
          rw [getb s hsl, this] at h2
          cases h2
        · omega
      subst hje
      rw [List.range'_succ] at hm
      obtain ⟨o, ho, hm⟩ := hm
      rw [hoj] at ho; cases ho
      have hmem' : ∀ i, i < l.length → ((listed.setIfInBounds j true).getD i true = false ↔ j + 1 ≤ i) := fun i hi => by
        by_cases hij : j = i
        · subst hij
          have hset : (listed.setIfInBounds j true).getD j true = true := by
            rw [Array.getD_eq_getD_getElem?, Array.getElem?_setIfInBounds_self_of_lt (by omega)]; rfl
          rw [hset]; simp
        · rw [getD_set_ne true hij, hmem i hi]; omega
      have hcl' : Closed l.toArray (fun i => (listed.setIfInBounds j true).getD i false) := fun k o hk hl e he hb => by
        by_cases hkj : j = k
        · subst hkj
          rw [hoj] at hk; cases hk
          exact getD_set_true (hdep e he hb)
        · have hl' : listed.getD k false = true := by
            have := getD_set_ne (listed := listed) false hkj
            simp only [this] at hl
            exact hl
          exact getD_set_true (hcl k o hk hl' e he hb)
      have next : ∀ a' w', D w' → Mix P l.toArray D (fun _ => true) (fun a w => Q .normal a w) (List.range' (j + 1) m) a' w' → wpAny P .any l.toArray Q m (listed.setIfInBounds j true) a' w' := fun a' w' hD' hm' =>
        ih (j + 1) (listed.setIfInBounds j true) a' w' (by omega) (by omega) hmem' (by simpa using hsz) hcl' hD' hm'
      unfold wpOp
      simp only [hoj]
      rcases hm with ⟨v, hv, k⟩ | ⟨-, hW, k⟩
      · rcases hv with ⟨hW, hr⟩ | ⟨hW, rfl⟩
        · rw [if_pos (show Region.wanted _ _ = true from hW)]
          refine .inl ?_
          unfold Oper.wp
          rw [hr w hD]
          exact next _ _ hD k
        · rw [if_neg (by unfold Wanted at hW; rw [hW]; exact Bool.false_ne_true)]
          exact next _ _ hD k
      · rw [if_pos (show Region.wanted _ _ = true from hW)]
        exact .inl (wp_of_Eff (fun v w' hk => next _ _ hk.1 hk.2) k)

theorem any_of_mixT {D : World → Prop} {l : List Oper} {t : Nat} {Q : Exit → Act → World → Prop} (h : regionOkT l E t = true) (ht : t ≤ l.length) : ∀ (m : Nat) (L : List Nat) (listed : Array Bool) (a : Act) (w : World),
    L.length = m → L.Pairwise (· < ·) → (∀ i, i ∈ L ↔ i < t ∧ listed.getD i true = false) → (∀ i, i < l.length → ¬ i < t → listed.getD i true = false) → listed.size = l.length →
    Closed l.toArray (fun i => listed.getD i false) → C w → Mix P l.toArray C E (fun a w => D w ∧ Mix P l.toArray D (fun _ => true) (fun a w => Q .normal a w) (List.range' t (l.length - t)) a w) L a w →
    wpAny P .any l.toArray Q (m + (l.length - t)) listed a w := by
  obtain ⟨hs, hback, -, hpair, hlast⟩ := regionOkT_spec h
  intro m
  induction m with
  | zero =>
    intro L listed a w hlen hsort hmem htl hsz hcl hC hm
    have hL : L = [] := List.length_eq_zero_iff.1 hlen
    subst hL
    rw [Nat.zero_add]
    refine any_of_last h (l.length - t) t listed a w (by omega) (Nat.le_refl _) (fun i hi => ⟨fun hf => ?_, fun hge => htl i hi (by omega)⟩) hsz hcl hm.1 hm.2
    rcases Nat.lt_or_ge i t with hlt | hge
    · have := (hmem i).2 ⟨hlt, hf⟩
      cases this
    · exact hge
  | succ m ih =>
    intro L listed a w hlen hsort hmem htl hsz hcl hC hm
    have getb : ∀ i, i < l.length → listed.getD i true = listed.getD i false := fun i hi => by
      rw [Array.getD_eq_getD_getElem?, Array.getD_eq_getD_getElem?, Array.getElem?_eq_getElem (by omega)]; rfl
    rw [show m + 1 + (l.length - t) = (m + (l.length - t)) + 1 by omega]
    cases L with
    | nil => simp at hlen
    | cons k0 L0 =>
    have hk0 := (hmem k0).1 (by simp)
    refine ⟨fun hnil => ?_, fun j hj => ?_⟩
    · exfalso
      have hkl : k0 < l.length := by omega
      have hkr : k0 ∈ Region.ready .any l.toArray listed := by
        refine mem_ready.2 ⟨hk0.2, l[k0]'hkl, by simp [hkl], fun e he hb => ?_⟩
        have hlt := hback k0 (l[k0]'hkl) (by simp [hkl]) e (by simpa using he) hb
        have hlt' : e.on < l.length := Nat.lt_trans hlt hkl
        rw [← getb _ hlt']
        cases hg : listed.getD e.on true with
        | true => rfl
        | false =>
          have hin := (hmem e.on).2 ⟨by omega, hg⟩
          rcases List.mem_cons.1 hin with heq | hin'
          · omega
          · have := (List.pairwise_cons.1 hsort).1 _ hin'
            omega
      rw [hnil] at hkr
      cases hkr
    · obtain ⟨hj1, oj, hoj, hjall⟩ := mem_ready.1 hj
      have hjl : j < l.length := by simpa using (Array.getElem?_eq_some_iff.1 hoj).1
      have hoj' : l[j]? = some oj := by simpa using hoj
      have hdep : ∀ e ∈ oj.after.toList, Region.binds .any e = true → listed.getD e.on false = true := fun e he hb => hjall e (by simpa using he) hb
      have hanc : ∀ i, ((ancGo l #[]).getD j 0).testBit i = true → listed.getD i false = true := fun i hb =>
        anc_sound (ops := l.toArray) hcl l #[] (by simp) (by simp) (fun k _ hk => ⟨l[k]'(by simpa using hk), by simp at hk; simp [hk]⟩) (by simp) j oj hoj (by simpa using hjl) hdep i hb
      have hjt : j < t := by
        rcases Nat.lt_or_ge j t with hlt | hge
        · exact hlt
        · exfalso
          have hkl : k0 < l.length := by omega
          have hb := hanc k0 (hlast k0 j (l[k0]'hkl) oj (by omega) (by omega) (by simp [hkl]) hoj')
          have := hk0.2
          rw [getb k0 hkl, hb] at this
          cases this
      have hjL : j ∈ k0 :: L0 := (hmem j).2 ⟨hjt, hj1⟩
      obtain ⟨pre, post, hL⟩ := List.append_of_mem hjL
      rw [hL] at hm hsort hmem hlen
      have hpre : ∀ i ∈ pre, i < j := fun i hi => by
        have := List.pairwise_append.1 hsort
        exact this.2.2 i hi j (by simp)
      have hap : ∀ i ∈ pre, (∀ oi, l.toArray[i]? = some oi → oi.apart l.toArray oj = true) ∧ ¬ (E i = true ∧ E j = true) := fun i hi => by
        have hi1 := (hmem i).1 (by simp [hi])
        have hil : i < l.length := by omega
        have hif : listed.getD i false = false := by rw [← getb i hil]; exact hi1.2
        refine ⟨fun oi hoi => ?_, fun ⟨e1, e2⟩ => ?_⟩
        · obtain ⟨hor, -⟩ := hpair i j oi oj (hpre i hi) hjt (by simpa using hoi) hoj'
          rcases hor with ⟨e, he, hb, heq⟩ | hap
          · have := hdep e he hb
            rw [heq, hif] at this
            cases this
          · exact hap
        · obtain ⟨-, hch⟩ := hpair i j (l[i]'hil) oj (hpre i hi) hjt (by simp [hil]) hoj'
          have := hanc i (hch e1 e2)
          rw [hif] at this
          cases this
      have hmem' : ∀ i, i ∈ pre ++ post ↔ i < t ∧ (listed.setIfInBounds j true).getD i true = false := fun i => by
        have hnd : i ∈ pre ++ post ↔ i ∈ pre ++ j :: post ∧ i ≠ j := by
          have hq := List.pairwise_append.1 hsort
          have hq2 := List.pairwise_cons.1 hq.2.1
          constructor
          · intro hi
            refine ⟨by rcases List.mem_append.1 hi with hi | hi <;> simp [hi], fun heq => ?_⟩
            subst heq
            rcases List.mem_append.1 hi with hi | hi
            · exact Nat.lt_irrefl _ (hpre _ hi)
            · exact Nat.lt_irrefl _ (hq2.1 _ hi)
          · rintro ⟨hi, hne⟩
            rcases List.mem_append.1 hi with hi | hi
            · simp [hi]
            · rcases List.mem_cons.1 hi with hi | hi
              · exact absurd hi hne
              · simp [hi]
        rw [hnd, hmem i]
        by_cases hij : j = i
        · subst hij
          have hset : (listed.setIfInBounds j true).getD j true = true := by
            rw [Array.getD_eq_getD_getElem?, Array.getElem?_setIfInBounds_self_of_lt (by omega)]; rfl
          rw [hset]
          simp
        · rw [getD_set_ne true hij]
          constructor
          · rintro ⟨⟨h1, h2⟩, -⟩; exact ⟨h1, h2⟩
          · rintro ⟨h1, h2⟩; exact ⟨⟨h1, h2⟩, fun e => hij e.symm⟩
      have htl' : ∀ i, i < l.length → ¬ i < t → (listed.setIfInBounds j true).getD i true = false := fun i hi hit => by
        rw [getD_set_ne true (by omega)]; exact htl i hi hit
      have hcl' : Closed l.toArray (fun i => (listed.setIfInBounds j true).getD i false) := fun k o hk hl e he hb => by
        by_cases hkj : j = k
        · subst hkj
          rw [hoj] at hk; cases hk
          exact getD_set_true (hdep e he hb)
        · have hl' : listed.getD k false = true := by
            have := getD_set_ne (listed := listed) false hkj
            simp only [this] at hl
            exact hl
          exact getD_set_true (hcl k o hk hl' e he hb)
      have hlen' : (pre ++ post).length = m := by simp at hlen ⊢; omega
      have hsort' : (pre ++ post).Pairwise (· < ·) := by
        refine hsort.sublist ?_
        exact List.Sublist.append_left (List.sublist_cons_self _ _) _
      have next : ∀ a' w', C w' → Mix P l.toArray C E (fun a w => D w ∧ Mix P l.toArray D (fun _ => true) (fun a w => Q .normal a w) (List.range' t (l.length - t)) a w) (pre ++ post) a' w' → wpAny P .any l.toArray Q (m + (l.length - t)) (listed.setIfInBounds j true) a' w' := fun a' w' hC' hm' =>
        ih (pre ++ post) (listed.setIfInBounds j true) a' w' hlen' hsort' hmem' htl' (by simpa using hsz) hcl' hC' hm'
      unfold wpOp
      simp only [hoj]
      rcases pull hs hoj post pre a w hC hap hm with ⟨v, hv, k⟩ | ⟨-, hW, k⟩
      · rcases hv with ⟨hW, hr⟩ | ⟨hW, rfl⟩
        · rw [if_pos (show Region.wanted _ _ = true from hW)]
          refine .inl ?_
          unfold Oper.wp
          rw [hr w hC]
          exact next _ _ hC k
        · rw [if_neg (by unfold Wanted at hW; rw [hW]; exact Bool.false_ne_true)]
          exact next _ _ hC k
      · rw [if_pos (show Region.wanted _ _ = true from hW)]
        exact .inl (wp_of_Eff (fun v w' hk => next _ _ hk.1 hk.2) k)

theorem region_drawnT {D : World → Prop} {id t : Nat} {l : List Oper} {Q : Exit → Act → World → Prop} {a : Act} {w : World} (hm : P.follows .mixedOrders = true) (hok : regionOkT l E t = true) (ht : t ≤ l.length)
    (hC : C { w with drawn := w.drawn + 1 }) (h : Mix P l.toArray C E (fun a w => D w ∧ Mix P l.toArray D (fun _ => true) (fun a w => Q .normal a w) (List.range' t (l.length - t)) a w) (List.range t) a { w with drawn := w.drawn + 1 }) :
    (Code.region id l.toArray true).wp P Q a w := by
  refine wp_region_any hm ?_
  have := any_of_mixT (P := P) (C := C) (Q := Q) hok ht t (List.range t) (Array.replicate l.length false) a { w with drawn := w.drawn + 1 } (by simp) List.pairwise_lt_range
    (fun i => by
      rw [List.mem_range]
      constructor
      · intro hi
        refine ⟨hi, ?_⟩
        rw [Array.getD_eq_getD_getElem?, Array.getElem?_eq_getElem (by simp; omega)]
        simp
      · exact fun hi => hi.1)
    (fun i hi _ => by rw [Array.getD_eq_getD_getElem?, Array.getElem?_eq_getElem (by simpa using hi)]; simp)
    (by simp) (fun k o _ hk e _ _ => by
      exfalso
      by_cases hlt : k < l.length
      · simp [Array.getD_eq_getD_getElem?, hlt] at hk
      · simp [Array.getD_eq_getD_getElem?, hlt] at hk) hC h
  rw [show t + (l.length - t) = l.length by omega] at this
  simpa using this
end tail

section take
variable {P : Program} {C : World → Prop} {E : Nat → Bool}
theorem wanted_take {l : List Oper} {t : Nat} {o : Oper} {a : Act} (hg : ∀ g, o.guard = some g → g.1 < t) : Wanted (l.take t).toArray o a = Wanted l.toArray o a := by
  unfold Wanted Region.wanted
  cases ho : o.guard with
  | none => rfl
  | some g =>
    have := hg g ho
    simp only [yielded]
    have e : (l.take t).toArray[g.1]? = l.toArray[g.1]? := by simp [this]
    rw [e]
theorem mix_take {l : List Oper} {t : Nat} {Q : Act → World → Prop} (hg : ∀ (j : Nat) (oj : Oper) (g : Nat × Bool), l[j]? = some oj → oj.guard = some g → g.1 < j) : ∀ (L : List Nat) (a : Act) (w : World), (∀ i ∈ L, i < t) →
    Mix P (l.take t).toArray C E Q L a w → Mix P l.toArray C E Q L a w
  | [], a, w, _, h => h
  | i :: L, a, w, hL, ⟨o, ho, h⟩ => by
    have hi := hL i (by simp)
    have ho' : l[i]? = some o := by simpa [List.getElem?_take, hi] using ho
    have hw : Wanted (l.take t).toArray o a = Wanted l.toArray o a := wanted_take fun g hgo => Nat.lt_trans (hg i o g ho' hgo) hi
    refine ⟨o, by simpa using ho', ?_⟩
    rcases h with ⟨v, hv, k⟩ | ⟨h1, h2, k⟩
    · refine .inl ⟨v, ?_, mix_take hg L _ _ (fun j hj => hL j (by simp [hj])) k⟩
      unfold Stab at hv ⊢
      rwa [hw] at hv
    · exact .inr ⟨h1, by rw [← hw]; exact h2, Eff_mono (fun v w' hk => ⟨hk.1, mix_take hg L _ _ (fun j hj => hL j (by simp [hj])) hk.2⟩) k⟩
end take

/-- Behind the head of a region: its last operations, in the text's order. -/
def TailQ (P : Program) (n : Nat) (ops : List Oper) (t : Nat) (Q : Post) : Post
  | .normal, l, h => S P n ops (fun _ => True) (fun _ => true) Q t l h
  | e, l, h => Q e l h
theorem tail_end {P : Program} {n : Nat} {ops : List Oper} {t : Nat} {Q : Post} {l : Fr} {h : Hp} (k : S P n ops (fun _ => True) (fun _ => true) Q t l h) : At (TailQ P n ops t Q) .normal l h := ⟨k⟩


section rules
variable {P : Program} {n : Nat} {Q : Post} {l : Fr} {h : Hp}
/-- A drawn region: its operations ahead of the number t in the text's order, in a class of heaps; then the last ones. -/
theorem r_drawnT {c : Code} (t : Nat) (Ch : Hp → Prop) (hc : tagOf c = .region true) (hm : P.follows .mixedOrders = true) (hok : regionOkT (opsOf c) (effB (opsOf c)) t = true) (ht : Nat.ble t (opsOf c).length = true) (hC : Ch h)
    (k : S P n ((opsOf c).take t) Ch (effB (opsOf c)) (TailQ P n (opsOf c) t Q) 0 l h) : W P n c Q l h := W.mk fun a w hf hw => by
  cases c <;> cases hc
  rename_i id ops
  have ht' : t ≤ ops.toList.length := Nat.le_of_ble_eq_true ht
  obtain ⟨-, -, hg, -, -⟩ := regionOkT_spec hok
  have key : ∀ w0 : World, w0.heap = w.heap → Oth w w0 → Mix P ops.toList.toArray (fun w' => Oth w w' ∧ Ch w'.heap) (effB ops.toList) (fun a w' => (Oth w w' ∧ True) ∧ Mix P ops.toList.toArray (fun w' => Oth w w' ∧ True) (fun _ => true) (fun a w2 => lift n Q w .normal a w2) (List.range' t (ops.toList.length - t)) a w') (List.range t) a w0 := fun w0 hw0 ho => by
    have h1 := k.run a w0 w hf (by rw [hw0]; exact hw) ho
    have hlen : ((opsOf (Code.region id ops true)).take t).length = t := by
      show (ops.toList.take t).length = t
      rw [List.length_take]; omega
    rw [Nat.sub_zero, hlen, ← List.range_eq_range'] at h1
    have h2 := mix_take (P := P) (E := effB ops.toList) (l := ops.toList) (t := t) hg (List.range t) a w0 (fun i hi => List.mem_range.1 hi) h1
    refine mix_mono (fun a' w' hq => ?_) _ _ _ h2
    obtain ⟨l', g1, g2, g3⟩ := hq
    refine ⟨⟨g3, trivial⟩, ?_⟩
    have h3 := g2.run a' w' w g1 rfl g3
    have e : opsOf (Code.region id ops true) = ops.toList := rfl
    rw [e] at h3
    exact h3
  have := region_drawnT (P := P) (id := id) (l := ops.toList) (E := effB ops.toList) (Q := lift n Q w) (C := fun w' => Oth w w' ∧ Ch w'.heap) (D := fun w' => Oth w w' ∧ True) hm hok ht' (a := a) (w := w) ⟨⟨rfl, rfl, rfl⟩, by rw [← hw] at hC; exact hC⟩ (key { w with drawn := w.drawn + 1 } rfl ⟨rfl, rfl, rfl⟩)
  simpa using this
end rules
end Go.Den


namespace Go.Proofs.YtfcmdefigldpnaaGreatDoor
set_option linter.unusedVariables false
set_option maxRecDepth 8000
open Go Go.Den Go.RowKit Go.Dig

theorem fin0 {P : Program} {n : Nat} {fn : Func} {R : Value → Hp → Prop} {l : Fr} {h : Hp} (hr : fn.results = #[]) (k : R (.tuple #[]) h) : At (Den.Fin P n fn R) .normal l h :=
  ⟨⟨.tuple #[], fun a w hf _ => by simp [results, hr], k⟩⟩

def timesN (V P r q back : Nat) : Nat := mulm (subm r (V % q) q) back q

theorem Tryz_ent162 : Ent Tryz.prog 162 := ent_of Tryz.func162 (by kernel_rfl) rfl
set_option maxHeartbeats 1000000 in
theorem gadd_spec (g vV vP : Value) (xsV xsP : List Nat) (r q : Nat) (h : Hp) (G : Var h g 216 [vV, vP]) (sV : SlF h U vV xsV) (sP : SlF h U vP xsP) (aV : Al 18446744073709551616 xsV) (aP : Al 18446744073709551616 xsP) (lV : xsV.length < 1000000) (lP : xsP.length < 1000000)
    (hPg : vP.ownBlock = none ∨ vP.ownBlock ≠ pblk g) (hr : r < 18446744073709551616) (hq0 : 0 < q) (hq : q < 18446744073709551616) :
    CallsH Tryz.prog 162 [g, U r, U q] h fun v' h' => Only (pblk g) h h' ∧ ∃ back ok vV' vP', InvIs (vl 18446744073709551616 xsP % q) q back ok ∧ Var h' g 216 [vV', vP'] ∧
      OwnF h' h.size 26 U vV' (dg 18446744073709551616 (vl 18446744073709551616 xsV + vl 18446744073709551616 xsP * timesN (vl 18446744073709551616 xsV) (vl 18446744073709551616 xsP) r q back)) ∧ OwnF h' h.size 26 U vP' (dg 18446744073709551616 (vl 18446744073709551616 xsP * q)) := by
  have hqn : ¬ q = 0 := by omega
  obtain ⟨gb, hgb, hgl⟩ := G.blk
  (apply enter Tryz.func162 rfl Tryz.ntmps162 rfl)
  refine runJ ?_
  apply (s_call Tryz_ent65 rfl rfl rfl)
  refine (mod_spec vV xsV q h sV aV (by omega) hq).mono ?_
  rintro _ h1 ⟨rfl, e1⟩
  refine ⟨(by first | exact trivial | exact trivial), ?_⟩
  have G1 := G.ext e1
  refine runJ ?_
  apply (s_call Tryz_ent65 rfl rfl rfl)
  refine (mod_spec vP xsP q h1 (sP.ext e1) aP (by omega) hq).mono ?_
  rintro _ h2 ⟨rfl, e2⟩
  refine ⟨(by first | exact trivial | exact trivial), ?_⟩
  simp only [hqn, if_false]
  have G2 := G1.ext e2
  have e12 := e1.trans e2
  generalize hV : vl 18446744073709551616 xsV = V at *
  generalize hP : vl 18446744073709551616 xsP = P at *
  have hVq : V % q < q := Nat.mod_lt _ hq0
  have hPq : P % q < q := Nat.mod_lt _ hq0
  refine runJ ?_
  apply (s_call Tryz_ent171 rfl rfl rfl)
  refine (inv_spec _ q h2 (by omega) hq).mono ?_
  rintro _ _ ⟨⟨back, ok, rfl, hI⟩, rfl⟩
  refine ⟨(by first | exact trivial | exact trivial), ?_⟩
  have hb : back < 18446744073709551616 := by
    cases ok with
    | true => have := (hI.1 rfl).2.2.1; omega
    | false => have := (hI.2 rfl).2; omega
  have hs1 : subm r (V % q) q < q := subm_lt hq0
  have ht1 : timesN V P r q back < q := mulm_lt hq0
  have htd : timesN V P r q back = mulm (subm r (V % q) q) back q := rfl
  refine runJ ?_
  apply (s_call Tryz_ent66 rfl rfl rfl)
  refine (sub_spec r _ q h2 hr (by omega) hq).mono ?_
  rintro _ _ ⟨rfl, rfl⟩
  refine ⟨(by first | exact trivial | exact Ext.refl _ | assumption | exact Ext.trans (by assumption) (by assumption)), ?_⟩
  refine runJ ?_
  apply (s_call Tryz_ent155 rfl rfl rfl)
  refine (mul_spec _ back q h2 (by omega) hb hq).mono ?_
  rintro _ _ ⟨rfl, rfl⟩
  refine ⟨(by first | exact trivial | exact Ext.refl _ | assumption | exact Ext.trans (by assumption) (by assumption)), ?_⟩
  rw [← htd]
  generalize htm : timesN V P r q back = times at *
  have hdl : (dg 18446744073709551616 times).length ≤ 1 := dg_len (by decide) (by omega)
  have hdl2 : (dg 18446744073709551616 q).length ≤ 1 := dg_len (by decide) (by omega)
  have b64 : (1 : Nat) < 18446744073709551616 := by decide
  have b640 : (0 : Nat) < 18446744073709551616 := by decide
  have sV2 := sV.ext e12
  have sP2 := sP.ext e12
  refine runJN ?_
  (apply (r_drawnT 15 (Ext h2)); exact rfl; exact mixed; kernel_rfl; exact rfl; first | exact Ext.refl _ | exact Only.refl _ _)
  refine runJ ?_
  apply (s_call Tryz_ent64 rfl rfl rfl)
  refine (of_spec times h2 (by omega)).mono ?_
  rintro w1 h3 ⟨e3, o3⟩
  refine ⟨(by first | exact trivial | exact e3), ?_⟩
  refine runJ ?_
  apply (s_call Tryz_ent122 rfl rfl rfl)
  refine (nmul_spec vP w1 xsP _ h3 (sP2.ext e3) o3.sl aP (al_dg b640 _) (by omega) (by omega)).mono ?_
  rintro w2 h4 ⟨e4, o4⟩
  refine ⟨(by first | exact trivial | exact (e3.trans e4)), ?_⟩
  rw [vl_dg b64, hP] at o4
  have e34 := e3.trans e4
  have hlw : (dg 18446744073709551616 (P * times)).length < 1099511627776 := by
    have h1 := dg_len (b := 18446744073709551616) (n := P * times) (k := xsP.length + 1) (by decide) (by
      rw [Nat.pow_succ]
      have h2 := vl_lt aP
      rw [hP] at h2
      exact Nat.mul_lt_mul_of_lt_of_lt h2 (by omega))
    omega
  refine runJ ?_
  apply (s_call Tryz_ent124 rfl rfl rfl)
  refine (nadd_spec vV w2 xsV _ h4 (sV2.ext e34) o4.sl aV (al_dg b640 _) (by omega) hlw).mono ?_
  rintro vV' h5 ⟨e5, o5⟩
  refine ⟨(by first | exact trivial | exact (e34.trans e5)), ?_⟩
  rw [vl_dg b64, hV] at o5
  have e25 := e34.trans e5
  have G5 := G2.ext e25
  refine runJ ?_
  apply tail_end
  refine runJ ?_
  (apply s_storeC; exact rfl; exact rfl; (first | exact rfl | exact SlF.one (by assumption) | exact SlF.one (OwnF.sl (by assumption)) | exact Var.one (by assumption)); exact rfl; exact rfl; exact G5; exact rfl)
  intro h6 G6 k6
  refine ⟨(by first | exact trivial | exact Ext.refl _ | assumption | exact Ext.only (by assumption) _ | exact Only.trans (Ext.only (by assumption) _) (by assumption)), ?_⟩
  have G6 : Var h6 g 216 [vV', vP] := G6
  have hne5 : vV'.ownBlock = none ∨ vV'.ownBlock ≠ pblk g := o5.neV hgb (Nat.lt_of_lt_of_le hgl (Nat.le_trans (Nat.le_trans e12.1 e3.1) e4.1))
  have o6 := o5.only k6 hne5
  have K6 : Only (pblk g) h h6 := ((e12.trans e25).only _).trans k6
  have sP5 := sP2.ext e25
  have hsp : vP.ownBlock = none ∨ vP.ownBlock ≠ pblk g := hPg
  have sP6 := sP5.only k6 hsp
  refine runJN ?_
  (apply (r_drawnT 10 (Ext h6)); exact rfl; exact mixed; kernel_rfl; exact rfl; first | exact Ext.refl _ | exact Only.refl _ _)
  refine runJ ?_
  apply (s_call Tryz_ent64 rfl rfl rfl)
  refine (of_spec q h6 hq).mono ?_
  rintro w3 h7 ⟨e7, o7⟩
  refine ⟨(by first | exact trivial | exact e7), ?_⟩
  refine runJ ?_
  apply (s_call Tryz_ent122 rfl rfl rfl)
  refine (nmul_spec vP w3 xsP _ h7 (sP6.ext e7) o7.sl aP (al_dg b640 _) (by omega) (by omega)).mono ?_
  rintro vP' h8 ⟨e8, o8⟩
  refine ⟨(by first | exact trivial | exact (e7.trans e8)), ?_⟩
  rw [vl_dg b64, hP] at o8
  have e68 := e7.trans e8
  have G8 := G6.ext e68
  refine runJ ?_
  apply tail_end
  refine runJ ?_
  (apply s_storeC; exact rfl; exact rfl; (first | exact rfl | exact SlF.one (by assumption) | exact SlF.one (OwnF.sl (by assumption)) | exact Var.one (by assumption)); exact rfl; exact rfl; exact G8; exact rfl)
  intro h9 G9 k9
  refine ⟨(by first | exact trivial | exact Ext.refl _ | assumption | exact Ext.only (by assumption) _ | exact Only.trans (Ext.only (by assumption) _) (by assumption)), ?_⟩
  have G9 : Var h9 g 216 [vV', vP'] := G9
  have hle6 : h.size ≤ h6.size := K6.1
  have hne8 : vP'.ownBlock = none ∨ vP'.ownBlock ≠ pblk g := o8.neV hgb (Nat.lt_of_lt_of_le hgl (Nat.le_trans hle6 e7.1))
  have o9 := o8.only k9 hne8
  have o6' := (o6.ext e68).only k9 hne5
  have K9 : Only (pblk g) h h9 := (K6.trans (e68.only _)).trans k9
  refine runJ ?_
  exact fin0 rfl ⟨K9, back, ok, vV', vP', hI, G9, by rw [htm]; exact o6'.base (Nat.le_trans e12.1 (Nat.le_trans e3.1 e4.1)), o9.base (Nat.le_trans hle6 e7.1)⟩

theorem Tryz_ent163 : Ent Tryz.prog 163 := ent_of Tryz.func163 (by kernel_rfl) rfl
theorem Tryz_ent121 : Ent Tryz.prog 121 := ent_of Tryz.func121 (by kernel_rfl) rfl
end Go.Proofs.YtfcmdefigldpnaaGreatDoor


namespace Go.Proofs.YtfcmdefigldpnaaGreatDoor
set_option linter.unusedVariables false
set_option maxRecDepth 8000
open Go Go.Den Go.RowKit Go.Dig

theorem Tryz_ent23 : Ent Tryz.prog 23 := ent_of Tryz.func23 (by kernel_rfl) rfl
theorem sameU_spec (va vb : Value) (xs ys : List Nat) (h : Hp) (ha : SlF h U va xs) (hb : SlF h U vb ys) (hl : xs.length < 4611686018427387904) (hl2 : ys.length < 4611686018427387904) :
    CallsH Tryz.prog 23 [va, vb] h fun v' h' => v' = .bool (decide (xs = ys)) ∧ h = h' := by
  (apply enter Tryz.func23 rfl Tryz.ntmps23 rfl)
  refine runJ ?_
  (apply w_condD; exact rfl; exact rfl) <;> intro hne
  · refine runJ ?_
    exact fin1 rfl rfl ⟨dec_f (fun e => hne (by rw [e])), rfl⟩
  have hle : xs.length = ys.length := by omega
  refine runJ ?_
  (first | (apply w_seqB; exact rfl; apply w_block; exact rfl) | skip)
  apply (w_loop (σ := Nat) rfl (fun j => [(0, va), (1, vb), (12, N xs.length), (13, N j)])
    (fun j h' => h = h' ∧ j ≤ xs.length ∧ ∀ (i : Nat) (x y : Nat), i < j → xs[i]? = some x → ys[i]? = some y → x = y) (fun j => xs.length - j) 0)
  · exact (Sub.cons rfl (Sub.cons rfl (Sub.cons rfl (Sub.cons rfl (Sub.nil _)))))
  · exact ⟨rfl, Nat.zero_le _, fun i x y hi => by omega⟩
  rintro j h' ⟨rfl, j1, j2⟩
  refine runJ ?_
  (apply w_condD; exact rfl; exact rfl) <;> intro hj
  · obtain ⟨x, hx⟩ := get_lt hj
    obtain ⟨y, hy⟩ := get_lt (l := ys) (j := j) (by omega)
    refine runJ ?_
    (apply w_condD; exact rfl; exact rfl) <;> intro hd
    · refine runJ ?_
      exact fin1 rfl rfl ⟨dec_f (list_ne hx hy hd), rfl⟩
    · refine runJ ?_
      apply again_normal (j + 1)
      · exact (Sub.cons rfl (Sub.cons rfl (Sub.cons rfl (Sub.cons rfl (Sub.nil _)))))
      · refine ⟨rfl, hj, fun i x' y' hi hx' hy' => ?_⟩
        rcases Nat.lt_succ_iff_lt_or_eq.1 hi with hi | rfl
        · exact j2 i x' y' hi hx' hy'
        · rw [hx] at hx'; rw [hy] at hy'; cases hx'; cases hy'; exact Decidable.of_not_not hd
      · omega
  · refine runJ ?_
    exact fin1 rfl rfl ⟨dec_t (list_eq hle fun i x y hx hy => j2 i x y (by have := (List.getElem?_eq_some_iff.1 hx).1; omega) hx hy), rfl⟩

end Go.Proofs.YtfcmdefigldpnaaGreatDoor


namespace Go.Proofs.YtfcmdefigldpnaaGreatDoor
set_option linter.unusedVariables false
set_option maxRecDepth 8000
open Go Go.Den Go.RowKit Go.Dig

/-- Parameters as they lie. -/
structure ParD where mk ::
  n : Int
  t : Nat
  vq : Value
  q : List Nat
  w : Int
abbrev ParD.cells (p : ParD) : List Value := [I p.n, U p.t, p.vq, I p.w]
structure ParAt (h : Hp) (p : ParD) : Prop where mk ::
  row : SlF h U p.vq p.q
  al : Al 18446744073709551616 p.q
  t64 : p.t < 18446744073709551616
  ln : p.q.length ≤ 4611686018427387904
theorem ParAt.ext {h h' : Hp} {p : ParD} (s : ParAt h p) (e : Ext h h') : ParAt h' p := ⟨s.row.ext e, s.al, s.t64, s.ln⟩

def rowP (n : Int) : Prop := n = 8 ∨ n = 16 ∨ n = 32 ∨ n = 64 ∨ n = 128 ∨ n = 256
instance (n : Int) : Decidable (rowP n) := by unfold rowP; exact inferInstance
def rowF (n : Int) : Nat := if rowP n then 420 else if n = 1024 then 27 else if n = 2048 then 54 else if n = 4096 then 109 else 0
theorem and_pow : ∀ n : Nat, n < 257 → 8 ≤ n → (n &&& (n - 1) = 0 ↔ (n = 8 ∨ n = 16 ∨ n = 32 ∨ n = 64 ∨ n = 128 ∨ n = 256)) := by decide +kernel
theorem rowF_pos {n : Int} (h : 0 < rowF n) : 8 ≤ n ∧ n ≤ 4096 := by
  unfold rowF at h
  by_cases h1 : rowP n
  · unfold rowP at h1; omega
  rw [if_neg h1] at h
  by_cases h2 : n = 1024
  · omega
  rw [if_neg h2] at h
  by_cases h3 : n = 2048
  · omega
  rw [if_neg h3] at h
  by_cases h4 : n = 4096
  · omega
  rw [if_neg h4] at h
  omega

theorem Tryz_ent147 : Ent Tryz.prog 147 := ent_of Tryz.func147 (by kernel_rfl) rfl
theorem row_spec (n : Int) (h : Hp) : CallsH Tryz.prog 147 [I n] h fun v' h' => v' = N (rowF n) ∧ h = h' := by
  (apply enter Tryz.func147 rfl Tryz.ntmps147 rfl)
  refine runJ ?_
  refine s_tcut (σ := Unit) (fun _ => [(0, I n), (3, .bool (decide (rowP n)))]) (fun _ h' => h = h') ?_ ?_
  · (apply s_splitG; exact rfl; exact rfl; exact rfl; exact rfl) <;> intro g1
    · refine runJ ?_
      (apply s_splitG; exact rfl; exact rfl; exact rfl; exact rfl) <;> intro g2
      · obtain ⟨m, rfl⟩ : ∃ m : Nat, n = (m : Int) := ⟨n.toNat, by omega⟩
        have hk := and_pow m (by omega) (by omega)
        refine runJ ?_
        apply cut_normal ()
        · exact Sub.cons rfl (Sub.consE rfl (dec_i (by unfold rowP; omega)) (Sub.nil _))
        · exact rfl
      · refine runJ ?_
        apply cut_normal ()
        · exact Sub.cons rfl (Sub.consE rfl (dec_f (by unfold rowP; omega)) (Sub.nil _))
        · exact rfl
    · refine runJ ?_
      apply cut_normal ()
      · exact Sub.cons rfl (Sub.consE rfl (dec_f (by unfold rowP; omega)) (Sub.nil _))
      · exact rfl
  rintro _ _ rfl
  (apply w_condD; exact rfl; exact rfl) <;> intro h0
  · refine runJ ?_
    exact fin1 rfl rfl ⟨by unfold rowF; rw [if_pos h0], rfl⟩
  refine runJ ?_
  (apply w_condD; exact rfl; exact rfl) <;> intro h1
  · refine runJ ?_
    exact fin1 rfl rfl ⟨by unfold rowF; rw [if_neg h0, if_pos h1], rfl⟩
  refine runJ ?_
  (apply w_condD; exact rfl; exact rfl) <;> intro h2
  · refine runJ ?_
    exact fin1 rfl rfl ⟨by unfold rowF; rw [if_neg h0, if_neg h1, if_pos h2], rfl⟩
  refine runJ ?_
  (apply w_condD; exact rfl; exact rfl) <;> intro h3
  · refine runJ ?_
    exact fin1 rfl rfl ⟨by unfold rowF; rw [if_neg h0, if_neg h1, if_neg h2, if_pos h3], rfl⟩
  refine runJ ?_
  exact fin1 rfl rfl ⟨by unfold rowF; rw [if_neg h0, if_neg h1, if_neg h2, if_neg h3], rfl⟩

theorem Tryz_ent52 : Ent Tryz.prog 52 := ent_of Tryz.func52 (by kernel_rfl) rfl
theorem top_spec (p : ParD) (h : Hp) (A : ParAt h p) : CallsH Tryz.prog 52 [.agg p.cells.toArray] h fun v' h' => v' = I ((p.q.length : Int) - 1) ∧ Ext h h' := by
  have hl := A.ln
  unfold ParD.cells
  (apply enter Tryz.func52 rfl Tryz.ntmps52 rfl)
  refine runJ ?_
  (apply s_box; exact rfl; exact rfl; exact rfl; exact rfl)
  intro p1 h1 x1 e1 b1
  (try dsimp only [Value.cells, List.toList_toArray] at x1)
  refine ⟨(by first | exact trivial | exact Ext.refl _ | assumption | exact Ext.trans (by assumption) (by assumption)), ?_⟩
  have s1 := A.row.ext e1
  refine runJ ?_
  exact fin1 rfl rfl ⟨rfl, e1⟩

def sizedP (p : ParD) : Prop := 0 < rowF p.n ∧ 1 ≤ p.w ∧ p.w ≤ 16
instance (p : ParD) : Decidable (sizedP p) := by unfold sizedP; exact inferInstance
def frP (n : Int) (q : Nat) : Prop := q % (2 * n.toNat) = 1 ∧ isB q = true
instance (n : Int) (q : Nat) : Decidable (frP n q) := by unfold frP; exact inferInstance
def plainP (p : ParD) : Prop := p.t < 1073741824 ∧ frP p.n p.t
instance (p : ParD) : Decidable (plainP p) := by unfold plainP; exact inferInstance
def primesP (p : ParD) : Prop := (∀ q ∈ p.q, q < 1125899906842624 ∧ q ≠ p.t ∧ frP p.n q) ∧ p.q.Nodup ∧ 0 < p.q.length ∧ p.q.length ≤ 8
instance (p : ParD) : Decidable (primesP p) := by unfold primesP; exact inferInstance
def shortP (p : ParD) : Prop := nb (prodL p.q) ≤ rowF p.n
instance (p : ParD) : Decidable (shortP p) := by unfold shortP; exact inferInstance
def parP (p : ParD) : Prop := sizedP p ∧ plainP p ∧ primesP p ∧ shortP p
instance (p : ParD) : Decidable (parP p) := by unfold parP; exact inferInstance

theorem Tryz_ent97 : Ent Tryz.prog 97 := ent_of Tryz.func97 (by kernel_rfl) rfl
theorem sized_spec (p : ParD) (h : Hp) : CallsH Tryz.prog 97 [.agg p.cells.toArray] h fun v' h' => v' = .bool (decide (sizedP p)) ∧ Ext h h' := by
  unfold ParD.cells
  (apply enter Tryz.func97 rfl Tryz.ntmps97 rfl)
  refine runJ ?_
  (apply s_box; exact rfl; exact rfl; exact rfl; exact rfl)
  intro p1 h1 x1 e1 b1
  (try dsimp only [Value.cells, List.toList_toArray] at x1)
  refine ⟨(by first | exact trivial | exact Ext.refl _ | assumption | exact Ext.trans (by assumption) (by assumption)), ?_⟩
  refine runJ ?_
  apply (s_call Tryz_ent147 rfl rfl rfl)
  refine (row_spec p.n h1).mono ?_
  rintro _ _ ⟨rfl, rfl⟩
  refine ⟨(by first | exact trivial | exact trivial), ?_⟩
  refine runJ ?_
  (apply s_splitG; exact rfl; exact rfl; exact rfl; exact rfl) <;> intro g1
  · refine runJ ?_
    (apply s_splitG; exact rfl; exact rfl; exact rfl; exact rfl) <;> intro g2
    · refine runJ ?_
      exact fin1 rfl rfl ⟨dec_i (by unfold sizedP; omega), e1⟩
    · refine runJ ?_
      exact fin1 rfl rfl ⟨dec_f (by unfold sizedP; omega), e1⟩
  · refine runJ ?_
    exact fin1 rfl rfl ⟨dec_f (by unfold sizedP; omega), e1⟩

theorem Tryz_ent148 : Ent Tryz.prog 148 := ent_of Tryz.func148 (by kernel_rfl) rfl
theorem friendly_spec (p : ParD) (q : Nat) (h : Hp) (T : TB h) (hn : 8 ≤ p.n ∧ p.n ≤ 4096) (hq : q < 18446744073709551616) :
    CallsH Tryz.prog 148 [.agg p.cells.toArray, U q] h fun v' h' => v' = .bool (decide (frP p.n q)) ∧ Ext h h' := by
  obtain ⟨n, t, vq, row, w⟩ := p
  obtain ⟨m, rfl⟩ : ∃ m : Nat, n = (m : Int) := ⟨n.toNat, by dsimp only at hn; omega⟩
  dsimp only at hn
  have hm : ¬ 2 * m = 0 := by omega
  unfold ParD.cells
  (apply enter Tryz.func148 rfl Tryz.ntmps148 rfl)
  refine runJ ?_
  (apply s_box; exact rfl; exact rfl; exact rfl; exact rfl)
  intro p1 h1 x1 e1 b1
  (try dsimp only [Value.cells, List.toList_toArray] at x1)
  refine ⟨(by first | exact trivial | exact Ext.refl _ | assumption | exact Ext.trans (by assumption) (by assumption)), ?_⟩
  refine runJ ?_
  (apply s_splitG; exact rfl; exact rfl; exact rfl; exact rfl) <;> intro g1
  · refine runJ ?_
    apply (s_call Tryz_ent161 rfl rfl rfl)
    refine (is_spec q h1 (T.ext e1) hq).mono ?_
    rintro _ h2 ⟨rfl, e2⟩
    refine ⟨(by first | exact trivial | exact trivial), ?_⟩
    refine runJ ?_
    exact fin1 rfl rfl ⟨by congr 1; unfold frP; simp [g1], e1.trans e2⟩
  · refine runJ ?_
    exact fin1 rfl rfl ⟨dec_f fun k => g1 k.1, e1⟩

theorem Tryz_ent98 : Ent Tryz.prog 98 := ent_of Tryz.func98 (by kernel_rfl) rfl
theorem plain_spec (p : ParD) (h : Hp) (T : TB h) (hn : 8 ≤ p.n ∧ p.n ≤ 4096) (ht : p.t < 18446744073709551616) :
    CallsH Tryz.prog 98 [.agg p.cells.toArray] h fun v' h' => v' = .bool (decide (plainP p)) ∧ Ext h h' := by
  have F := fun h T => friendly_spec p p.t h T hn ht
  unfold ParD.cells at F ⊢
  (apply enter Tryz.func98 rfl Tryz.ntmps98 rfl)
  refine runJ ?_
  (apply s_box; exact rfl; exact rfl; exact rfl; exact rfl)
  intro p1 h1 x1 e1 b1
  (try dsimp only [Value.cells, List.toList_toArray] at x1)
  refine ⟨(by first | exact trivial | exact Ext.refl _ | assumption | exact Ext.trans (by assumption) (by assumption)), ?_⟩
  refine runJ ?_
  (apply s_splitG; exact rfl; exact rfl; exact rfl; exact rfl) <;> intro g1
  · refine runJ ?_
    apply (s_call Tryz_ent148 rfl rfl rfl)
    refine (F h1 (T.ext e1)).mono ?_
    rintro _ h2 ⟨rfl, e2⟩
    refine ⟨(by first | exact trivial | exact trivial), ?_⟩
    refine runJ ?_
    exact fin1 rfl rfl ⟨dec_i (by unfold plainP; exact ⟨fun k => ⟨g1, k⟩, fun k => k.2⟩), e1.trans e2⟩
  · refine runJ ?_
    exact fin1 rfl rfl ⟨dec_f fun k => g1 k.1, e1⟩

theorem Tryz_ent99 : Ent Tryz.prog 99 := ent_of Tryz.func99 (by kernel_rfl) rfl
set_option maxHeartbeats 1000000 in
theorem primes_spec (p : ParD) (h : Hp) (T : TB h) (A : ParAt h p) (hn : 8 ≤ p.n ∧ p.n ≤ 4096) :
    CallsH Tryz.prog 99 [.agg p.cells.toArray] h fun v' h' => v' = .bool (decide (primesP p)) ∧ Ext h h' := by
  have F := fun q hq h T => friendly_spec p q h T hn hq
  have hl := A.ln
  have ht := A.t64
  unfold ParD.cells at F ⊢
  (apply enter Tryz.func99 rfl Tryz.ntmps99 rfl)
  refine runJ ?_
  (apply s_box; exact rfl; exact rfl; exact rfl; exact rfl)
  intro p1 h1 x1 e1 b1
  (try dsimp only [Value.cells, List.toList_toArray] at x1)
  refine ⟨(by first | exact trivial | exact Ext.refl _ | assumption | exact Ext.trans (by assumption) (by assumption)), ?_⟩
  have s1 := A.row.ext e1
  refine runJ ?_
  (first | (apply w_seqB; exact rfl; apply w_block; exact rfl) | skip)
  apply (w_loop (σ := Nat) rfl (fun j => [(1, p1), (7, p.vq), (8, N p.q.length), (9, N j)])
    (fun j h' => Ext h1 h' ∧ j ≤ p.q.length ∧ (∀ q ∈ p.q.take j, q < 1125899906842624 ∧ q ≠ p.t ∧ frP p.n q) ∧ (p.q.take j).Nodup) (fun j => p.q.length - j) 0)
  · exact (Sub.cons rfl (Sub.cons rfl (Sub.cons rfl (Sub.cons rfl (Sub.nil _)))))
  · exact ⟨Ext.refl _, Nat.zero_le _, by simp, by simp⟩
  rintro j h2 ⟨e2, j1, j2, j3⟩
  have s2 := s1.ext e2
  have x2 := x1.ext e2
  refine runJ ?_
  (apply w_condD; exact rfl; exact rfl) <;> intro hj
  · obtain ⟨q, hq⟩ := get_lt hj
    have hqm := List.mem_of_getElem? hq
    have hq64 := A.al q hqm
    have c1 := s2.cut (lo := 0) (hi := j) (Nat.zero_le _) j1
    rw [List.drop_zero, Nat.sub_zero] at c1
    have hll : (p.q.take j).length < 4611686018427387904 := by rw [List.length_take]; omega
    refine runJ ?_
    (apply s_splitG; exact rfl; exact rfl; exact rfl; exact rfl) <;> intro g1
    · refine runJ ?_
      exact fin1 rfl rfl ⟨dec_f fun k => by have := (k.1 q hqm).1; omega, e1.trans e2⟩
    refine runJ ?_
    (apply s_splitG; exact rfl; exact rfl; exact rfl; exact rfl) <;> intro g2
    · refine runJ ?_
      exact fin1 rfl rfl ⟨dec_f fun k => (k.1 q hqm).2.1 g2, e1.trans e2⟩
    refine runJ ?_
    apply (s_call Tryz_ent129 rfl rfl rfl)
    refine (contains_spec _ (p.q.take j) q h2 c1 hll).mono ?_
    rintro _ _ ⟨rfl, rfl⟩
    refine ⟨(by first | exact trivial | exact trivial), ?_⟩
    refine runJ ?_
    (apply s_splitG; exact rfl; exact rfl; exact rfl; exact rfl) <;> intro g3
    · refine runJ ?_
      exact fin1 rfl rfl ⟨dec_f fun k => not_nodup_at hq g3 k.2.1, e1.trans e2⟩
    refine runJ ?_
    apply (s_call Tryz_ent148 rfl rfl rfl)
    refine (F q hq64 h2 (T.ext (e1.trans e2))).mono ?_
    rintro _ h3 ⟨rfl, e3⟩
    refine ⟨(by first | exact trivial | exact trivial), ?_⟩
    refine runJ ?_
    (apply w_cond; exact rfl; exact rfl) <;> intro g4
    · have g4 : ¬ frP p.n q := by simpa using g4
      refine runJ ?_
      exact fin1 rfl rfl ⟨dec_f fun k => g4 (k.1 q hqm).2.2, (e1.trans e2).trans e3⟩
    · have g4 : frP p.n q := by simpa using g4
      refine runJ ?_
      apply again_normal (j + 1)
      · exact (Sub.cons rfl (Sub.cons rfl (Sub.cons rfl (Sub.cons rfl (Sub.nil _)))))
      · refine ⟨e2.trans e3, hj, ?_, ?_⟩
        · rw [take_snoc hq]
          intro y hy
          rcases List.mem_append.1 hy with hy | hy
          · exact j2 y hy
          · simp only [List.mem_singleton] at hy; subst hy; exact ⟨by omega, g2, g4⟩
        · rw [take_snoc hq]; exact nodup_snoc j3 g3
      · omega
  · rw [List.take_of_length_le (by omega)] at j2 j3
    refine runJ ?_
    (apply s_splitG; exact rfl; exact rfl; exact rfl; exact rfl) <;> intro g1
    · refine runJ ?_
      exact fin1 rfl rfl ⟨dec_i ⟨fun k => ⟨j2, j3, by omega, by omega⟩, fun k => by have := k.2.2; omega⟩, e1.trans e2⟩
    · refine runJ ?_
      exact fin1 rfl rfl ⟨dec_f fun k => by have := k.2.2; omega, e1.trans e2⟩

theorem Tryz_ent100 : Ent Tryz.prog 100 := ent_of Tryz.func100 (by kernel_rfl) rfl
theorem short_spec (p : ParD) (h : Hp) (A : ParAt h p) (h0 : 0 < p.q.length) (h8 : p.q.length ≤ 8) :
    CallsH Tryz.prog 100 [.agg p.cells.toArray] h fun v' h' => v' = .bool (decide (shortP p)) ∧ Ext h h' := by
  have hne : p.q ≠ [] := by intro e; rw [e] at h0; simp at h0
  have F := fun h s => product_spec p.vq p.q h s A.al (by omega)
  simp only [hne, if_false] at F
  have hdl : (dg 18446744073709551616 (prodL p.q)).length < 1099511627776 := by
    have := dg_len (b := 18446744073709551616) (n := prodL p.q) (k := p.q.length + 1) (by decide) (prodL_lt A.al)
    omega
  unfold ParD.cells
  (apply enter Tryz.func100 rfl Tryz.ntmps100 rfl)
  refine runJ ?_
  (apply s_box; exact rfl; exact rfl; exact rfl; exact rfl)
  intro p1 h1 x1 e1 b1
  (try dsimp only [Value.cells, List.toList_toArray] at x1)
  refine ⟨(by first | exact trivial | exact Ext.refl _ | assumption | exact Ext.trans (by assumption) (by assumption)), ?_⟩
  have s1 := A.row.ext e1
  refine runJ ?_
  apply (s_call Tryz_ent61 rfl rfl rfl)
  refine (F h1 s1).mono ?_
  rintro w1 h2 ⟨e2, o2⟩
  refine ⟨(by first | exact trivial | exact e2), ?_⟩
  have B := bits_spec w1 _ h2 o2.sl (al_dg (by decide) _) hdl
  rw [vl_dg (by decide)] at B
  have x2 := x1.ext e2
  refine runJ ?_
  apply (s_call Tryz_ent149 rfl rfl rfl)
  refine (B).mono ?_
  rintro _ _ ⟨rfl, rfl⟩
  refine ⟨(by first | exact trivial | exact e2), ?_⟩
  refine runJ ?_
  apply (s_call Tryz_ent147 rfl rfl rfl)
  refine (row_spec p.n h2).mono ?_
  rintro _ _ ⟨rfl, rfl⟩
  refine ⟨(by first | exact trivial | exact e2), ?_⟩
  refine runJ ?_
  exact fin1 rfl rfl ⟨rfl, e1.trans e2⟩
end Go.Proofs.YtfcmdefigldpnaaGreatDoor

