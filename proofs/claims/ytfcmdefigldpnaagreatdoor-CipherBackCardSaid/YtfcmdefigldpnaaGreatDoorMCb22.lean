/- Texts DenO to KeyM of this work, joined, without what the law does not lean on. -/
import Derived.Test.YtfcmdefigldpnaaGreatDoorMCb21
namespace Go.Den
set_option linter.unusedVariables false
set_option maxRecDepth 8000
open Go Go.RowKit

structure SK (P : Program) (n : Nat) (ops : List Oper) (Ch : Hp → Prop) (E F : Nat → Bool) (K : Hp → Hp → Prop) (Φ : Nat → Value → Hp → Prop) (Q : Post) (i : Nat) (D : Hp → Prop) (fl : List (Nat × Value)) (l : Fr) : Prop where mk ::
  run : ∀ a w0, Fits l n a → MixK P ops.toArray (fun w' => Oth w0 w' ∧ Ch w'.heap) E F (fun w w' => Oth w w' ∧ K w.heap w'.heap) (fun w w' => Oth w w' ∧ Ext w.heap w'.heap) (fun i v w => Φ i v w.heap) (ancB ops)
    (fun a w' => lift n Q w0 .normal a w') (List.range' i (ops.length - i)) (fun w' => D w'.heap) fl a

section rules
variable {P : Program} {n : Nat} {Q : Post} {l : Fr} {ops : List Oper} {Ch : Hp → Prop} {E F : Nat → Bool} {K : Hp → Hp → Prop} {Φ : Nat → Value → Hp → Prop} {i : Nat} {D : Hp → Prop} {fl : List (Nat × Value)}

theorem k_done (hk : opAt ops i = none) (k : ∀ h, Ch h → D h → (∀ p ∈ fl, Φ p.1 p.2 h) → At Q .normal l h) : SK P n ops Ch E F K Φ Q i D fl l := SK.mk fun a w0 hf => by
  rw [opAt_eq, List.getElem?_eq_none_iff] at hk
  rw [Nat.sub_eq_zero_of_le hk]
  exact fun w hC hD hT => ⟨l, hf, (k w.heap hC.2 hD hT).get, hC.1⟩

theorem k_float {o : Oper} (ho : opAt ops i = some o) (hF : F i = true) (hg : gd ops l o.guard = some true)
    (hx : ∀ a w h, Fits l n a → w.heap = h → Ch h → (∀ p ∈ fl, ancB ops i p.1 = true → Φ p.1 p.2 h) → Eff P o a w fun v w' => Oth w w' ∧ Ext h w'.heap ∧ Ch w'.heap ∧ Φ i v w'.heap)
    (hl : ∀ a v, Fits l n a → ∃ l', Fits l' n (a.put o.dst v) ∧ SK P n ops Ch E F K Φ Q (i + 1) D ((i, v) :: fl) l') : SK P n ops Ch E F K Φ Q i D fl l := SK.mk fun a w0 hf => by
  obtain ⟨h1, h2⟩ := s_step ho
  rw [h2]
  refine ⟨o, h1, .inr (.inl ⟨hF, gd_wanted hf hg, fun w hC hT => Eff_mono (fun v w' hk => ?_) (hx a w w.heap hf rfl hC.2 hT), fun v _ => ?_⟩)⟩
  · exact ⟨⟨hk.1, hk.2.1⟩, ⟨hC.1.trans hk.1, hk.2.2.1⟩, hk.2.2.2⟩
  · obtain ⟨l', g1, g2⟩ := hl a v hf
    exact g2.run _ w0 g1

theorem k_act {o : Oper} (ho : opAt ops i = some o) (hE : E i = true) (hg : gd ops l o.guard = some true)
    (k : ∀ h, Ch h → D h → (∀ p ∈ fl, Φ p.1 p.2 h) → ∀ a w, Fits l n a → w.heap = h → Eff P o a w fun v w' => Oth w w' ∧ Ch w'.heap ∧ ∃ D' l', (∀ h1 h2, D' h1 → Ext h1 h2 → D' h2) ∧ D' w'.heap ∧ Fits l' n (a.put o.dst v) ∧
      ((K h w'.heap ∧ SK P n ops Ch E F K Φ Q (i + 1) D' fl l') ∨ ((List.range' (i + 1) (ops.length - (i + 1))).all (fun i => !F i) = true ∧ SK P n ops Ch E F K Φ Q (i + 1) D' [] l'))) : SK P n ops Ch E F K Φ Q i D fl l := SK.mk fun a w0 hf => by
  obtain ⟨h1, h2⟩ := s_step ho
  rw [h2]
  refine ⟨o, h1, .inr (.inr ⟨hE, gd_wanted hf hg, fun w hC hD hT => Eff_mono (fun v w' hk => ?_) (k w.heap hC.2 hD hT a w hf rfl)⟩)⟩
  obtain ⟨g1, g2, D', l', g3, g4, g5, g6⟩ := hk
  refine ⟨⟨hC.1.trans g1, g2⟩, fun w' => D' w'.heap, fun w1 w2 x y => g3 _ _ x y.2, g4, ?_⟩
  rcases g6 with ⟨g6, g7⟩ | ⟨g6, g7⟩
  · exact .inl ⟨⟨g1, g6⟩, g7.run _ w0 g5⟩
  · exact .inr ⟨g6, g7.run _ w0 g5⟩

theorem wantedK_take {j : Nat} {o : Oper} (a : Act) (hg : (match o.guard with | none => true | some g => Nat.blt g.1 j) = true) : Wanted (ops.take j).toArray o a = Wanted ops.toArray o a := by
  unfold Wanted Region.wanted
  cases hq : o.guard with
  | none => rfl
  | some g =>
    obtain ⟨g, want⟩ := g
    rw [hq] at hg
    have hlt : g < j := Nat.le_of_ble_eq_true hg
    have e : (ops.take j)[g]? = ops[g]? := by rw [List.getElem?_take, if_pos hlt]
    simp only [yielded, List.getElem?_toArray, e]

theorem mixK_of_mix {C : World → Prop} {Ew Kw : World → World → Prop} {Φw : Nat → Value → World → Prop} {an : Nat → Nat → Bool} {Qm Qk : Act → World → Prop} {Dw : World → Prop} {j : Nat} (hg : (ops.take j).all (fun o => match o.guard with | none => true | some g => Nat.blt g.1 j) = true) {w : World} {rest : List Nat}
    (hrest : ∀ a', Qm a' w → MixK P ops.toArray C E F Kw Ew Φw an Qk rest Dw fl a') : ∀ (L : List Nat) (a : Act), (∀ k ∈ L, F k = false) →
    Mix P (ops.take j).toArray C (fun _ => false) Qm L a w → MixK P ops.toArray C E F Kw Ew Φw an Qk (L ++ rest) Dw fl a
  | [], a, _, h => hrest a h
  | i :: L, a, hF, h => by
    obtain ⟨o, ho, h⟩ := h
    have ho' : (ops.take j)[i]? = some o := by simpa using ho
    have hmem : o ∈ ops.take j := List.mem_of_getElem? ho'
    have hgo := List.all_eq_true.1 hg o hmem
    have hoo : ops.toArray[i]? = some o := by
      rw [List.getElem?_take] at ho'
      split at ho'
      · simpa using ho'
      · cases ho'
    rcases h with ⟨v, hv, k⟩ | ⟨hE, -, -⟩
    · refine ⟨o, hoo, .inl ⟨v, fun hf => (by rw [hF i (by simp)] at hf; cases hf), ?_, mixK_of_mix hg hrest L _ (fun k hk => hF k (by simp [hk])) k⟩⟩
      unfold Stab at hv ⊢
      rw [← wantedK_take a hgo]
      exact hv
    · cases hE

theorem k_run {j : Nat} (h : Hp) (hj : Nat.ble j ops.length = true) (hij : Nat.ble i j = true) (hg : (ops.take j).all (fun o => match o.guard with | none => true | some g => Nat.blt g.1 j) = true) (hF : (List.range' i (j - i)).all (fun k => !F k) = true)
    (k : S P n (ops.take j) Ch (fun _ => false) (fun e l' _ => e = .normal ∧ SK P n ops Ch E F K Φ Q j D fl l') i l h) : SK P n ops Ch E F K Φ Q i D fl l := SK.mk fun a w0 hf => by
  have hj := Nat.le_of_ble_eq_true hj
  have hij := Nat.le_of_ble_eq_true hij
  have hlen : (ops.take j).length = j := by rw [List.length_take]; omega
  have hm := k.run a { w0 with heap := h } w0 hf rfl ⟨rfl, rfl, rfl⟩
  rw [hlen] at hm
  have hr : List.range' i (ops.length - i) = List.range' i (j - i) ++ List.range' j (ops.length - j) := by
    have := List.range'_append_1 (s := i) (m := j - i) (n := ops.length - j)
    rw [show i + (j - i) = j by omega, show (j - i) + (ops.length - j) = ops.length - i by omega] at this
    exact this.symm
  rw [hr]
  refine mixK_of_mix hg (fun a' hq => ?_) _ a (fun k hk => by simpa using List.all_eq_true.1 hF k hk) hm
  obtain ⟨l', g1, ⟨-, g2⟩, -⟩ := hq
  exact g2.run a' w0 g1

theorem k_call {d : Nat} {f : FuncId} {args : List Operand} {at_ : Array TypeId} {vs : List Value} {ty : TypeId} {ps : String} {af : Array Edge} {g : Option (Nat × Bool)} (ho : opAt ops i = some ⟨some d, .call ⟨.value (.func f), args.toArray, at_⟩, ty, ps, af, g⟩) (hg : gd ops l g = some true) (hE : E i = true) (hb : Nat.blt d n = true) (he : Ent P f) (ha : evs l args = some vs)
    (k : ∀ h, Ch h → D h → (∀ p ∈ fl, Φ p.1 p.2 h) → CallsH P f vs h fun v h' => Ch h' ∧
      ((K h h' ∧ SK P n ops Ch E F K Φ Q (i + 1) (Ext h') fl ((d, v) :: l)) ∨ ((List.range' (i + 1) (ops.length - (i + 1))).all (fun i => !F i) = true ∧ SK P n ops Ch E F K Φ Q (i + 1) (Ext h') [] ((d, v) :: l)))) : SK P n ops Ch E F K Φ Q i D fl l :=
  k_act ho hE hg fun h hC hD hT a w hf hw => by
    unfold Eff
    rw [run_static, he]
    have : args.toArray.map a.eval = vs.toArray := by simp [hf.evs ha]
    rw [this]
    refine (k h hC hD hT w hw).mono fun e w' hq => ?_
    obtain ⟨v, rfl, ⟨h1, h2⟩, h3⟩ := hq
    exact ⟨h3, h1, Ext w'.heap, _, fun _ _ x y => x.trans y, Ext.refl _, hf.put d v hb, h2⟩

end rules

section rules
variable {P : Program} {n : Nat} {Q : Post} {l : Fr} {ops : List Oper} {Ch : Hp → Prop} {E F : Nat → Bool} {K : Hp → Hp → Prop} {Φ : Nat → Value → Hp → Prop} {i : Nat} {D : Hp → Prop} {fl : List (Nat × Value)}

theorem r_drawnKR {c : Code} {h : Hp} (Ch : Hp → Prop) (F R : Nat → Bool) (K : Hp → Hp → Prop) (Φ : Nat → Value → Hp → Prop) (hc : tagOf c = .region true) (hm : P.follows .mixedOrders = true) (hok : regionOkK (opsOf c) (fun i => (effB (opsOf c) i || R i) && !F i) F = true)
    (hKX : ∀ h h', Ext h h' → K h h') (hΦ : ∀ i v h h', Φ i v h → K h h' → Φ i v h') (hC : Ch h)
    (k : SK P n (opsOf c) Ch (fun i => (effB (opsOf c) i || R i) && !F i) F K Φ Q 0 (Ext h) [] l) : W P n c Q l h := W.mk fun a w hf hw => by
  cases c <;> cases hc
  rename_i id ops
  have hrun := k.run a w hf
  rw [Nat.sub_zero, ← List.range_eq_range'] at hrun
  have := region_drawnK (P := P) (id := id) (l := ops.toList) (Q := lift n Q w) (a := a) (w := w) hm hok (C := fun w' => Oth w w' ∧ Ch w'.heap) (K := fun w w' => Oth w w' ∧ K w.heap w'.heap) (X := fun w w' => Oth w w' ∧ Ext w.heap w'.heap) (Φ := fun i v w => Φ i v w.heap)
    (fun w w' x => ⟨x.1, hKX _ _ x.2⟩) (fun i v w w' x y => hΦ i v _ _ x y.2) (fun w' => Ext h w'.heap) (fun w1 w2 x y => x.trans y.2) (by rw [← hw]; exact Ext.refl _) ⟨⟨rfl, rfl, rfl⟩, by rw [← hw] at hC; exact hC⟩ hrun
  simpa using this

theorem k_floatX {o : Oper} (ho : opAt ops i = some o) (hF : F i = true) (hg : gd ops l o.guard = some true)
    (hx : ∀ a w h, Fits l n a → w.heap = h → Ch h → (∀ p ∈ fl, ancB ops i p.1 = true → Φ p.1 p.2 h) → Eff P o a w fun v w' => Oth w w' ∧ Ext h w'.heap ∧ Ch w'.heap ∧ Φ i v w'.heap)
    (hl : ∀ a v, (∃ h, Ch h ∧ Φ i v h) → Fits l n a → ∃ l', Fits l' n (a.put o.dst v) ∧ SK P n ops Ch E F K Φ Q (i + 1) D ((i, v) :: fl) l') : SK P n ops Ch E F K Φ Q i D fl l := SK.mk fun a w0 hf => by
  obtain ⟨h1, h2⟩ := s_step ho
  rw [h2]
  refine ⟨o, h1, .inr (.inl ⟨hF, gd_wanted hf hg, fun w hC hT => Eff_mono (fun v w' hk => ?_) (hx a w w.heap hf rfl hC.2 hT), fun v hv => ?_⟩)⟩
  · exact ⟨⟨hk.1, hk.2.1⟩, ⟨hC.1.trans hk.1, hk.2.2.1⟩, hk.2.2.2⟩
  · obtain ⟨w, hC, -, -, hp⟩ := hv
    obtain ⟨l', g1, g2⟩ := hl a v ⟨w.heap, hC.2, hp⟩ hf
    exact g2.run _ w0 g1
theorem k_fcallX {d : Nat} {f : FuncId} {args : List Operand} {at_ : Array TypeId} {vs : List Value} {ty : TypeId} {ps : String} {af : Array Edge} {g : Option (Nat × Bool)} (ho : opAt ops i = some ⟨some d, .call ⟨.value (.func f), args.toArray, at_⟩, ty, ps, af, g⟩) (hg : gd ops l g = some true) (hF : F i = true) (hb : Nat.blt d n = true) (he : Ent P f) (ha : evs l args = some vs)
    (hx : ∀ h, Ch h → (∀ p ∈ fl, ancB ops i p.1 = true → Φ p.1 p.2 h) → CallsH P f vs h fun v h' => Ext h h' ∧ Ch h' ∧ Φ i v h')
    (k : ∀ v, (∃ h, Ch h ∧ Φ i v h) → SK P n ops Ch E F K Φ Q (i + 1) D ((i, v) :: fl) ((d, v) :: l)) : SK P n ops Ch E F K Φ Q i D fl l :=
  k_floatX ho hF hg (fun a w h hf hw hC hT => by
    unfold Eff
    rw [run_static, he]
    have : args.toArray.map a.eval = vs.toArray := by simp [hf.evs ha]
    rw [this]
    refine (hx h hC hT w hw).mono fun e w' hq => ?_
    obtain ⟨v, rfl, ⟨h1, h2, h3⟩, h4⟩ := hq
    exact ⟨h4, h1, h2, h3⟩) (fun a v hv hf => ⟨_, hf.put d v hb, k v hv⟩)

variable {h : Hp} {d : Nat} {t : TypeId} {x : Operand}
theorem s_loadCell {p u : Value} {off : Nat} (hx : ev l x = some (ptrOff p off)) (ht : plainTy P t = true) (hs : Rd Ch E i h (fun h' => ∃ e cs, Var h' p e cs ∧ nth cs off = some u)) (hb : Nat.blt d n = true)
    (k : S P n ops Ch E Q (i + 1) ((d, u) :: l) h) : O P n ops Ch E Q i d (.load t x) l h :=
  s_read hb _ hs (fun a w' hf hs => by
    obtain ⟨e, cs, hs, hj⟩ := hs
    rw [nth_eq] at hj
    obtain ⟨g, rfl, hc⟩ := hs.cell hj
    have hl := run_load1 (P := P) (t := t) (a := (⟨g, 0, none⟩ : Addr).add off) (w := w') ht (by rw [Addr.add_lit, cell?_cellH, Nat.zero_add]; exact hc)
    simp only [execOp, hf.ev hx, ptrOff, Sem.run_bind, hl]; rfl) k
theorem rd_cl {p : Hp → Prop} (hp : ∀ h', Ch h' → p h') : Rd Ch E i h p := ⟨.inr hp⟩
end rules

theorem Own.neT {h : Hp} {B s n : Nat} {e e2 : TypeId} {v p : Value} {cs ds : List Value} (o : Own h B e s v n cs) (x : Var h p e2 ds) (hne : Nat.beq e e2 = false) : v.ownBlock = none ∨ v.ownBlock ≠ pblk p := by
  obtain ⟨-, ⟨rfl, -⟩ | ⟨g, cap, cur, rfl, -, hg, -⟩⟩ := o
  · exact .inl rfl
  · obtain ⟨b, rfl, hb⟩ := x
    refine .inr fun e => ?_
    have e : some g = some b := e
    cases e
    rw [hg] at hb
    simp only [Option.some.injEq, Obj.cells.injEq] at hb
    have := hb.2.1
    subst this
    simp at hne

section rules
variable {P : Program} {n : Nat} {Q : Post} {l : Fr} {ops : List Oper} {Ch : Hp → Prop} {E F : Nat → Bool} {K : Hp → Hp → Prop} {Φ : Nat → Value → Hp → Prop} {i : Nat} {D : Hp → Prop} {fl : List (Nat × Value)}

theorem k_alloc {d : Nat} {t : TypeId} {cs : List Value} {ty : TypeId} {ps : String} {af : Array Edge} {g : Option (Nat × Bool)} (ho : opAt ops i = some ⟨some d, .alloc t, ty, ps, af, g⟩) (hg : gd ops l g = some true) (hF : F i = true) (hb : Nat.blt d n = true)
    (hi : (P.info? t).bind (fun i => i.zero.map fun z => z.cells.toList) = some cs)
    (hk : ∀ h p h', Ch h → Var h' p t cs → Ext h h' → pblk p = some h.size → Ch h' ∧ Φ i p h')
    (k : ∀ p, SK P n ops Ch E F K Φ Q (i + 1) D ((i, p) :: fl) ((d, p) :: l)) : SK P n ops Ch E F K Φ Q i D fl l :=
  k_float ho hF hg (fun a w h hf hw hC hT => by
    subst hw
    cases hq : P.info? t with
    | none => rw [hq] at hi; cases hi
    | some inf =>
      rw [hq] at hi
      simp only [Option.bind_some] at hi
      cases hz : inf.zero with
      | none => rw [hz] at hi; cases hi
      | some z =>
        rw [hz] at hi
        simp only [Option.map_some, Option.some.injEq] at hi
        have hv : Var (w.alloc (.cells z.cells t)).heap (.pointer (some ⟨w.heap.size, 0, none⟩)) t cs := ⟨w.heap.size, rfl, by rw [← hi, Array.toArray_toList]; exact heap_alloc_new w _⟩
        have := hk _ _ _ hC hv (Ext.push _ _) rfl
        unfold Eff
        simp only [execOp, Sem.run_bind, run_allocV hq hz]
        exact ⟨⟨rfl, rfl, rfl⟩, Ext.push _ _, this.1, this.2⟩) (fun a v hf => ⟨_, hf.put d v hb, k v⟩)

theorem k_storeV {t e : TypeId} {x y : Operand} {p u : Value} {cs us : List Value} {ty : TypeId} {ps : String} {af : Array Edge} {g : Option (Nat × Bool)} (D' : Hp → Prop) (ho : opAt ops i = some ⟨none, .store t x y, ty, ps, af, g⟩) (hg : gd ops l g = some true) (hE : E i = true)
    (hx : ev l x = some p) (hy : ev l y = some u) (hu : u.cells.toList = us) (h1 : OneAll us) (ht : (P.info? t).map (·.size) = some us.length) (hl : us.length = cs.length)
    (hnf : (List.range' (i + 1) (ops.length - (i + 1))).all (fun i => !F i) = true) (hD' : ∀ h1 h2, D' h1 → Ext h1 h2 → D' h2)
    (hv : ∀ h, Ch h → D h → (∀ p ∈ fl, Φ p.1 p.2 h) → Var h p e cs)
    (hs : ∀ h h', Ch h → D h → (∀ p ∈ fl, Φ p.1 p.2 h) → Var h' p e us → Only (pblk p) h h' → Ch h' ∧ D' h')
    (k : SK P n ops Ch E F K Φ Q (i + 1) D' [] l) : SK P n ops Ch E F K Φ Q i D fl l :=
  k_act ho hE hg fun h hC hD hT a w hf hw => by
    have hv := hv h hC hD hT
    have hs := hs h
    subst hw
    obtain ⟨g, rfl, hgc⟩ := hv
    have hus : u.cells.size = us.length := by rw [← hu]; simp
    have hr := run_storeVar (P := P) (w := w) (t := t) (off := 0) (u := u) hgc (by rw [hus]; exact ht) (by rw [hu]; exact h1.all) (by rw [hus]; omega)
    rw [hu, hus] at hr
    have hg' := setRow_heap w g cs.toArray (cs.take 0 ++ us ++ cs.drop (0 + us.length)).toArray e _ hgc
    have hcell : cs.take 0 ++ us ++ cs.drop (0 + us.length) = us := by
      rw [List.take_zero, List.nil_append, Nat.zero_add, hl, List.drop_of_length_le (Nat.le_refl _), List.append_nil]
    have := hs _ hC hD hT ⟨g, rfl, by rw [hcell] at hg'; exact hg'⟩ ⟨by simp, fun j _ hj => setRow_other w g j _ (fun q => hj (by simp [pblk, q]))⟩
    have hz : (⟨g, 0, none⟩ : Addr).add 0 = ⟨g, 0, none⟩ := by simp [Addr.add_lit]
    (try rw [hcell] at hr)
    (try rw [hcell] at this)
    unfold Eff
    simp only [execOp, hf.ev hx, hf.ev hy, Instr.storeAt, Instr.sureAddr, Sem.run_bind, Sem.run_pure, Result.andThen_ok, hr]
    exact ⟨⟨rfl, rfl, rfl⟩, this.1, D', l, hD', this.2, hf.putNone _, .inr ⟨hnf, k⟩⟩
end rules
end Go.Den


namespace Go.Den
open Go Go.RowKit
theorem r_drawnCl {P : Program} {n : Nat} {Q : Post} {l : Fr} {h : Hp} {c : Code} (Ch : Hp → Prop) (hc : tagOf c = .region true) (hm : P.follows .mixedOrders = true) (hok : regionOk (opsOf c) (effB (opsOf c)) = true) (hC : Ch h)
    (k : S P n (opsOf c) Ch (effB (opsOf c)) Q 0 l h) : W P n c Q l h := r_drawn Ch (effB (opsOf c)) hc hm hok hC k
section fin
variable {P : Program} {n : Nat} {fn : Func} {R : Value → Hp → Prop} {l : Fr} {h : Hp}
theorem finCCT {s s2 u : Nat} {t t2 e e2 : TypeId} {p p2 v3 : Value} {cs cs2 : List Value} (hr : fn.results = #[.cell s t, .cell s2 t2, .tmp u]) (hl : look l s = some p) (hl2 : look l s2 = some p2) (hl3 : look l u = some v3) (hv : Var h p e cs) (hv2 : Var h p2 e2 cs2) (ht : aggTy P t = true) (hz : (P.info? t).map (·.size) = some cs.length) (ht2 : aggTy P t2 = true) (hz2 : (P.info? t2).map (·.size) = some cs2.length) (k : R (.tuple #[.agg cs.toArray, .agg cs2.toArray, v3]) h) : At (Fin P n fn R) .ret l h :=
  ⟨⟨_, fun a w hf hw => by
    obtain ⟨ad, h1, h2⟩ := run_resCell (P := P) (w := w) (by rw [hw]; exact hv) ht hz
    obtain ⟨ad2, h3, h4⟩ := run_resCell (P := P) (w := w) (by rw [hw]; exact hv2) ht2 hz2
    simp [results, hr, hf.slots s p hl, hf.slots s2 p2 hl2, hf.slots u v3 hl3, h1, h2, h3, h4], k⟩⟩
theorem finCTT {s u u2 : Nat} {t e : TypeId} {p v2 v3 : Value} {cs : List Value} (hr : fn.results = #[.cell s t, .tmp u, .tmp u2]) (hl : look l s = some p) (hl2 : look l u = some v2) (hl3 : look l u2 = some v3) (hv : Var h p e cs) (ht : aggTy P t = true) (hz : (P.info? t).map (·.size) = some cs.length) (k : R (.tuple #[.agg cs.toArray, v2, v3]) h) : At (Fin P n fn R) .ret l h :=
  ⟨⟨_, fun a w hf hw => by
    obtain ⟨ad, h1, h2⟩ := run_resCell (P := P) (w := w) (by rw [hw]; exact hv) ht hz
    simp [results, hr, hf.slots s p hl, hf.slots u v2 hl2, hf.slots u2 v3 hl3, h1, h2], k⟩⟩
end fin
end Go.Den
namespace Go.Proofs.YtfcmdefigldpnaaGreatDoor
set_option linter.unusedVariables false
set_option maxRecDepth 8000
open Go Go.Den Go.RowKit Go.Dig

def Two (r1 r2 : Option Nat) (h h' : Hp) : Prop := h.size ≤ h'.size ∧ ∀ i, i < h.size → some i ≠ r1 → some i ≠ r2 → h'[i]? = h[i]?
theorem only_two1 {h h' : Hp} {r1 r2 : Option Nat} (k : Only r1 h h') : Two r1 r2 h h' := ⟨k.1, fun i hi h1 _ => k.2 i hi h1⟩
theorem only_two2 {h h' : Hp} {r1 r2 : Option Nat} (k : Only r2 h h') : Two r1 r2 h h' := ⟨k.1, fun i hi _ h2 => k.2 i hi h2⟩
theorem Two.ext {h0 h h' : Hp} {r1 r2 : Option Nat} (k : Two r1 r2 h h') (e : Ext h0 h) (h1 : ∀ j, r1 = some j → h0.size ≤ j) (h2 : ∀ j, r2 = some j → h0.size ≤ j) : Ext h0 h' :=
  ⟨Nat.le_trans e.1 k.1, fun i hi => (k.2 i (Nat.lt_of_lt_of_le hi e.1) (fun q => by have := h1 i q.symm; omega) (fun q => by have := h2 i q.symm; omega)).trans (e.2 i hi)⟩
theorem Two.split {h h' : Hp} {j : Nat} {r2 : Option Nat} (k : Two (some j) r2 h h') (hj : j < h.size) : ∃ hm, Only (some j) h hm ∧ Only r2 hm h' := by
  have hj' : j < h'.size := Nat.lt_of_lt_of_le hj k.1
  refine ⟨h.set j h'[j] hj, ⟨by simp, fun i hi hne => ?_⟩, ⟨by simpa using k.1, fun i hi hne => ?_⟩⟩
  · rw [Array.getElem?_set_ne]
    exact fun e => hne (by rw [e])
  · rw [Array.size_set] at hi
    by_cases e : j = i
    · subst e
      rw [Array.getElem?_set_self, Array.getElem?_eq_getElem hj']
    · rw [Array.getElem?_set_ne _ e]
      exact k.2 i hi (fun q => e (Option.some.inj q).symm) hne
theorem var_two {h h' : Hp} {p : Value} {e : TypeId} {cs : List Value} {j : Nat} {r2 : Option Nat} (s : Var h p e cs) (k : Two (some j) r2 h h') (hj : j < h.size) (n1 : pblk p ≠ some j) (n2 : pblk p ≠ r2) : Var h' p e cs := by
  obtain ⟨hm, k1, k2⟩ := k.split hj
  exact (s.only k1 n1).only k2 n2
theorem Two.refl (r1 r2 : Option Nat) (h : Hp) : Two r1 r2 h h := ⟨Nat.le_refl _, fun _ _ _ _ => rfl⟩
theorem Two.trans {r1 r2 : Option Nat} {a b c : Hp} (h : Two r1 r2 a b) (k : Two r1 r2 b c) : Two r1 r2 a c :=
  ⟨Nat.le_trans h.1 k.1, fun i hi h1 h2 => (k.2 i (Nat.lt_of_lt_of_le hi h.1) h1 h2).trans (h.2 i hi h1 h2)⟩
theorem RowsAt.neT {h h' : Hp} {B : Nat} {p : Option Nat} {v pv : Value} {rows : List (Value × List Nat)} {ds : List Value} (s : RowsAt h B p v rows) (x : Var h pv 56 ds) (k : Only (pblk pv) h h') : RowsAt h' B p v rows :=
  ⟨s.own.only k (Own.neT s.own x rfl), fun y hy => (s.el y hy).only k (Own.neT (s.el y hy) x rfl), s.ne, s.np, s.vp⟩
end Go.Proofs.YtfcmdefigldpnaaGreatDoor


namespace Go.Proofs.YtfcmdefigldpnaaGreatDoor
set_option linter.unusedVariables false
set_option maxRecDepth 8000
open Go Go.Mth

theorem gt_of {xs : List Nat} {p v : Nat} (h : xs[p]? = some v) : gt xs p = (v : Int) := by
  unfold gt
  rw [List.getD_eq_getElem?_getD, h]; rfl
theorem prd_cnv {t : Tbl} (K : TblOk t) {xs ys rs : List Nat} (h : Prd t xs ys rs) : Cnv (2 ^ t.L) t.q xs ys rs := by
  have hq0 : (0 : Int) < t.q := by have := K.q1; omega
  have hC : Cnv (2 ^ t.L) t.q xs ys ((List.range (2 ^ t.L)).map fun p => (cnv (2 ^ t.L) (gt xs) (gt ys) p % (t.q : Int)).toNat) := by
    refine ⟨⟨by simp, fun x hx => ?_⟩, fun p hp => ?_⟩
    · obtain ⟨p, -, rfl⟩ := List.mem_map.1 hx
      have h1 := Int.emod_nonneg (cnv (2 ^ t.L) (gt xs) (gt ys) p) (b := (t.q : Int)) (by omega)
      have h2 := Int.emod_lt_of_pos (cnv (2 ^ t.L) (gt xs) (gt ys) p) hq0
      omega
    · have hg : ((List.range (2 ^ t.L)).map fun p => (cnv (2 ^ t.L) (gt xs) (gt ys) p % (t.q : Int)).toNat)[p]? = some (cnv (2 ^ t.L) (gt xs) (gt ys) p % (t.q : Int)).toNat := by simp [hp]
      rw [gt_of hg]
      have h1 := Int.emod_nonneg (cnv (2 ^ t.L) (gt xs) (gt ys) p) (b := (t.q : Int)) (by omega)
      rw [Int.toNat_of_nonneg h1]
      exact Cg.mod _ _
  rw [prd_eq K h hC.1 fun k _ => hC.dft K.cw k]
  exact hC
theorem zip_get {f : Nat → Nat → Nat} {xs ys : List Nat} {n p : Nat} (hx : xs.length = n) (hy : ys.length = n) (hp : p < n) : (List.zipWith f xs ys).getD p 0 = f (xs.getD p 0) (ys.getD p 0) := by
  have h1 : xs[p]? = some xs[p] := List.getElem?_eq_getElem (by omega)
  have h2 : ys[p]? = some ys[p] := List.getElem?_eq_getElem (by omega)
  simp [List.getD_eq_getElem?_getD, List.getElem?_zipWith, h1, h2]
end Go.Proofs.YtfcmdefigldpnaaGreatDoor

