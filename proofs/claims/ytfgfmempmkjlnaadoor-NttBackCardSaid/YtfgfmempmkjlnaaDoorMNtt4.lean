/- Texts DenR to OpenT of this work, joined: each says in its own head what it proves, and of which condition. -/
import Derived.Test.YtfgfmempmkjlnaaDoorMNtt3
import Derived.ProofKit
import Derived.OpenShut
import Derived.ShutString
import Derived.ChangeOld
import Derived.Below
import Derived.Test.YtfgfmempmkjlnaaDoorRows
import Derived.LaidMore
import Derived.LaidLaws
import Derived.MakeChecks
/- Own calculus: a drawn region in which some operations only read, in any order among themselves, ahead of others that write. No condition. -/
namespace Go.Den
set_option linter.unusedVariables false
set_option maxRecDepth 8000
open Go Go.RowKit

/-- A load of one cell. -/
def roOp (P : Program) (o : Oper) : Bool := match o.op with
  | .load t _ => plainTy P t
  | _ => false

section order
variable {P : Program} {ops : Array Oper} {C : World → Prop} {E R : Nat → Bool}
theorem ro_run {o : Oper} {a : Act} {w : World} {K : Value → World → Prop} (ho : roOp P o = true) (h : Eff P o a w K) : ∃ v, (execOp a.eval o).run P w = .ok (.value v) w ∧ K v w := by
  obtain ⟨d, op, ty, ps, af, g⟩ := o
  unfold roOp at ho
  cases op <;> first | cases ho | skip
  rename_i t x
  unfold Eff at h
  simp only [execOp, Sem.run_bind] at h ⊢
  cases hx : a.eval x with
  | pointer p =>
    cases p with
    | none => rw [hx] at h; exact h.elim
    | some p =>
      rw [hx] at h
      cases hc : w.cell? p with
      | some u =>
        rw [run_load1 ho hc] at h ⊢
        exact ⟨u, rfl, h⟩
      | none =>
        have e : (Instr.loadAt t (.pointer (some p))).run P w = (load p).run P w := by
          show ((do let x ← isAgg t; if x then (do pure (.agg (← loadCells p (← sizeOf t)))) else load p : Sem Value)).run P w = _
          rw [Sem.run_bind, run_isAgg_plain ho w]
          simp
        have e2 : (load p).run P w = match World.farLoad P w p (Mode.plain == Mode.atomic) with
            | .ok (v, _) => .ok v w
            | .error x => .halt x w := by
          unfold load Sem.run
          rw [hc]
          rfl
        rw [e, e2] at h ⊢
        cases hf : World.farLoad P w p (Mode.plain == Mode.atomic) with
        | ok y => rw [hf] at h; exact ⟨y.1, rfl, h⟩
        | error x => rw [hf] at h; exact h.elim
  | _ => rw [hx] at h; exact h.elim

theorem pullR (hs : NoSel ops) {Q : Act → World → Prop} {j : Nat} {oj : Oper} (hj : ops[j]? = some oj) (post : List Nat) : ∀ (pre : List Nat) (a : Act) (w : World), C w →
    (∀ i ∈ pre, (∀ oi, ops[i]? = some oi → oi.apart ops oj = true) ∧ (¬ (E i = true ∧ E j = true) ∨ (roOp P oj = true ∧ ∀ oi, ops[i]? = some oi → roOp P oi = true))) →
    Mix P ops C E Q (pre ++ j :: post) a w →
    (∃ v, Stab P ops C oj v a ∧ Mix P ops C E Q (pre ++ post) (a.put oj.dst v) w) ∨
    (E j = true ∧ Wanted ops oj a = true ∧ Eff P oj a w fun v w' => C w' ∧ Mix P ops C E Q (pre ++ post) (a.put oj.dst v) w')
  | [], a, w, _, _, h => by
    obtain ⟨o, ho, h⟩ := h
    rw [hj] at ho; cases ho
    exact h
  | i :: pre, a, w, hC, hp, h => by
    obtain ⟨oi, hi, h⟩ := h
    obtain ⟨hap, hch⟩ := hp i (by simp)
    have hp' : ∀ i ∈ pre, (∀ oi, ops[i]? = some oi → oi.apart ops oj = true) ∧ (¬ (E i = true ∧ E j = true) ∨ (roOp P oj = true ∧ ∀ oi, ops[i]? = some oi → roOp P oi = true)) := fun k hk => hp k (by simp [hk])
    obtain ⟨h1, h2, h3⟩ := Oper.apart_spec (hap oi hi)
    have hsi : ∀ cs b, oi.op ≠ .select cs b := fun cs b => hs i oi cs b hi
    have hsj : ∀ cs b, oj.op ≠ .select cs b := fun cs b => hs j oj cs b hj
    -- j does not see what i writes; i does not see what j writes
    have ej : ∀ (a : Act) (u : Value), execOp (a.put oi.dst u).eval oj = execOp a.eval oj := fun a u => execOp_put oj hsj a oi.dst u h1
    have wj : ∀ (a : Act) (u : Value), Wanted ops oj (a.put oi.dst u) = Wanted ops oj a := fun a u => wanted_put oj a oi.dst u h1
    have ei : ∀ (a : Act) (u : Value), execOp (a.put oj.dst u).eval oi = execOp a.eval oi := fun a u => execOp_put oi hsi a oj.dst u h3
    have wi : ∀ (a : Act) (u : Value), Wanted ops oi (a.put oj.dst u) = Wanted ops oi a := fun a u => wanted_put oi a oj.dst u h3
    have pc : ∀ (a : Act) (u v : Value), (a.put oi.dst u).put oj.dst v = (a.put oj.dst v).put oi.dst u := fun a u v => Act.put_comm a u v h2
    rcases h with ⟨u, hu, h⟩ | ⟨hE, hW, h⟩
    · rcases pullR hs hj post pre (a.put oi.dst u) w hC hp' h with ⟨v, hv, k⟩ | ⟨hEj, hWj, k⟩
      · refine .inl ⟨v, hv.of_same (ej a u).symm (wj a u).symm, oi, hi, .inl ⟨u, hu.of_same (ei a v) (wi a v), ?_⟩⟩
        rw [← pc a u v]; exact k
      · refine .inr ⟨hEj, by rw [← wj a u]; exact hWj, ?_⟩
        unfold Eff at k ⊢
        rw [ej a u] at k
        exact EffUpon_mono (fun v w' hk => ⟨hk.1, oi, hi, .inl ⟨u, hu.of_same (ei a v) (wi a v), by rw [← pc a u v]; exact hk.2⟩⟩) k
    · rcases hch with hch | ⟨rj, ri⟩
      rotate_left
      · have ri := ri oi hi
        obtain ⟨u, hu, hC', h⟩ := ro_run ri h
        rcases pullR hs hj post pre (a.put oi.dst u) w hC' hp' h with ⟨v, hv, k⟩ | ⟨hEj, hWj, k⟩
        · refine .inl ⟨v, hv.of_same (ej a u).symm (wj a u).symm, oi, hi, .inr ⟨hE, by rw [wi a v]; exact hW, ?_⟩⟩
          unfold Eff
          rw [ei a v, hu]
          exact ⟨hC', by rw [← pc a u v]; exact k⟩
        · unfold Eff at k
          rw [ej a u] at k
          obtain ⟨v, hv, -, k⟩ := ro_run rj k
          refine .inr ⟨hEj, by rw [← wj a u]; exact hWj, ?_⟩
          unfold Eff
          rw [hv]
          refine ⟨hC', oi, hi, .inr ⟨hE, by rw [wi a v]; exact hW, ?_⟩⟩
          unfold Eff
          rw [ei a v, hu]
          exact ⟨hC', by rw [← pc a u v]; exact k⟩
      have hEj : ¬ E j = true := fun e => hch ⟨hE, e⟩
      have step : Eff P oi a w fun u w' => C w' ∧ ∃ v, Stab P ops C oj v a ∧ Mix P ops C E Q (pre ++ post) ((a.put oj.dst v).put oi.dst u) w' := by
        refine Eff_mono (fun u w' hk => ⟨hk.1, ?_⟩) h
        rcases pullR hs hj post pre (a.put oi.dst u) w' hk.1 hp' hk.2 with ⟨v, hv, k⟩ | ⟨hEj', -, -⟩
        · exact ⟨v, hv.of_same (ej a u).symm (wj a u).symm, by rw [← pc a u v]; exact k⟩
        · exact absurd hEj' hEj
      obtain ⟨u0, w0, hc0, v0, hv0, -⟩ := EffUpon_some step
      refine .inl ⟨v0, hv0, oi, hi, .inr ⟨hE, by rw [wi a v0]; exact hW, ?_⟩⟩
      unfold Eff at step ⊢
      rw [ei a v0]
      refine EffUpon_mono (fun u w' hk => ?_) step
      obtain ⟨hc, v, hv, k⟩ := hk
      rw [Stab.unique hC hv hv0] at k
      exact ⟨hc, k⟩

/-- As regionOk, but two that only read need no order between them: edges lead back; two operations, one behind the other, are apart, or the later one waits for the earlier one; of two that act the later one comes behind the earlier one. -/
def regionOkR (P : Program) (ops : List Oper) (E R : Nat → Bool) : Bool :=
  let A := ops.toArray
  let an := ancGo ops #[]
  Region.noSelect A &&
  ops.zipIdx.all fun (oj, j) =>
    oj.after.toList.all (fun e => !Region.binds .any e || Nat.blt e.on j) &&
    (ops.take j).zipIdx.all fun (oi, i) =>
      ((oj.after.toList.any fun e => Region.binds .any e && Nat.beq e.on i) || oi.apart A oj) &&
      (!(E i && E j) || (R i && R j && roOp P oi && roOp P oj) || (an.getD j 0).testBit i)

theorem regionOkR_spec {l : List Oper} (h : regionOkR P l E R = true) : NoSel l.toArray ∧
    (∀ j oj, l[j]? = some oj → ∀ e ∈ oj.after.toList, Region.binds .any e = true → e.on < j) ∧
    (∀ i j oi oj, i < j → l[i]? = some oi → l[j]? = some oj → ((∃ e ∈ oj.after.toList, Region.binds .any e = true ∧ e.on = i) ∨ oi.apart l.toArray oj = true) ∧
      (E i = true → E j = true → (roOp P oi = true ∧ roOp P oj = true) ∨ ((ancGo l #[]).getD j 0).testBit i = true)) := by
  unfold regionOkR at h
  simp only [Bool.and_eq_true] at h
  obtain ⟨h0, h⟩ := h
  refine ⟨Region.noSelect_spec h0, fun j oj hj e he hb => ?_, fun i j oi oj hij hi hj => ?_⟩
  · have h1 := zipIdx_all h hj
    simp only [Bool.and_eq_true, List.all_eq_true] at h1
    have := h1.1 e he
    simp only [hb, Bool.not_true, Bool.false_or] at this
    exact Nat.le_of_ble_eq_true this
  · have h1 := zipIdx_all h hj
    simp only [Bool.and_eq_true] at h1
    have h2 := zipIdx_all h1.2 (show (l.take j)[i]? = some oi by rw [List.getElem?_take, if_pos hij]; exact hi)
    simp only [Bool.and_eq_true, Bool.or_eq_true] at h2
    obtain ⟨h3, h4⟩ := h2
    refine ⟨?_, fun ei ej => ?_⟩
    · rcases h3 with h3 | h3
      · rw [List.any_eq_true] at h3
        obtain ⟨e, he, hb⟩ := h3
        simp only [Bool.and_eq_true] at hb
        exact .inl ⟨e, he, hb.1, Nat.eq_of_beq_eq_true hb.2⟩
      · exact .inr h3
    · rcases h4 with (h4 | h4) | h4
      · simp [ei, ej] at h4
      · exact .inl ⟨h4.1.2, h4.2⟩
      · exact .inr h4

theorem any_of_mixR {l : List Oper} {Q : Exit → Act → World → Prop} (h : regionOkR P l E R = true) : ∀ (m : Nat) (L : List Nat) (listed : Array Bool) (a : Act) (w : World),
    L.length = m → L.Pairwise (· < ·) → (∀ i, i ∈ L ↔ i < l.length ∧ listed.getD i true = false) → listed.size = l.length →
    Closed l.toArray (fun i => listed.getD i false) → C w → Mix P l.toArray C E (fun a w => Q .normal a w) L a w → wpAny P .any l.toArray Q m listed a w := by
  obtain ⟨hs, hback, hpair⟩ := regionOkR_spec h
  intro m
  induction m with
  | zero =>
    intro L listed a w hlen hsort hmem hsz hcl hC hm
    have hL : L = [] := List.length_eq_zero_iff.1 hlen
    subst hL
    refine ⟨?_, hm⟩
    rw [List.eq_nil_iff_forall_not_mem]
    intro j hj
    obtain ⟨h1, o, ho, -⟩ := mem_ready.1 hj
    have hjl : j < l.length := by simpa using (Array.getElem?_eq_some_iff.1 ho).1
    have := (hmem j).2 ⟨hjl, h1⟩
    simp at this
  | succ m ih =>
    intro L listed a w hlen hsort hmem hsz hcl hC hm
    refine ⟨fun hnil => ?_, fun j hj => ?_⟩
    · -- the first that is left may come up
      cases L with
      | nil => simp at hlen
      | cons k L' =>
        exfalso
        have hk := (hmem k).1 (by simp)
        have hkr : k ∈ Region.ready .any l.toArray listed := by
          refine mem_ready.2 ⟨hk.2, l[k]'hk.1, by simp [hk.1], fun e he hb => ?_⟩
          have hlt := hback k (l[k]'hk.1) (by simp [hk.1]) e (by simpa using he) hb
          have hlt' : e.on < l.length := Nat.lt_trans hlt hk.1
          cases hg : listed.getD e.on true with
          | true =>
            rw [Array.getD_eq_getD_getElem?] at hg ⊢
            rw [Array.getElem?_eq_getElem (by omega)] at hg ⊢
            simpa using hg
          | false =>
            have hin := (hmem e.on).2 ⟨hlt', hg⟩
            rcases List.mem_cons.1 hin with heq | hin'
            · omega
            · have := (List.pairwise_cons.1 hsort).1 _ hin'
              omega
        rw [hnil] at hkr
        cases hkr
    · obtain ⟨hj1, oj, hoj, hjall⟩ := mem_ready.1 hj
      have hjl : j < l.length := by simpa using (Array.getElem?_eq_some_iff.1 hoj).1
      have hoj' : l[j]? = some oj := by simpa using hoj
      have hjL : j ∈ L := (hmem j).2 ⟨hjl, hj1⟩
      obtain ⟨pre, post, rfl⟩ := List.append_of_mem hjL
      have hpre : ∀ i ∈ pre, i < j := fun i hi => by
        have := List.pairwise_append.1 hsort
        exact this.2.2 i hi j (by simp)
      have hdep : ∀ e ∈ oj.after.toList, Region.binds .any e = true → listed.getD e.on false = true := fun e he hb => hjall e (by simpa using he) hb
      have hap : ∀ i ∈ pre, (∀ oi, l.toArray[i]? = some oi → oi.apart l.toArray oj = true) ∧ (¬ (E i = true ∧ E j = true) ∨ (roOp P oj = true ∧ ∀ oi, l.toArray[i]? = some oi → roOp P oi = true)) := fun i hi => by
        have hi1 := (hmem i).1 (by simp [hi])
        have hif : listed.getD i false = false := by
          have h1 := hi1.2
          rw [Array.getD_eq_getD_getElem?] at h1 ⊢
          rw [Array.getElem?_eq_getElem (by omega)] at h1 ⊢
          simpa using h1
        refine ⟨fun oi hoi => ?_, ?_⟩
        · obtain ⟨hor, -⟩ := hpair i j oi oj (hpre i hi) (by simpa using hoi) hoj'
          rcases hor with ⟨e, he, hb, heq⟩ | hap
          · have := hdep e he hb
            rw [heq, hif] at this
            cases this
          · exact hap
        · obtain ⟨-, hch⟩ := hpair i j (l[i]'hi1.1) oj (hpre i hi) (by simp [hi1.1]) hoj'
          by_cases e12 : E i = true ∧ E j = true
          rotate_left
          · exact .inl e12
          obtain ⟨e1, e2⟩ := e12
          rcases hch e1 e2 with ⟨q1, q2⟩ | hb
          · refine .inr ⟨q2, fun oi hoi => ?_⟩
            obtain rfl : l[i]'hi1.1 = oi := by
              have : l[i]? = some oi := by simpa using hoi
              rw [List.getElem?_eq_getElem hi1.1] at this
              exact Option.some.inj this
            exact q1
          exfalso
          have := anc_sound (ops := l.toArray) hcl l #[] (by simp) (by simp) (fun k _ hk => ⟨l[k]'(by simpa using hk), by simp at hk; simp [hk]⟩) (by simp) j oj hoj (by simpa using hjl) hdep i hb
          rw [hif] at this
          cases this
      have hmem' : ∀ i, i ∈ pre ++ post ↔ i < l.length ∧ (listed.setIfInBounds j true).getD i true = false := fun i => by
        have hnd : i ∈ pre ++ post ↔ i ∈ pre ++ j :: post ∧ i ≠ j := by
          have hq := List.pairwise_append.1 hsort
          have hq2 := List.pairwise_cons.1 hq.2.1
          constructor
          · intro hi
            refine ⟨by rcases List.mem_append.1 hi with hi | hi <;> simp [hi], fun heq => ?_⟩
            subst heq
            rcases List.mem_append.1 hi with hi | hi
            · exact Nat.lt_irrefl _ (hpre _ hi)
            · exact Nat.lt_irrefl _ (hq2.1 _ hi)
          · rintro ⟨hi, hne⟩
            rcases List.mem_append.1 hi with hi | hi
            · simp [hi]
            · rcases List.mem_cons.1 hi with hi | hi
              · exact absurd hi hne
              · simp [hi]
        rw [hnd, hmem i]
        by_cases hij : j = i
        · subst hij
          have hset : (listed.setIfInBounds j true).getD j true = true := by
            rw [Array.getD_eq_getD_getElem?, Array.getElem?_setIfInBounds_self_of_lt (by omega)]; rfl
          rw [hset]
          simp
        · rw [getD_set_ne true hij]
          constructor
          · rintro ⟨⟨h1, h2⟩, -⟩; exact ⟨h1, h2⟩
          · rintro ⟨h1, h2⟩; exact ⟨⟨h1, h2⟩, fun e => hij e.symm⟩
      have hcl' : Closed l.toArray (fun i => (listed.setIfInBounds j true).getD i false) := fun k o hk hl e he hb => by
        by_cases hkj : j = k
        · subst hkj
          rw [hoj] at hk; cases hk
          exact getD_set_true (hdep e he hb)
        · have hl' : listed.getD k false = true := by
            have := getD_set_ne (listed := listed) false hkj
            simp only [this] at hl
            exact hl
          exact getD_set_true (hcl k o hk hl' e he hb)
      have hlen' : (pre ++ post).length = m := by simp at hlen ⊢; omega
      have hsort' : (pre ++ post).Pairwise (· < ·) := by
        refine hsort.sublist ?_
        exact List.Sublist.append_left (List.sublist_cons_self _ _) _
      have next : ∀ a' w', C w' → Mix P l.toArray C E (fun a w => Q .normal a w) (pre ++ post) a' w' → wpAny P .any l.toArray Q m (listed.setIfInBounds j true) a' w' := fun a' w' hC' hm' =>
        ih (pre ++ post) (listed.setIfInBounds j true) a' w' hlen' hsort' hmem' (by simpa using hsz) hcl' hC' hm'
      unfold wpOp
      simp only [hoj]
      rcases pullR hs hoj post pre a w hC hap hm with ⟨v, hv, k⟩ | ⟨-, hW, k⟩
      · rcases hv with ⟨hW, hr⟩ | ⟨hW, rfl⟩
        · rw [if_pos (show Region.wanted _ _ = true from hW)]
          refine .inl ?_
          unfold Oper.wp
          rw [hr w hC]
          exact next _ _ hC k
        · rw [if_neg (by unfold Wanted at hW; rw [hW]; exact Bool.false_ne_true)]
          exact next _ _ hC k
      · rw [if_pos (show Region.wanted _ _ = true from hW)]
        exact .inl (wp_of_Eff (fun v w' hk => next _ _ hk.1 hk.2) k)


theorem region_drawnR {id : Nat} {l : List Oper} {Q : Exit → Act → World → Prop} {a : Act} {w : World} (hm : P.follows .mixedOrders = true) (hok : regionOkR P l E R = true)
    (hC : C { w with drawn := w.drawn + 1 }) (h : Mix P l.toArray C E (fun a w => Q .normal a w) (List.range l.length) a { w with drawn := w.drawn + 1 }) :
    (Code.region id l.toArray true).wp P Q a w := by
  refine wp_region_any hm ?_
  have := any_of_mixR (P := P) (C := C) (Q := Q) hok l.length (List.range l.length) (Array.replicate l.length false) a { w with drawn := w.drawn + 1 } (by simp) List.pairwise_lt_range
    (fun i => by
      rw [List.mem_range]
      constructor
      · intro hi
        refine ⟨hi, ?_⟩
        rw [Array.getD_eq_getD_getElem?, Array.getElem?_eq_getElem (by simpa using hi)]
        simp
      · exact fun hi => hi.1)
    (by simp) (fun k o _ hk e _ _ => by
      exfalso
      by_cases hlt : k < l.length
      · simp [Array.getD_eq_getD_getElem?, hlt] at hk
      · simp [Array.getD_eq_getD_getElem?, hlt] at hk) hC h
  simpa using this


end order

section rules
variable {P : Program} {n : Nat} {Q : Post} {l : Fr} {h : Hp}
theorem r_drawnR {c : Code} (Ch : Hp → Prop) (R : Nat → Bool) (hc : tagOf c = .region true) (hm : P.follows .mixedOrders = true) (hok : regionOkR P (opsOf c) (fun i => effB (opsOf c) i || R i) R = true) (hC : Ch h)
    (k : S P n (opsOf c) Ch (fun i => effB (opsOf c) i || R i) Q 0 l h) : W P n c Q l h := W.mk fun a w hf hw => by
  cases c <;> cases hc
  rename_i id ops
  have := region_drawnR (id := id) (l := ops.toList) (Q := lift n Q w) (C := fun w' => Oth w w' ∧ Ch w'.heap) hm hok ⟨⟨rfl, rfl, rfl⟩, by rw [← hw] at hC; exact hC⟩ (a := a) (by
    have := k.run a { w with drawn := w.drawn + 1 } w hf hw ⟨rfl, rfl, rfl⟩
    rw [Nat.sub_zero, ← List.range_eq_range'] at this
    exact this)
  simpa using this
theorem rd_now {Ch : Hp → Prop} {E : Nat → Bool} {i : Nat} {h : Hp} {p : Hp → Prop} (hE : E i = true) (hC : Ch h) (hp : p h) : Rd Ch E i h p := ⟨.inl ⟨hE, hC, hp⟩⟩
end rules
end Go.Den

/- Package ntt: the transform in place. No condition. -/
namespace Go.Proofs.YtfgfmempmkjlnaaDoor
set_option linter.unusedVariables false
set_option maxRecDepth 8000
open Go Go.Den Go.RowKit Go.Mth

theorem pow_split {L s : Nat} (h : s < L) : 2 ^ L = 2 ^ (L - s - 1) * (2 * 2 ^ s) := by
  rw [Nat.mul_left_comm, ← Nat.pow_add, show L - s - 1 + s = L - 1 by omega, ← Nat.pow_succ', show (L - 1).succ = L by omega]
theorem pow_by {L s : Nat} (h : s ≤ L) : 2 ^ L / 2 ^ s = 2 ^ (L - s) := Nat.pow_div h (by decide)
theorem pow_kb {L s k : Nat} (h : s ≤ L) (hk : k < 2 ^ s) : k * 2 ^ (L - s) < 2 ^ L := by
  have := Nat.mul_lt_mul_of_pos_right hk (Nat.two_pow_pos (L - s))
  rwa [← Nat.pow_add, show s + (L - s) = L by omega] at this
theorem blk_room {M D c n : Nat} (hn : n = M * D) (h : c * D < n) : c * D + D ≤ n := by
  subst hn
  have : c < M := Nat.lt_of_mul_lt_mul_right h
  rw [← Nat.succ_mul]; exact Nat.mul_le_mul_right _ this

abbrev gt (xs : List Nat) (p : Nat) : Int := ((xs.getD p 0 : Nat) : Int)
/-- What the transform leaves. -/
def Trn (L q z : Nat) (xs ys : List Nat) : Prop := Fit (2 ^ L) q ys ∧ ∀ k, k < 2 ^ L → Cg q (gt ys k) (sm (2 ^ L) fun j => gt xs j * (z : Int) ^ (2 * (k * j)))

theorem fit_of {n q : Nat} {ys : List Nat} (hl : ys.length = n) (h : ∀ p, p < n → ys.getD p 0 < q) : Fit n q ys := ⟨hl, fun x hx => by
  obtain ⟨k, hk, rfl⟩ := List.getElem_of_mem hx
  have := h k (by omega)
  rw [getD_of (List.getElem?_eq_getElem hk)] at this
  exact this⟩
theorem fit_get {n q : Nat} {ys : List Nat} (h : Fit n q ys) {p : Nat} (hp : p < n) : ys.getD p 0 < q := h.2 _ (List.mem_of_getElem? (getD_lt (by rw [h.1]; exact hp)))

theorem Tryd_ent52 : Ent Tryd.prog 52 := ent_of Tryd.func52 (by kernel_rfl) rfl
set_option maxHeartbeats 4000000 in
theorem cyclic_spec (g va vp : Value) (t : Tbl) (z B : Nat) (xs : List Nat) (h : Hp) (K : TblOk t) (A : TblAt h g t) (o : OwnF h B 24 U va xs) (sp : SlF h U vp (pows z t.q (2 ^ t.L))) (hne1 : pblk g ≠ va.ownBlock) (hne2 : vp.ownBlock = none ∨ vp.ownBlock ≠ va.ownBlock) (hl : xs.length = 2 ^ t.L) (hx : ∀ x ∈ xs, x < t.q) (hz : Cg t.q ((z : Int) ^ (2 ^ t.L)) (-1)) :
    CallsH Tryd.prog 52 [g, va, vp] h fun v' h' => v' = va ∧ Only va.ownBlock h h' ∧ ∃ ys, OwnF h' B 24 U va ys ∧ Trn t.L t.q z xs ys := by
  have G := A.var
  have hn := K.size
  have hq := K.q61
  have hq1 := K.q1
  have hL1 := K.l1
  have hL9 := K.l9
  have hbl := blen_pow t.L (by omega)
  have hrv := fun i => rv64_rev (L := t.L) (i := i) hL1 hL9
  have hrl := fun i => rev_lt t.L i
  obtain ⟨L, q, w, u, p, vr, vu⟩ := t
  dsimp only at G hn hq hq1 sp hl hx hz hL1 hL9 hbl hrv hrl ⊢
  generalize hN : 2 ^ L = n at G hn sp hl hz hbl
  have hpl := pows_len z q n
  have s0 := o.sl
  (apply enter Tryd.func52 rfl Tryd.ntmps52 rfl)
  refine runJ ?_
  apply (s_call Tryd_ent76 rfl rfl rfl)
  refine (blen_spec n h (by omega)).mono ?_
  rintro _ _ ⟨rfl, rfl⟩
  refine ⟨(by first | exact trivial | exact Ext.refl _ | assumption | exact Ext.trans (by assumption) (by assumption)), ?_⟩
  rw [hbl]
  refine runJ ?_
  (first | (apply w_seqB; exact rfl; apply w_block; exact rfl) | skip)
  apply (w_loop (σ := Nat × List Nat) rfl (fun j => [(0, g), (1, va), (2, vp), (7, N L), (24, N n), (25, N j.1)])
    (fun j h' => Only va.ownBlock h h' ∧ j.1 ≤ n ∧ OwnF h' B 24 U va j.2 ∧ Swp L j.1 (fun p => xs.getD p 0) j.2) (fun j => n - j.1) (0, xs))
  · exact (Sub.consE rfl (by first | rfl | (refine congrArg I ?_; (try dsimp only); omega) | (refine congrArg Value.bool ?_; simp [*])) (Sub.consE rfl (by first | rfl | (refine congrArg I ?_; (try dsimp only); omega) | (refine congrArg Value.bool ?_; simp [*])) (Sub.consE rfl (by first | rfl | (refine congrArg I ?_; (try dsimp only); omega) | (refine congrArg Value.bool ?_; simp [*])) (Sub.consE rfl (by first | rfl | (refine congrArg I ?_; (try dsimp only); omega) | (refine congrArg Value.bool ?_; simp [*])) (Sub.consE rfl (by first | rfl | (refine congrArg I ?_; (try dsimp only); omega) | (refine congrArg Value.bool ?_; simp [*])) (Sub.consE rfl (by first | rfl | (refine congrArg I ?_; (try dsimp only); omega) | (refine congrArg Value.bool ?_; simp [*])) (Sub.nil _)))))))
  · exact ⟨Only.refl _ _, Nat.zero_le _, o, swp_start (by rw [hN]; exact hl) fun p _ => rfl⟩
  · rintro ⟨j, ys⟩ h2 ⟨k2, j1, o2, j2⟩
    dsimp only at k2 j1 o2 j2 ⊢
    have G2 := G.only k2 hne1
    have hyl : ys.length = n := by rw [j2.1, hN]
    refine runJ ?_
    (apply w_condD; exact rfl; exact rfl) <;> intro hj
    · have hr := hrl j
      have hrj := hrv j (by omega)
      rw [hN] at hr
      refine runJ ?_
      apply (s_call Tryd_ent77 rfl rfl rfl)
      refine (reverse_spec j h2 (by omega)).mono ?_
      rintro _ _ ⟨rfl, rfl⟩
      refine ⟨(by first | exact trivial | exact Ext.refl _ | assumption | exact Ext.trans (by assumption) (by assumption)), ?_⟩
      have hrb := rv64_lt j
      refine runJ ?_
      rw [hrj]
      (apply w_condD; exact rfl; exact rfl) <;> intro hjr
      · have x1 := swp_lo j2 (by omega) hjr
        have x2 := swp_hi j2 (by omega) hjr
        have st := swp_step j2 (by omega) hjr
        have hx1 : j < ys.length := by omega
        have hx2 : rev L j < ys.length := by omega
        generalize xs.getD j 0 = a at *
        generalize xs.getD (rev L j) 0 = b at *
        have hx3 : rev L j < (ys.set j b).length := by rw [List.length_set]; exact hx2
        have s2 := o2.sl
        refine runJN ?_
        (apply (r_drawnR (fun _ => True) (fun i => Nat.beq i 7 || Nat.beq i 11)); exact rfl; exact mixed; kernel_rfl; exact trivial)
        refine runJ ?_
        refine s_loadG rfl rfl (rd_now rfl trivial s2) rfl x2 ?_
        refine runJ ?_
        refine s_loadG rfl rfl (rd_now rfl trivial s2) rfl x1 ?_
        refine runJ ?_
        (apply (s_storeF (b)); exact rfl; exact rfl; exact rfl; exact rfl; exact rfl; exact o2; exact rfl; (first | assumption | omega))
        intro h3 o3 k3
        refine ⟨(by first | exact trivial | exact Ext.refl _ | assumption | exact Ext.trans (by assumption) (by assumption)), ?_⟩
        have s3 := o3.sl
        refine runJ ?_
        (apply (s_storeF (a)); exact rfl; exact rfl; exact rfl; exact rfl; exact rfl; exact o3; exact rfl; (first | assumption | omega))
        intro h4 o4 k4
        refine ⟨(by first | exact trivial | exact Ext.refl _ | assumption | exact Ext.trans (by assumption) (by assumption)), ?_⟩
        refine runJ ?_
        apply again_normal (j + 1, (ys.set j b).set (rev L j) a)
        · exact (Sub.cons rfl (Sub.cons rfl (Sub.cons rfl (Sub.cons rfl (Sub.cons rfl (Sub.cons rfl (Sub.nil _)))))))
        · exact ⟨(k2.trans k3).trans k4, by dsimp only; omega, o4, st⟩
        · dsimp only; omega
      · refine runJ ?_
        apply again_normal (j + 1, ys)
        · exact (Sub.cons rfl (Sub.cons rfl (Sub.cons rfl (Sub.cons rfl (Sub.cons rfl (Sub.cons rfl (Sub.nil _)))))))
        · exact ⟨k2, by dsimp only; omega, o2, swp_keep j2 (by omega) hjr⟩
        · dsimp only; omega
    · have hjn : j = n := by omega
      subst hjn
      have hst : Std q z L (gt xs) 0 (gt ys) := std_zero fun c hc => congrArg Int.ofNat (swp_end (by rw [hN]; exact j2) c hc)
      have hfit : Fit j q ys := fit_of hyl fun p hp => by
        have h1 := j2.2 p (by rw [hN]; exact hp)
        have h2 := hrl p
        rw [hN] at h2
        rw [h1]
        have hxf : Fit j q xs := ⟨hl, hx⟩
        split
        · exact fit_get hxf h2
        · exact fit_get hxf hp
      have hL := hN
      clear j2 hrv hrl hbl j1 hj hN
      refine runJ ?_
      (first | (apply w_seqB; exact rfl; apply w_block; exact rfl) | skip)
      apply (w_loop (σ := Nat × List Nat) rfl (fun i => [(0, g), (1, va), (2, vp), (10, N (2 ^ i.1))])
        (fun i h' => Only va.ownBlock h h' ∧ i.1 ≤ L ∧ OwnF h' B 24 U va i.2 ∧ Fit j q i.2 ∧ Std q z L (gt xs) i.1 (gt i.2)) (fun i => L - i.1) (0, ys))
      · exact (Sub.cons rfl (Sub.cons rfl (Sub.cons rfl (Sub.cons rfl (Sub.nil _)))))
      · exact ⟨k2, Nat.zero_le _, o2, hfit, hst⟩
      clear o2 k2 G2 hst hfit hyl ys h2
      rintro ⟨s, ys⟩ h2 ⟨k2, i1, o2, hfit, hst⟩
      dsimp only at k2 i1 o2 hfit hst ⊢
      have G2 := G.only k2 hne1
      have hs2 : 2 ^ s ≤ 2 ^ L := Nat.pow_le_pow_right (by decide) i1
      have hs0 : 0 < 2 ^ s := Nat.two_pow_pos s
      rw [hL] at hs2
      refine runJ ?_
      (apply w_condD; exact rfl; exact rfl) <;> intro hsn
      · have hsL : s < L := by
          rcases Nat.lt_or_ge s L with h1 | h1
          · exact h1
          · obtain rfl : s = L := by omega
            omega
        have hby := pow_by (L := L) (s := s) i1
        have hsplit := pow_split hsL
        have hkb := fun k (hk : k < 2 ^ s) => pow_kb (L := L) i1 hk
        have hps : (2 : Nat) ^ (s + 1) = 2 * 2 ^ s := by rw [Nat.pow_succ, Nat.mul_comm]
        have hbt := std_btf (W := fun m => z ^ m % q) (f := fun p => ys.getD p 0) (by omega) (by rw [hL]; exact hz) hsL (fun m _ => cg_of_mod (a := z ^ m) (Cg.of_eq (Int.natCast_pow _ _)) _ (Nat.mod_mod _ _)) hst
        have hbl := fun f p => btf_lt (q := q) (by omega) (fun m => z ^ m % q) (2 ^ s) (2 ^ (L - s)) f p
        rw [hL] at hby hkb hsplit
        have hlo := fun f c k (hk : k < 2 ^ s) => btf_lo (q := q) (W := fun m => z ^ m % q) (s := 2 ^ (L - s)) (f := f) (c := c) hk
        have hhi := fun f c k (hk : k < 2 ^ s) => btf_hi (q := q) (W := fun m => z ^ m % q) (s := 2 ^ (L - s)) (f := f) (c := c) hk
        generalize hgg : btf q (fun m => z ^ m % q) (2 ^ s) (2 ^ (L - s)) (fun p => ys.getD p 0) = gg at *
        have hlo := hlo (fun p => ys.getD p 0)
        have hhi := hhi (fun p => ys.getD p 0)
        rw [hgg] at hlo hhi
        generalize 2 ^ (L - s - 1) = M at *
        generalize 2 ^ (L - s) = by_ at *
        generalize 2 ^ s = d at *
        have hgq : ∀ p, gg p < q := fun p => by rw [← hgg]; exact hbl _ p
        clear hbl hst
        refine runJ ?_
        rw [hby]
        (first | (apply w_seqB; exact rfl; apply w_block; exact rfl) | skip)
        apply (w_loop (σ := Nat × List Nat) rfl (fun i => [(0, g), (1, va), (2, vp), (10, N d), (11, N by_), (12, N (i.1 * (2 * d)))])
          (fun i h' => Only va.ownBlock h h' ∧ i.1 ≤ M ∧ OwnF h' B 24 U va i.2 ∧ Mid j d (i.1 * (2 * d)) 0 (fun p => ys.getD p 0) gg i.2) (fun i => M - i.1) (0, ys))
        · exact (Sub.consE rfl (by first | rfl | (refine congrArg I ?_; (try dsimp only); omega) | (refine congrArg Value.bool ?_; simp [*])) (Sub.consE rfl (by first | rfl | (refine congrArg I ?_; (try dsimp only); omega) | (refine congrArg Value.bool ?_; simp [*])) (Sub.consE rfl (by first | rfl | (refine congrArg I ?_; (try dsimp only); omega) | (refine congrArg Value.bool ?_; simp [*])) (Sub.consE rfl (by first | rfl | (refine congrArg I ?_; (try dsimp only); omega) | (refine congrArg Value.bool ?_; simp [*])) (Sub.consE rfl (by first | rfl | (refine congrArg I ?_; (try dsimp only); omega) | (refine congrArg Value.bool ?_; simp [*])) (Sub.consE rfl (by first | rfl | (refine congrArg I ?_; (try dsimp only); omega) | (refine congrArg Value.bool ?_; simp [*])) (Sub.nil _)))))))
        · exact ⟨k2, Nat.zero_le _, o2, by rw [Nat.zero_mul]; exact mid_start hfit.1 fun p _ => rfl⟩
        clear o2 k2 G2 h2
        rintro ⟨c, zs⟩ h2 ⟨k2, c1, o2, m2⟩
        dsimp only at k2 c1 o2 m2 ⊢
        have G2 := G.only k2 hne1
        refine runJ ?_
        (apply w_condD; exact rfl; exact rfl) <;> intro hc
        · have room := blk_room hsplit hc
          have hcM : c < M := by rw [hsplit] at hc; exact Nat.lt_of_mul_lt_mul_right hc
          have hlo := hlo c
          have hhi := hhi c
          have hnx : (c + 1) * (2 * d) = c * (2 * d) + 2 * d := Nat.succ_mul _ _
          generalize c * (2 * d) = i at *
          refine runJ ?_
          (first | (apply w_seqB; exact rfl; apply w_block; exact rfl) | skip)
          apply (w_loop (σ := Nat × List Nat) rfl (fun k => [(0, g), (1, va), (2, vp), (10, N d), (11, N by_), (12, N i), (78, N d), (79, N k.1)])
            (fun k h' => Only va.ownBlock h h' ∧ k.1 ≤ d ∧ OwnF h' B 24 U va k.2 ∧ Mid j d i k.1 (fun p => ys.getD p 0) gg k.2) (fun k => d - k.1) (0, zs))
          · exact (Sub.cons rfl (Sub.cons rfl (Sub.cons rfl (Sub.cons rfl (Sub.cons rfl (Sub.cons rfl (Sub.cons rfl (Sub.cons rfl (Sub.nil _)))))))))
          · exact ⟨k2, Nat.zero_le _, o2, m2⟩
          clear o2 k2 G2 h2 m2
          rintro ⟨k, zs⟩ h2 ⟨k2, d1, o2, m2⟩
          dsimp only at k2 d1 o2 m2 ⊢
          have G2 := G.only k2 hne1
          have sp2 := sp.only k2 hne2
          refine runJ ?_
          (apply w_condD; exact rfl; exact rfl) <;> intro hk
          · have hlo := hlo k hk
            have hhi := hhi k hk
            have x1 := mid_lo m2 hk room
            have x2 := mid_hi m2 hk room
            have st := mid_step m2 hk room
            have hkb := hkb k hk
            have hp := pows_get (w := z) (q := q) hkb
            have hx1 : i + k < zs.length := by rw [m2.1]; omega
            have hx2 : i + k + d < zs.length := by rw [m2.1]; omega
            have q1 : ys.getD (i + k) 0 < q := fit_get hfit (by omega)
            have q2 : ys.getD (i + k + d) 0 < q := fit_get hfit (by omega)
            have q3 : z ^ (k * by_) % q < q := Nat.mod_lt _ (by omega)
            generalize ys.getD (i + k) 0 = x at *
            generalize ys.getD (i + k + d) 0 = y at *
            generalize z ^ (k * by_) % q = v at *
            have q4 : mulm y v q < q := mulm_lt (by omega)
            have s2 := o2.sl
            refine runJ ?_
            apply (s_call Tryd_ent48 rfl rfl rfl)
            refine (mul_spec y v q h2 (by omega) (by omega) (by omega)).mono ?_
            rintro _ _ ⟨rfl, rfl⟩
            refine ⟨(by first | exact trivial | exact Ext.refl _ | assumption | exact Ext.trans (by assumption) (by assumption)), ?_⟩
            rw [hlo, hhi] at st
            generalize mulm y v q = r at *
            have hx3 : i + k + d < (zs.set (i + k) (addm x r q)).length := by rw [List.length_set]; exact hx2
            refine runJN ?_
            (apply (r_drawnO (va.ownBlock)); exact rfl; exact mixed; kernel_rfl)
            refine runJ ?_
            apply (s_call Tryd_ent62 rfl rfl rfl)
            refine (add_spec x r q h2 (by omega) (by omega) (by omega)).mono ?_
            rintro _ _ ⟨rfl, rfl⟩
            refine ⟨Only.refl _ _, ?_⟩
            refine runJ ?_
            apply (s_call Tryd_ent63 rfl rfl rfl)
            refine (sub_spec x r q h2 (by omega) (by omega) (by omega)).mono ?_
            rintro _ _ ⟨rfl, rfl⟩
            refine ⟨Only.refl _ _, ?_⟩
            refine runJ ?_
            (apply (s_storeF (addm x r q)); exact rfl; exact rfl; exact rfl; exact rfl; exact rfl; exact o2; exact rfl; (first | assumption | omega))
            intro h3 o3 k3
            refine ⟨(by first | exact k3 | exact trivial | exact Ext.refl _ | assumption | exact Ext.trans (by assumption) (by assumption)), ?_⟩
            have s3 := o3.sl
            refine runJ ?_
            (apply (s_storeF (subm x r q)); exact rfl; exact rfl; exact rfl; exact rfl; exact rfl; exact o3; exact rfl; (first | assumption | omega))
            intro h4 o4 k4
            refine ⟨(by first | exact (k3.trans k4) | exact trivial | exact Ext.refl _ | assumption | exact Ext.trans (by assumption) (by assumption)), ?_⟩
            refine runJ ?_
            apply again_normal (k + 1, (zs.set (i + k) (addm x r q)).set (i + k + d) (subm x r q))
            · exact (Sub.cons rfl (Sub.cons rfl (Sub.cons rfl (Sub.cons rfl (Sub.cons rfl (Sub.cons rfl (Sub.cons rfl (Sub.cons rfl (Sub.nil _)))))))))
            · exact ⟨(k2.trans k3).trans k4, by dsimp only; omega, o4, st⟩
            · dsimp only; omega
          · obtain rfl : k = d := by omega
            refine runJ ?_
            apply again_normal (c + 1, zs)
            · exact (Sub.consE rfl (by first | rfl | (refine congrArg I ?_; (try dsimp only); omega) | (refine congrArg Value.bool ?_; simp [*])) (Sub.consE rfl (by first | rfl | (refine congrArg I ?_; (try dsimp only); omega) | (refine congrArg Value.bool ?_; simp [*])) (Sub.consE rfl (by first | rfl | (refine congrArg I ?_; (try dsimp only); omega) | (refine congrArg Value.bool ?_; simp [*])) (Sub.consE rfl (by first | rfl | (refine congrArg I ?_; (try dsimp only); omega) | (refine congrArg Value.bool ?_; simp [*])) (Sub.consE rfl (by first | rfl | (refine congrArg I ?_; (try dsimp only); omega) | (refine congrArg Value.bool ?_; simp [*])) (Sub.consE rfl (by first | rfl | (refine congrArg I ?_; (try dsimp only); omega) | (refine congrArg Value.bool ?_; simp [*])) (Sub.nil _)))))))
            · exact ⟨k2, hcM, o2, by dsimp only; rw [hnx]; exact mid_next m2 hs0⟩
            · dsimp only; omega
        · have hend := mid_end m2 (by omega)
          refine runJ ?_
          apply again_normal (s + 1, zs)
          · exact (Sub.consE rfl (by first | rfl | (refine congrArg I ?_; (try dsimp only); omega) | (refine congrArg Value.bool ?_; simp [*])) (Sub.consE rfl (by first | rfl | (refine congrArg I ?_; (try dsimp only); omega) | (refine congrArg Value.bool ?_; simp [*])) (Sub.consE rfl (by first | rfl | (refine congrArg I ?_; (try dsimp only); omega) | (refine congrArg Value.bool ?_; simp [*])) (Sub.consE rfl (by first | rfl | (refine congrArg I ?_; (try dsimp only); omega) | (refine congrArg Value.bool ?_; simp [*])) (Sub.nil _)))))
          · refine ⟨k2, hsL, o2, fit_of m2.1 fun p hp => by rw [hend p hp]; exact hgq p, ?_⟩
            exact std_congr hsL hbt fun p hp => congrArg Int.ofNat (hend p (by omega))
          · dsimp only; omega
      · have hsL : s = L := by
          rcases Nat.lt_or_ge s L with h1 | h1
          · have := Nat.pow_lt_pow_right (a := 2) (by decide) h1
            omega
          · omega
        subst hsL
        refine runJ ?_
        exact fin1 rfl rfl ⟨rfl, k2, ys, o2, by rw [hL]; exact hfit, fun k hk => std_last hst hk⟩
end Go.Proofs.YtfgfmempmkjlnaaDoor

/- Package ntt: values, back, products. No condition. -/
namespace Go.Proofs.YtfgfmempmkjlnaaDoor
set_option linter.unusedVariables false
set_option maxRecDepth 8000
open Go Go.Den Go.RowKit Go.Mth

theorem own_sepV {α : Type} {h h1 : Hp} {f : α → Value} {B : Nat} {e e' : TypeId} {w p : Value} {ws : List α} {cs : List Value} (o : OwnF h1 B e f w ws) (s : Var h p e' cs) (hB : h.size ≤ B) : pblk p ≠ w.ownBlock := by
  obtain ⟨j, hj, hlt⟩ := s.blk
  rw [hj]
  intro hc
  have := (o.blk j hc.symm).1
  omega
theorem own_sepS {α β : Type} {h h1 : Hp} {f : α → Value} {f' : β → Value} {B : Nat} {e : TypeId} {w v : Value} {ws : List α} {xs : List β} (o : OwnF h1 B e f w ws) (s : SlF h f' v xs) (h0 : 0 < xs.length) (hB : h.size ≤ B) : v.ownBlock = none ∨ v.ownBlock ≠ w.ownBlock := by
  cases hv : v.ownBlock with
  | none => exact .inl rfl
  | some j =>
    refine .inr fun hc => ?_
    have h1 := s.lt h0 j hv
    have := (o.blk j hc.symm).1
    omega

theorem twl_len (z q : Nat) (xs : List Nat) : (twl z q xs).length = xs.length := by unfold twl; simp
theorem twl_get {z q : Nat} {xs : List Nat} {j : Nat} (h : j < xs.length) : (twl z q xs).getD j 0 = mulm (xs.getD j 0) (z ^ j % q) q := by
  refine getD_of ?_
  unfold twl; rw [List.getElem?_map, List.getElem?_range h]; rfl
theorem twl_fit {z q n : Nat} {xs : List Nat} (hq : 0 < q) (h : xs.length = n) : Fit n q (twl z q xs) := fit_of (by rw [twl_len, h]) fun p hp => by rw [twl_get (by omega)]; exact mulm_lt hq
theorem twl_cg {z q : Nat} {xs : List Nat} {j : Nat} (hq : 0 < q) (h : j < xs.length) : Cg q (gt (twl z q xs) j) (gt xs j * (z : Int) ^ j) := by
  unfold gt; rw [twl_get h]
  exact (cg_mulm hq _ _).trans ((Cg.refl _ _).mul (cg_of_mod (a := z ^ j) (Cg.of_eq (Int.natCast_pow _ _)) _ (Nat.mod_mod _ _)))

theorem TblOk.cw {t : Tbl} (K : TblOk t) : Cg t.q ((t.w : Int) ^ (2 ^ t.L)) (-1) := cg_root K.q1 K.wn
theorem TblOk.cuw {t : Tbl} (K : TblOk t) : Cg t.q ((t.u : Int) * t.w) 1 := by rw [Int.mul_comm]; exact cg_one K.uw
theorem TblOk.cu {t : Tbl} (K : TblOk t) : Cg t.q ((t.u : Int) ^ (2 ^ t.L)) (-1) := u_root K.cuw K.cw
theorem TblOk.cp {t : Tbl} (K : TblOk t) : Cg t.q (((2 ^ t.L : Nat) : Int) * t.p) 1 := cg_one K.np

/-- The values of a row; the row of values. -/
def Val (t : Tbl) (xs ys : List Nat) : Prop := Fit (2 ^ t.L) t.q ys ∧ ∀ k, k < 2 ^ t.L → Cg t.q (gt ys k) (dft (2 ^ t.L) t.w (gt xs) k)
def Bck (t : Tbl) (xs ys : List Nat) : Prop := Fit (2 ^ t.L) t.q ys ∧ ∀ k, k < 2 ^ t.L → Cg t.q (gt ys k) (idft (2 ^ t.L) t.u t.p (gt xs) k)

theorem val_of {t : Tbl} (K : TblOk t) {xs ys : List Nat} (hl : xs.length = 2 ^ t.L) (h : Trn t.L t.q t.w (twl t.w t.q xs) ys) : Val t xs ys := by
  refine ⟨h.1, fun k hk => (h.2 k hk).trans ?_⟩
  refine sm_cg _ fun j hj => ((twl_cg (by have := K.q1; omega) (by omega)).mul (Cg.refl _ _)).trans (Cg.of_eq ?_)
  rw [Int.mul_assoc, ← Int.pow_add]
  congr 2
  grind
theorem bck_of {t : Tbl} (K : TblOk t) {xs ys zs : List Nat} (h : Trn t.L t.q t.u xs ys) (hz : zs = (twl t.u t.q ys).map fun y => mulm y t.p t.q) : Bck t xs zs := by
  have hq : 0 < t.q := by have := K.q1; omega
  have hg : ∀ k, k < 2 ^ t.L → zs.getD k 0 = mulm ((twl t.u t.q ys).getD k 0) t.p t.q := fun k hk => by
    refine getD_of ?_
    rw [hz, List.getElem?_map, getD_lt (by rw [twl_len, h.1.1]; exact hk)]; rfl
  refine ⟨fit_of (by rw [hz, List.length_map, twl_len, h.1.1]) fun p hp => by rw [hg p hp]; exact mulm_lt hq, fun k hk => ?_⟩
  unfold gt; rw [hg k hk]
  refine (cg_mulm hq _ _).trans ?_
  refine ((twl_cg hq (by rw [h.1.1]; exact hk)).mul (Cg.refl _ _)).trans ?_
  refine (((h.2 k hk).mul (Cg.refl _ _)).mul (Cg.refl _ _)).trans (Cg.of_eq ?_)
  unfold idft
  rw [Int.mul_comm _ (t.p : Int), Int.mul_comm _ ((t.u : Int) ^ k)]

theorem Tryd_ent15 : Ent Tryd.prog 15 := ent_of Tryd.func15 (by kernel_rfl) rfl
set_option maxHeartbeats 1000000 in
theorem values_spec (g va : Value) (t : Tbl) (xs : List Nat) (h : Hp) (K : TblOk t) (A : TblAt h g t) (s : SlF h U va xs) (hf : Fit (2 ^ t.L) t.q xs) :
    CallsH Tryd.prog 15 [g, va] h fun v' h' => Ext h h' ∧ ∃ r ys, v' = .tuple #[r, N 0] ∧ OwnF h' h.size 24 U r ys ∧ Val t xs ys := by
  have hq61 := K.q61
  have hq1 := K.q1
  have hn := K.size
  have FS := fits_spec g va t xs h K A s (by rw [hf.1]; omega) (fun x hx => by have := hf.2 x hx; omega)
  rw [decide_eq_true hf] at FS
  have TW := twist_spec g va t.vr t t.w xs h K A s A.rr hf.1 hf.2
  have G := A.var
  have hq0 : 0 < t.q := by omega
  have hVal := fun ys => val_of (ys := ys) K hf.1
  have hpl : (pows t.w t.q (2 ^ t.L)).length = 2 ^ t.L := pows_len _ _ _
  (apply enter Tryd.func15 rfl Tryd.ntmps15 rfl)
  refine runJ ?_
  apply (s_call Tryd_ent51 rfl rfl rfl)
  refine (FS).mono ?_
  rintro _ _ ⟨rfl, rfl⟩
  refine ⟨(by first | exact trivial | exact Ext.refl _ | assumption | exact Ext.trans (by assumption) (by assumption)), ?_⟩
  refine runJ ?_
  apply (s_call Tryd_ent53 rfl rfl rfl)
  refine (TW).mono ?_
  rintro w1 h1 ⟨e1, o1⟩
  refine ⟨e1, ?_⟩
  have G1 := G.ext e1
  have CY := cyclic_spec g w1 t.vr t t.w h.size _ h1 K (A.ext e1) o1 (A.rr.ext e1) (own_sepV o1 G (Nat.le_refl _)) (own_sepS o1 A.rr (by omega) (Nat.le_refl _)) (by rw [twl_len]; exact hf.1) (twl_fit hq0 rfl).2 K.cw
  refine runJ ?_
  apply (s_call Tryd_ent52 rfl rfl rfl)
  refine (CY).mono ?_
  rintro _ h2 ⟨rfl, k2, ys, o2, hT⟩
  refine ⟨(o1.old k2 e1 (Nat.le_refl _)), ?_⟩
  refine runJ ?_
  exact fin2 rfl rfl rfl ⟨o1.old k2 e1 (Nat.le_refl _), _, ys, rfl, o2, hVal ys hT⟩

theorem set_get {ys : List Nat} {j k x y : Nat} (hj : j < ys.length) (h : (ys.set j x)[k]? = some y) : (k = j ∧ y = x) ∨ (k ≠ j ∧ ys[k]? = some y) := by
  rw [List.getElem?_set] at h
  by_cases e : j = k
  · subst e
    rw [if_pos rfl, if_pos hj] at h
    cases h
    exact .inl ⟨rfl, rfl⟩
  · rw [if_neg e] at h
    exact .inr ⟨fun e' => e e'.symm, h⟩

theorem Tryd_ent16 : Ent Tryd.prog 16 := ent_of Tryd.func16 (by kernel_rfl) rfl
set_option maxHeartbeats 1000000 in
theorem back_spec (g va : Value) (t : Tbl) (xs : List Nat) (h : Hp) (K : TblOk t) (A : TblAt h g t) (s : SlF h U va xs) (hf : Fit (2 ^ t.L) t.q xs) :
    CallsH Tryd.prog 16 [g, va] h fun v' h' => Ext h h' ∧ ∃ r ys, v' = .tuple #[r, N 0] ∧ OwnF h' h.size 24 U r ys ∧ Bck t xs ys := by
  have hq61 := K.q61
  have hq1 := K.q1
  have hn := K.size
  have FS := fits_spec g va t xs h K A s (by rw [hf.1]; omega) (fun x hx => by have := hf.2 x hx; omega)
  rw [decide_eq_true hf] at FS
  have G := A.var
  have hq0 : 0 < t.q := by omega
  have hpq := K.pl
  have hpl : (pows t.u t.q (2 ^ t.L)).length = 2 ^ t.L := pows_len _ _ _
  have hfl := hf.1
  (apply enter Tryd.func16 rfl Tryd.ntmps16 rfl)
  refine runJ ?_
  apply (s_call Tryd_ent51 rfl rfl rfl)
  refine (FS).mono ?_
  rintro _ _ ⟨rfl, rfl⟩
  refine ⟨(by first | exact trivial | exact Ext.refl _ | assumption | exact Ext.trans (by assumption) (by assumption)), ?_⟩
  refine runJ ?_
  (apply (s_litF (f := U) [] (fun _ => rfl)); exact rfl; exact rfl; exact rfl; exact rfl; exact rfl; exact rfl; exact rfl; exact rfl; omega)
  intro w1 h1 o1 e1 b1
  refine ⟨(by first | exact trivial | exact Ext.refl _ | assumption | exact Ext.trans (by assumption) (by assumption)), ?_⟩
  have s1 := s.ext e1
  refine runJ ?_
  (apply (s_appendF (bytes := 8)); exact rfl; exact rfl; exact rfl; exact rfl; exact rfl; exact rfl; exact rfl; exact o1; exact s1; exact fun _ => rfl; (first | exact Nat.le_refl _ | exact ext_size (by assumption) | omega); ((try simp only [maxLen]); (try simp only [List.length_nil]); (try simp only [List.length_append]); omega); ((try simp only [List.length_nil]); (try simp only [List.length_append]); omega))
  intro w2 h2 o2 k2 b2
  refine ⟨(by first | exact (o1.old k2 e1 (Nat.le_refl _)) | exact trivial | exact Ext.refl _ | assumption | exact Ext.trans (by assumption) (by assumption)), ?_⟩
  have e2 : Ext h h2 := o1.old k2 e1 (Nat.le_refl _)
  rw [List.nil_append] at o2
  have G2 := G.ext e2
  have CY := cyclic_spec g w2 t.vu t t.u h.size _ h2 K (A.ext e2) o2 (A.ru.ext e2) (own_sepV o2 G (Nat.le_refl _)) (own_sepS o2 A.ru (by omega) (Nat.le_refl _)) hf.1 hf.2 K.cu
  refine runJ ?_
  apply (s_call Tryd_ent52 rfl rfl rfl)
  refine (CY).mono ?_
  rintro w3 h3 ⟨rfl, k3, ys, o3, hT⟩
  refine ⟨(o2.old k3 e2 (Nat.le_refl _)), ?_⟩
  have e3 : Ext h h3 := o2.old k3 e2 (Nat.le_refl _)
  have A3 := A.ext e3
  have G3 := A3.var
  have TW := twist_spec g w3 t.vu t t.u ys h3 K A3 o3.sl A3.ru hT.1.1 hT.1.2
  refine runJ ?_
  apply (s_call Tryd_ent53 rfl rfl rfl)
  refine (TW).mono ?_
  rintro w4 h4 ⟨e4, o4⟩
  refine ⟨(e3.trans e4), ?_⟩
  have G4 := G3.ext e4
  have e04 := e3.trans e4
  have o4 := o4.base e3.1
  have hTw := twl_fit (z := t.u) hq0 hT.1.1
  have hBk := fun zs => bck_of (zs := zs) K hT
  clear TW CY FS
  generalize twl t.u t.q ys = zs at *
  have o4s := o4.sl
  refine runJ ?_
  (first | (apply w_seqB; exact rfl; apply w_block; exact rfl) | skip)
  apply (w_loop (σ := Nat × List Nat) rfl (fun j => [(0, g), (6, w4), (32, N (2 ^ t.L)), (33, N j.1)])
    (fun j h' => Ext h h' ∧ Only w4.ownBlock h4 h' ∧ j.1 ≤ 2 ^ t.L ∧ OwnF h' h.size 24 U w4 j.2 ∧ j.2.length = 2 ^ t.L ∧ ∀ (k y : Nat), j.2[k]? = some y → y = if k < j.1 then mulm (zs.getD k 0) t.p t.q else zs.getD k 0) (fun j => 2 ^ t.L - j.1) (0, zs))
  · rw [← hTw.1]
    exact (Sub.cons rfl (Sub.cons rfl (Sub.cons rfl (Sub.cons rfl (Sub.nil _)))))
  · exact ⟨e04, Only.refl _ _, Nat.zero_le _, o4, hTw.1, fun k y hy => by rw [if_neg (Nat.not_lt_zero _), getD_of hy]⟩
  rintro ⟨j, us⟩ h5 ⟨e5, k5, j1, o5, j2, j3⟩
  dsimp only at e5 k5 j1 o5 j2 j3 ⊢
  have G5 := G.ext e5
  refine runJ ?_
  (apply w_condD; exact rfl; exact rfl) <;> intro hj
  · obtain ⟨x, hx⟩ := get_lt (l := us) (j := j) (by omega)
    have hxv := j3 j x hx
    rw [if_neg (Nat.lt_irrefl _)] at hxv
    have hxq : x < t.q := by rw [hxv]; exact fit_get hTw hj
    have o5s := o5.sl
    have nG := own_sepV o5 G (Nat.le_refl _)
    refine runJN ?_
    (apply (r_drawnR (Only w4.ownBlock h5) (fun i => Nat.beq i 5)); exact rfl; exact mixed; kernel_rfl; exact Only.refl _ _)
    refine runJ ?_
    refine s_loadG rfl rfl (rd_now rfl (Only.refl _ _) o5s) rfl hx ?_
    refine runJ ?_
    apply (s_call Tryd_ent48 rfl rfl rfl)
    refine (mul_spec x t.p t.q h5 (by omega) (by omega) (by omega)).mono ?_
    rintro _ _ ⟨rfl, rfl⟩
    refine ⟨Only.refl _ _, ?_⟩
    refine runJ ?_
    (apply (s_storeF (mulm x t.p t.q)); exact rfl; exact rfl; exact rfl; exact rfl; exact rfl; exact o5; exact rfl; (first | assumption | omega))
    intro h6 o6 k6
    refine ⟨(by first | exact k6 | exact trivial | exact Ext.refl _ | assumption | exact Ext.trans (by assumption) (by assumption)), ?_⟩
    refine runJ ?_
    apply again_normal (j + 1, us.set j (mulm x t.p t.q))
    · exact (Sub.cons rfl (Sub.cons rfl (Sub.cons rfl (Sub.cons rfl (Sub.nil _)))))
    · refine ⟨o5.old k6 e5 (Nat.le_refl _), k5.trans k6, by dsimp only; omega, o6, by simp [j2], fun k y hy => ?_⟩
      dsimp only at hy ⊢
      rcases set_get (by omega) hy with ⟨rfl, rfl⟩ | ⟨hk, hy⟩
      · rw [if_pos (by omega), hxv]
      · rw [j3 k y hy]
        by_cases hkj : k < j
        · rw [if_pos hkj, if_pos (by omega)]
        · rw [if_neg hkj, if_neg (by omega)]
    · dsimp only; omega
  · have hjn : j = 2 ^ t.L := by omega
    have hus : us = zs.map fun y => mulm y t.p t.q := by
      refine list_eq (by rw [List.length_map, j2, hTw.1]) fun k a b ha hb => ?_
      have hk := (List.getElem?_eq_some_iff.1 ha).1
      rw [j3 k a ha, if_pos (by omega)]
      rw [List.getElem?_map, getD_lt (by rw [hTw.1]; omega)] at hb
      exact Option.some.inj hb
    refine runJ ?_
    exact fin2 rfl rfl rfl ⟨e5, _, us, rfl, o5, hBk us hus⟩
end Go.Proofs.YtfgfmempmkjlnaaDoor

/- Package ntt: products, and how a table is made. Condition of the last: the table of math/bits reads aa it is laid. -/
namespace Go.Proofs.YtfgfmempmkjlnaaDoor
set_option linter.unusedVariables false
set_option maxRecDepth 8000
open Go Go.Den Go.RowKit Go.Mth

theorem sep_flip {a b : Option Nat} (h : a = none ∨ a ≠ b) : b = none ∨ b ≠ a := by
  rcases h with h | h
  · subst h; cases b <;> simp
  · exact .inr fun e => h e.symm

/-- The product of two rows, told by its values. -/
def Prd (t : Tbl) (aa bb rs : List Nat) : Prop := Fit (2 ^ t.L) t.q rs ∧ ∀ k, k < 2 ^ t.L → Cg t.q (dft (2 ^ t.L) t.w (gt rs) k) (dft (2 ^ t.L) t.w (gt aa) k * dft (2 ^ t.L) t.w (gt bb) k)
theorem prd_of {t : Tbl} (K : TblOk t) {aa bb xs ys zs rs : List Nat} (hx : Val t aa xs) (hy : Val t bb ys) (hz : ∀ k, k < 2 ^ t.L → zs.getD k 0 = mulm (xs.getD k 0) (ys.getD k 0) t.q) (hr : Bck t zs rs) : Prd t aa bb rs := by
  have hq : 0 < t.q := by have := K.q1; omega
  refine ⟨hr.1, fun k hk => ?_⟩
  refine (dft_cg (b := fun i => idft (2 ^ t.L) t.u t.p (gt zs) i) (fun j hj => hr.2 j hj) k).trans ?_
  refine (dft_idft K.cw K.cuw K.cp (gt zs) hk).trans ?_
  have e : gt zs k = ((mulm (xs.getD k 0) (ys.getD k 0) t.q : Nat) : Int) := by unfold gt; rw [hz k hk]
  rw [e]
  exact (cg_mulm hq _ _).trans ((hx.2 k hk).mul (hy.2 k hk))

theorem Tryd_ent18 : Ent Tryd.prog 18 := ent_of Tryd.func18 (by kernel_rfl) rfl
set_option maxHeartbeats 1000000 in
theorem nttMul_spec (g va vb : Value) (t : Tbl) (aa bb : List Nat) (h : Hp) (K : TblOk t) (A : TblAt h g t) (sa : SlF h U va aa) (sb : SlF h U vb bb) (ha : Fit (2 ^ t.L) t.q aa) (hb : Fit (2 ^ t.L) t.q bb) :
    CallsH Tryd.prog 18 [g, va, vb] h fun v' h' => Ext h h' ∧ ∃ r rs, v' = .tuple #[r, N 0] ∧ OwnF h' h.size 24 U r rs ∧ Prd t aa bb rs := by
  have hq61 := K.q61
  have hq1 := K.q1
  have hn := K.size
  have hq0 : 0 < t.q := by omega
  have G := A.var
  (apply enter Tryd.func18 rfl Tryd.ntmps18 rfl)
  refine runJ ?_
  refine s_callV rfl Tryd_ent15 rfl rfl rfl ?_
  refine (values_spec g va t aa h K A sa ha).mono ?_
  rintro _ h1 ⟨e1, w1, xs, rfl, o1, V1⟩
  refine ⟨(by first | exact trivial | exact trivial), ?_⟩
  refine runJ ?_
  refine s_callV rfl Tryd_ent15 rfl rfl rfl ?_
  refine (values_spec g vb t bb h1 K (A.ext e1) (sb.ext e1) hb).mono ?_
  rintro _ h2 ⟨e2, w2, ys, rfl, o2, V2⟩
  refine ⟨(by first | exact trivial | exact trivial), ?_⟩
  have e12 := e1.trans e2
  have ne12 := sep_flip (own_sepS o2 o1.sl (by rw [V1.1.1]; omega) (Nat.le_refl _))
  have o1 := o1.ext e2
  have s2 := o2.sl
  have hl1 := V1.1.1
  have hl2 := V2.1.1
  refine runJ ?_
  (first | (apply w_seqB; exact rfl; apply w_block; exact rfl) | skip)
  apply (w_loop (σ := Nat × List Nat) rfl (fun j => [(0, g), (9, w1), (11, w2), (34, N (2 ^ t.L)), (35, N j.1)])
    (fun j h' => Ext h h' ∧ Only w1.ownBlock h2 h' ∧ j.1 ≤ 2 ^ t.L ∧ OwnF h' h.size 24 U w1 j.2 ∧ j.2.length = 2 ^ t.L ∧ ∀ (k y : Nat), j.2[k]? = some y → y = if k < j.1 then mulm (xs.getD k 0) (ys.getD k 0) t.q else xs.getD k 0) (fun j => 2 ^ t.L - j.1) (0, xs))
  · rw [← hl1]
    exact (Sub.cons rfl (Sub.cons rfl (Sub.cons rfl (Sub.cons rfl (Sub.cons rfl (Sub.nil _))))))
  · exact ⟨e12, Only.refl _ _, Nat.zero_le _, o1, hl1, fun k y hy => by rw [if_neg (Nat.not_lt_zero _), getD_of hy]⟩
  rintro ⟨j, us⟩ h5 ⟨e5, k5, j1, o5, j2, j3⟩
  dsimp only at e5 k5 j1 o5 j2 j3 ⊢
  have G5 := G.ext e5
  have s5 := s2.only k5 ne12
  refine runJ ?_
  (apply w_condD; exact rfl; exact rfl) <;> intro hj
  · obtain ⟨x, hx⟩ := get_lt (l := us) (j := j) (by omega)
    obtain ⟨y, hy⟩ := get_lt (l := ys) (j := j) (by omega)
    have hxv := j3 j x hx
    rw [if_neg (Nat.lt_irrefl _)] at hxv
    have hxq : x < t.q := by rw [hxv]; exact fit_get V1.1 hj
    have hyq : y < t.q := V2.1.2 y (List.mem_of_getElem? hy)
    have o5s := o5.sl
    have nG := own_sepV o5 G (Nat.le_refl _)
    refine runJN ?_
    (apply (r_drawnR (Only w1.ownBlock h5) (fun i => Nat.beq i 5)); exact rfl; exact mixed; kernel_rfl; exact Only.refl _ _)
    refine runJ ?_
    refine s_loadG rfl rfl (rd_now rfl (Only.refl _ _) o5s) rfl hx ?_
    refine runJ ?_
    apply (s_call Tryd_ent48 rfl rfl rfl)
    refine (mul_spec x y t.q h5 (by omega) (by omega) (by omega)).mono ?_
    rintro _ _ ⟨rfl, rfl⟩
    refine ⟨Only.refl _ _, ?_⟩
    refine runJ ?_
    (apply (s_storeF (mulm x y t.q)); exact rfl; exact rfl; exact rfl; exact rfl; exact rfl; exact o5; exact rfl; (first | assumption | omega))
    intro h6 o6 k6
    refine ⟨(by first | exact k6 | exact trivial | exact Ext.refl _ | assumption | exact Ext.trans (by assumption) (by assumption)), ?_⟩
    refine runJ ?_
    apply again_normal (j + 1, us.set j (mulm x y t.q))
    · exact (Sub.cons rfl (Sub.cons rfl (Sub.cons rfl (Sub.cons rfl (Sub.cons rfl (Sub.nil _))))))
    · refine ⟨o5.old k6 e5 (Nat.le_refl _), k5.trans k6, by dsimp only; omega, o6, by simp [j2], fun k z hz => ?_⟩
      dsimp only at hz ⊢
      rcases set_get (by omega) hz with ⟨rfl, rfl⟩ | ⟨hk, hz⟩
      · rw [if_pos (by omega), hxv, getD_of hy]
      · rw [j3 k z hz]
        by_cases hkj : k < j
        · rw [if_pos hkj, if_pos (by omega)]
        · rw [if_neg hkj, if_neg (by omega)]
    · dsimp only; omega
  · have hjn : j = 2 ^ t.L := by omega
    have hus : ∀ k, k < 2 ^ t.L → us.getD k 0 = mulm (xs.getD k 0) (ys.getD k 0) t.q := fun k hk => by
      have := j3 k _ (getD_lt (by omega))
      rw [if_pos (by omega)] at this
      exact this
    have hfu : Fit (2 ^ t.L) t.q us := fit_of j2 fun k hk => by rw [hus k hk]; exact mulm_lt hq0
    refine runJ ?_
    apply (s_call Tryd_ent16 rfl rfl rfl)
    refine (back_spec g w1 t us h5 K (A.ext e5) o5.sl hfu).mono ?_
    rintro _ h6 ⟨e6, w6, rs, rfl, o6, B6⟩
    refine ⟨(by first | exact trivial | exact trivial), ?_⟩
    refine runJ ?_
    exact fin2 rfl rfl rfl ⟨e5.trans e6, _, rs, rfl, o6.base e5.1, prd_of K V1 V2 hus B6⟩

theorem Tryd_ent47 : Ent Tryd.prog 47 := ent_of Tryd.func47 (by kernel_rfl) rfl
theorem powers_spec (w q n : Nat) (p1 p2 : Value) (h : Hp) (P1 : Var h p1 3 [N n]) (P2 : Var h p2 24 [U q]) (hn : 1 ≤ n) (hn2 : n ≤ 4096) (hq : 1 < q) (hq2 : q < 2305843009213693952) (hw : w < q) :
    CallsH Tryd.prog 47 [U w, p1, p2] h fun v' h' => Ext h h' ∧ OwnF h' h.size 24 U v' (pows w q n) := by
  have hst : ∀ m, mulm (w ^ m % q) w q = w ^ (m + 1) % q := fun m => by unfold mulm; rw [if_neg (by omega), Nat.mod_mul_mod, Nat.pow_succ]
  (apply enter Tryd.func47 rfl Tryd.ntmps47 rfl)
  refine runJ ?_
  (apply (s_litF (f := U) [1] (fun _ => rfl)); exact rfl; exact rfl; exact rfl; exact rfl; exact rfl; exact rfl; exact rfl; exact rfl; omega)
  intro w1 h1 o1 e1 b1
  refine ⟨(by first | exact trivial | exact Ext.refl _ | assumption | exact Ext.trans (by assumption) (by assumption)), ?_⟩
  refine runJ ?_
  (first | (apply w_seqB; exact rfl; apply w_block; exact rfl) | skip)
  apply (w_loop (σ := Nat × Value) rfl (fun j => [(0, U w), (1, p1), (2, p2), (5, j.2)])
    (fun j h' => Ext h h' ∧ OwnF h' h.size 24 U j.2 (pows w q (j.1 + 1)) ∧ j.1 + 1 ≤ n) (fun j => n - j.1) (0, w1))
  · exact (Sub.cons rfl (Sub.cons rfl (Sub.cons rfl (Sub.cons rfl (Sub.nil _)))))
  · refine ⟨e1, ?_, hn⟩
    have : pows w q (0 + 1) = [1] := by unfold pows; simp [List.range_succ, Nat.mod_eq_of_lt hq]
    rw [this]; exact o1
  rintro ⟨j, v⟩ h2 ⟨e2, o2, j1⟩
  dsimp only at e2 o2 j1 ⊢
  have Q1 := P1.ext e2
  have Q2 := P2.ext e2
  have hpl := pows_len w q (j + 1)
  refine runJ ?_
  (apply w_condD; exact rfl; exact rfl) <;> intro hj
  · have hp := pows_get (w := w) (q := q) (n := j + 1) (j := j) (by omega)
    have hpx : (pows w q (j + 1))[(pows w q (j + 1)).length - 1]? = some (w ^ j % q) := by rw [hpl]; exact hp
    have hpq : w ^ j % q < q := Nat.mod_lt _ (by omega)
    have hst := hst j
    generalize w ^ j % q = x at *
    have hnx : pows w q (j + 1) ++ [mulm x w q] = pows w q (j + 1 + 1) := by
      rw [hst]
      unfold pows
      rw [List.range_succ (n := j + 1), List.map_append]; rfl
    have o2s := o2.sl
    refine runJN ?_
    (apply (r_drawnR (Ext h) (fun i => Nat.beq i 6)); exact rfl; exact mixed; kernel_rfl; exact e2)
    refine runJ ?_
    refine s_loadG rfl rfl (rd_now rfl e2 o2s) rfl hpx ?_
    refine runJ ?_
    apply (s_call Tryd_ent48 rfl rfl rfl)
    refine (mul_spec x w q h2 (by omega) (by omega) (by omega)).mono ?_
    rintro _ _ ⟨rfl, rfl⟩
    refine ⟨e2, ?_⟩
    refine runJ ?_
    (refine s_app1 (bytes := 8) (mulm x w q) o2 e2 rfl rfl rfl rfl rfl rfl rfl rfl rfl (by first | exact rfl | exact congrArg some (congrArg I (by omega))) (fun _ => rfl) rfl rfl (fun _ k => k) (by omega) (by simp only [maxLen]; omega) ?_)
    intro v3 h3 o3 e3 k3 b3
    rw [hnx] at o3
    refine runJ ?_
    apply again_normal (j + 1, v3)
    · exact (Sub.cons rfl (Sub.cons rfl (Sub.cons rfl (Sub.cons rfl (Sub.nil _)))))
    · exact ⟨e3, o3, by dsimp only; omega⟩
    · dsimp only; omega
  · have hjn : j + 1 = n := by omega
    rw [hjn] at o2
    refine runJ ?_
    exact fin1 rfl rfl ⟨e2, o2⟩

def rootOf (t : Tbl) : Prop := RootR t.q (2 * 2 ^ t.L) t.w

theorem root_pow {q n r : Nat} (hq : 1 < q) (hn : 2 ≤ n) (h : RootR q n r) (hq2 : q % 2 = 1) : r ^ (n / 2) % q = q - 1 := by
  obtain ⟨-, w, hw, hp, ⟨j, hj, rfl⟩, -⟩ := h
  have hp : w ^ (n / 2) % q = q - 1 := by unfold powm at hp; rw [if_neg (by omega)] at hp; exact hp
  have h1 : Cg q ((w : Int) ^ (n / 2)) (-1) := cg_root hq hp
  rw [← Nat.pow_mod, ← Nat.pow_mul]
  have h2 := pow_odd h1 j
  rw [Nat.mul_comm (n / 2)] at h2
  have h3 : Cg q (((w ^ ((2 * j + 1) * (n / 2)) % q : Nat) : Int)) (((q - 1 : Nat) : Int)) := by
    rw [Int.natCast_emod, Int.natCast_pow]
    refine (Cg.mod _ _).trans (h2.trans (Cg.symm ?_))
    rw [Int.ofNat_sub (by omega)]
    exact ((Cg.q0 _).sub (Cg.refl _ _)).trans (Cg.of_eq (by omega))
  exact h3.eqN (Nat.mod_lt _ (by omega)) (by omega)

theorem Tryd_ent12 : Ent Tryd.prog 12 := ent_of Tryd.func12 (by kernel_rfl) rfl
set_option maxHeartbeats 2000000 in
theorem nttNew_spec (L q X : Nat) (h : Hp) (T : TB h) (hL1 : 1 ≤ L) (hL9 : L ≤ 9) (hq : q < 2305843009213693952) (hq1 : q % (2 * 2 ^ L) = 1) (hq3 : 1 < q) (hB : isB q = true) (hX : 2 ≤ X) (hX2 : X < 18446744073709551615)
    (hx : powm (powm X ((q - 1) / 2 ^ (L + 1)) q) (2 ^ (L + 1) / 2) q = q - 1) :
    CallsH Tryd.prog 12 [N (2 ^ L), U q] h fun v' h' => Ext h h' ∧ ∃ (g : Value) (t : Tbl), v' = .tuple #[g, N 0] ∧ TblAt h' g t ∧ TblOk t ∧ t.L = L ∧ t.q = q ∧ RootR q (2 ^ (L + 1)) t.w := by
  have hoc := oc_pow L (by omega)
  have hlo : 2 ^ 1 ≤ 2 ^ L := Nat.pow_le_pow_right (by omega) hL1
  have hhi : 2 ^ L ≤ 2 ^ 9 := Nat.pow_le_pow_right (by omega) hL9
  have h2L : 2 ^ (L + 1) = 2 * 2 ^ L := by rw [Nat.pow_succ, Nat.mul_comm]
  have hdv : (q - 1) % 2 ^ (L + 1) = 0 := by
    rw [h2L]
    have := Nat.div_add_mod q (2 * 2 ^ L)
    rw [hq1] at this
    rw [show q - 1 = 2 * 2 ^ L * (q / (2 * 2 ^ L)) by omega]
    exact Nat.mul_mod_right _ _
  have hodd : q % 2 = 1 := by
    have := Nat.div_add_mod q (2 * 2 ^ L)
    rw [hq1, Nat.mul_assoc] at this
    omega
  have RT := fun h T => root_spec q (L + 1) X h T (by omega) (by omega) (by omega) (by omega) hB hdv hX hX2 hx
  have hgn : Nat.gcd (2 ^ L) q = 1 := gcd_pow (n := 0) L hodd
  have hRp := fun r => root_pow (r := r) hq3 (show 2 ≤ 2 ^ (L + 1) by omega) (hq2 := hodd)
  rw [show 2 ^ (L + 1) / 2 = 2 ^ L by omega] at hRp
  rw [h2L] at RT
  generalize hN : 2 ^ L = n at *
  have hqn : ¬ q % (2 * n) ≠ 1 := by omega
  (apply enter Tryd.func12 rfl Tryd.ntmps12 rfl)
  refine runJ ?_
  (apply s_box; exact rfl; exact rfl; exact rfl; exact rfl)
  intro p1 h1 x1 e1 b1
  (try dsimp only [Value.cells, List.toList_toArray] at x1)
  refine ⟨(by first | exact trivial | exact Ext.refl _ | assumption | exact Ext.trans (by assumption) (by assumption)), ?_⟩
  refine runJ ?_
  (apply s_box; exact rfl; exact rfl; exact rfl; exact rfl)
  intro p2 h2 x2 e2 b2
  (try dsimp only [Value.cells, List.toList_toArray] at x2)
  refine ⟨(by first | exact trivial | exact Ext.refl _ | assumption | exact Ext.trans (by assumption) (by assumption)), ?_⟩
  have x1 := x1.ext e2
  have e12 := e1.trans e2
  refine runJ ?_
  (apply s_splitG; exact rfl; exact rfl; exact rfl; exact rfl) <;> intro g1
  · exact absurd g1 (by omega)
  refine runJ ?_
  (apply s_splitG; exact rfl; exact rfl; exact rfl; exact rfl) <;> intro g2
  · exact absurd g2 (by omega)
  refine runJ ?_
  apply (s_call Tryd_ent44 rfl rfl rfl)
  refine (onesN_spec n h2 (by omega) hoc.1).mono ?_
  rintro _ _ ⟨rfl, rfl⟩
  refine ⟨(by first | exact trivial | exact Ext.refl _ | assumption | exact Ext.trans (by assumption) (by assumption)), ?_⟩
  rw [hoc.2]
  refine runJ ?_
  (apply s_splitG; exact rfl; exact rfl; exact rfl; exact rfl) <;> intro g3
  · exact absurd g3 (by omega)
  refine runJ ?_
  (apply w_condF; exact rfl; exact rfl; exact hqn)
  refine runJ ?_
  apply (s_call Tryd_ent45 rfl rfl rfl)
  refine (RT h2 (T.ext e12)).mono ?_
  rintro _ h3 ⟨⟨r, rfl, hR⟩, e3⟩
  refine ⟨(by first | exact trivial | exact trivial), ?_⟩
  have e13 := e12.trans e3
  have x1 := x1.ext e3
  have x2 := x2.ext e3
  have hRq := hR.1
  have hRn := hRp r (by rw [h2L]; exact hR)
  have hgw : Nat.gcd r q = 1 := gcd_root hq3 (by omega) hRn
  refine runJ ?_
  (apply (s_build ([N n, U q, U 0, .slice none 0 0, .slice none 0 0])); exact rfl; exact rfl; exact rfl; (repeat (first | exact CellsAll.nil | (apply CellsAll.cons; (first | exact oneL (by assumption) | exact oneL (SlF.one (by assumption)) | exact oneL (SlF.one (OwnF.sl (by assumption))) | exact oneL (Var.one (by assumption)) | exact rfl)))); exact rfl; exact rfl)
  refine runJ ?_
  (apply s_box; exact rfl; exact rfl; exact rfl; exact rfl)
  intro g h4 G4 e4 b4
  (try dsimp only [Value.cells, List.toList_toArray] at G4)
  refine ⟨(by first | exact trivial | exact Ext.refl _ | assumption | exact Ext.trans (by assumption) (by assumption)), ?_⟩
  have n1 := x1.ne_new b4 (Nat.le_refl _)
  have n2 := x2.ne_new b4 (Nat.le_refl _)
  have e14 := e13.trans e4
  have x1 := x1.ext e4
  have x2 := x2.ext e4
  refine runJ ?_
  apply (s_call Tryd_ent46 rfl rfl rfl)
  refine (inv_spec n q h4 (by omega) (by omega)).mono ?_
  rintro _ _ ⟨⟨pi, ok, rfl, hI⟩, rfl⟩
  refine ⟨(by first | exact trivial | exact trivial), ?_⟩
  obtain rfl : ok = true := by
    cases ok with
    | true => rfl
    | false => rcases (hI.2 rfl).1 with h0 | h0 <;> omega
  obtain ⟨-, -, hI1, hI2⟩ := hI.1 rfl
  refine runJ ?_
  have G4x := G4
  (apply s_storeC; exact rfl; exact rfl; (first | exact rfl | exact SlF.one (by assumption) | exact SlF.one (OwnF.sl (by assumption)) | exact Var.one (by assumption)); exact rfl; exact rfl; exact G4; exact rfl)
  intro h5 G5 k5
  refine ⟨(by first | exact trivial | exact Ext.refl _ | assumption | exact Ext.only (by assumption) _ | exact Only.trans (Ext.only (by assumption) _) (by assumption)), ?_⟩
  have e5 : Ext h3 h5 := k5.oldV e4 b4 (Nat.le_refl _)
  have e35 := e13.trans e5
  have x1 := x1.only k5 n1
  have x2 := x2.only k5 n2
  refine runJ ?_
  apply (s_call Tryd_ent46 rfl rfl rfl)
  refine (inv_spec r q h5 (by omega) (by omega)).mono ?_
  rintro _ _ ⟨⟨ui, ok2, rfl, hJ⟩, rfl⟩
  refine ⟨(by first | exact trivial | exact trivial), ?_⟩
  obtain rfl : ok2 = true := by
    cases ok2 with
    | true => rfl
    | false => rcases (hJ.2 rfl).1 with h0 | h0 <;> omega
  obtain ⟨-, -, hJ1, hJ2⟩ := hJ.1 rfl
  have PW := fun z h x1 x2 => powers_spec z q n p1 p2 h x1 x2 (by omega) (by omega) hq3 hq
  refine runJ ?_
  refine s_callV rfl Tryd_ent47 rfl rfl rfl ?_
  refine (PW r h5 x1 x2 hRq).mono ?_
  rintro w6 h6 ⟨e6, o6⟩
  refine ⟨(by first | exact trivial | exact trivial), ?_⟩
  refine runJ ?_
  refine s_callV rfl Tryd_ent47 rfl rfl rfl ?_
  refine (PW ui h6 (x1.ext e6) (x2.ext e6) hJ1).mono ?_
  rintro w7 h7 ⟨e7, o7⟩
  refine ⟨(by first | exact trivial | exact trivial), ?_⟩
  have hs35 : h3.size < h5.size := by
    have h1 := (Array.getElem?_eq_some_iff.1 (show h4[h3.size]? = some _ by obtain ⟨b, rfl, hb⟩ := (show Var h4 g _ _ from G4x); cases b4; exact hb)).1
    have h2 := k5.1
    omega
  have G7 := (G5.ext e6).ext e7
  have o6 := o6.ext e7
  have m6 := o6.neV b4 hs35
  have m7 := o7.neV b4 (Nat.lt_of_lt_of_le hs35 e6.1)
  have e57 := e6.trans e7
  refine runJ ?_
  (apply s_storeC; exact rfl; exact rfl; (first | exact rfl | exact SlF.one (by assumption) | exact SlF.one (OwnF.sl (by assumption)) | exact Var.one (by assumption)); exact rfl; exact rfl; exact G7; exact rfl)
  intro h8 G8 k8
  refine ⟨(by first | exact trivial | exact Ext.refl _ | assumption | exact Ext.only (by assumption) _ | exact Only.trans (Ext.only (by assumption) _) (by assumption)), ?_⟩
  have o6 := o6.only k8 m6
  have o7 := o7.only k8 m7
  have e8 : Ext h3 h8 := k8.oldV (e5.trans e57) b4 (Nat.le_refl _)
  refine runJ ?_
  (apply s_storeC; exact rfl; exact rfl; (first | exact rfl | exact SlF.one (by assumption) | exact SlF.one (OwnF.sl (by assumption)) | exact Var.one (by assumption)); exact rfl; exact rfl; exact G8; exact rfl)
  intro h9 G9 k9
  refine ⟨(by first | exact trivial | exact Ext.refl _ | assumption | exact Ext.only (by assumption) _ | exact Only.trans (Ext.only (by assumption) _) (by assumption)), ?_⟩
  have o6 := o6.only k9 m6
  have o7 := o7.only k9 m7
  have e9 : Ext h3 h9 := k9.oldV e8 b4 (Nat.le_refl _)
  refine runJ ?_
  refine fin2 rfl rfl rfl ⟨e13.trans e9, g, ⟨L, q, r, ui, pi, w6, w7⟩, rfl, ⟨?_, ?_, ?_⟩, ⟨hL1, hL9, hq3, hq, hRq, hJ1, hI1, ?_, hJ2, ?_⟩, rfl, rfl, ?_⟩
  · dsimp only; rw [hN]; exact G9
  · dsimp only; rw [hN]; exact o6.sl
  · dsimp only; rw [hN]; exact o7.sl
  · dsimp only; rw [hN]; exact hRn
  · dsimp only; rw [hN]; exact hI2
  · rw [h2L]; exact hR
end Go.Proofs.YtfgfmempmkjlnaaDoor

/- A drawn region whose last operations wait for all before them: the others in the text's order, then these. No condition. -/
namespace Go.Den
set_option linter.unusedVariables false
set_option maxRecDepth 8000
open Go Go.RowKit

section tail
variable {P : Program} {C : World → Prop} {E : Nat → Bool}

/-- What is asked of a region: as ever ahead of the number t; from there on each waits for all before it. -/
def regionOkT (ops : List Oper) (E : Nat → Bool) (t : Nat) : Bool :=
  let A := ops.toArray
  let an := ancGo ops #[]
  Region.noSelect A &&
  ops.zipIdx.all fun (oj, j) =>
    oj.after.toList.all (fun e => !Region.binds .any e || Nat.blt e.on j) &&
    (match oj.guard with | none => true | some g => Nat.blt g.1 j) &&
    (ops.take j).zipIdx.all fun (oi, i) =>
      bif Nat.blt j t then
        ((oj.after.toList.any fun e => Region.binds .any e && Nat.beq e.on i) || oi.apart A oj) &&
        (!(E i && E j) || (an.getD j 0).testBit i)
      else (an.getD j 0).testBit i

theorem regionOkT_spec {l : List Oper} {t : Nat} (h : regionOkT l E t = true) : NoSel l.toArray ∧
    (∀ j oj, l[j]? = some oj → ∀ e ∈ oj.after.toList, Region.binds .any e = true → e.on < j) ∧
    (∀ (j : Nat) (oj : Oper) (g : Nat × Bool), l[j]? = some oj → oj.guard = some g → g.1 < j) ∧
    (∀ i j oi oj, i < j → j < t → l[i]? = some oi → l[j]? = some oj → ((∃ e ∈ oj.after.toList, Region.binds .any e = true ∧ e.on = i) ∨ oi.apart l.toArray oj = true) ∧
      (E i = true → E j = true → ((ancGo l #[]).getD j 0).testBit i = true)) ∧
    (∀ i j oi oj, i < j → ¬ j < t → l[i]? = some oi → l[j]? = some oj → ((ancGo l #[]).getD j 0).testBit i = true) := by
  unfold regionOkT at h
  simp only [Bool.and_eq_true] at h
  obtain ⟨h0, h⟩ := h
  have hq : ∀ i j oi oj, i < j → l[i]? = some oi → l[j]? = some oj → (bif Nat.blt j t then
        ((oj.after.toList.any fun e => Region.binds .any e && Nat.beq e.on i) || oi.apart l.toArray oj) &&
        (!(E i && E j) || ((ancGo l #[]).getD j 0).testBit i)
      else ((ancGo l #[]).getD j 0).testBit i) = true := fun i j oi oj hij hi hj => by
    have h1 := zipIdx_all h hj
    simp only [Bool.and_eq_true] at h1
    exact zipIdx_all h1.2 (show (l.take j)[i]? = some oi by rw [List.getElem?_take, if_pos hij]; exact hi)
  refine ⟨Region.noSelect_spec h0, fun j oj hj e he hb => ?_, fun j oj g hj hg => ?_, fun i j oi oj hij hjt hi hj => ?_, fun i j oi oj hij hjt hi hj => ?_⟩
  · have h1 := zipIdx_all h hj
    simp only [Bool.and_eq_true, List.all_eq_true] at h1
    have := h1.1.1 e he
    simp only [hb, Bool.not_true, Bool.false_or] at this
    exact Nat.le_of_ble_eq_true this
  · have h1 := zipIdx_all h hj
    simp only [Bool.and_eq_true] at h1
    have := h1.1.2
    rw [hg] at this
    exact Nat.le_of_ble_eq_true this
  · have h2 := hq i j oi oj hij hi hj
    rw [show Nat.blt j t = true from Nat.ble_eq_true_of_le hjt, cond_true] at h2
    simp only [Bool.and_eq_true, Bool.or_eq_true] at h2
    obtain ⟨h3, h4⟩ := h2
    refine ⟨?_, fun ei ej => ?_⟩
    · rcases h3 with h3 | h3
      · rw [List.any_eq_true] at h3
        obtain ⟨e, he, hb⟩ := h3
        simp only [Bool.and_eq_true] at hb
        exact .inl ⟨e, he, hb.1, Nat.eq_of_beq_eq_true hb.2⟩
      · exact .inr h3
    · simpa [ei, ej] using h4
  · have h2 := hq i j oi oj hij hi hj
    have : Nat.blt j t = false := by
      cases hb : Nat.blt j t with
      | false => rfl
      | true => exact absurd (Nat.le_of_ble_eq_true hb) hjt
    rwa [this, cond_false] at h2

/-- The last ones: each comes up in its turn. -/
theorem any_of_last {D : World → Prop} {l : List Oper} {t : Nat} {Q : Exit → Act → World → Prop} (h : regionOkT l E t = true) : ∀ (m s : Nat) (listed : Array Bool) (a : Act) (w : World),
    s + m = l.length → t ≤ s → (∀ i, i < l.length → (listed.getD i true = false ↔ s ≤ i)) → listed.size = l.length →
    Closed l.toArray (fun i => listed.getD i false) → D w → Mix P l.toArray D (fun _ => true) (fun a w => Q .normal a w) (List.range' s m) a w → wpAny P .any l.toArray Q m listed a w := by
  obtain ⟨hs, hback, -, -, hlast⟩ := regionOkT_spec h
  intro m
  induction m with
  | zero =>
    intro s listed a w hlen hts hmem hsz hcl hD hm
    refine ⟨?_, hm⟩
    rw [List.eq_nil_iff_forall_not_mem]
    intro j hj
    obtain ⟨h1, o, ho, -⟩ := mem_ready.1 hj
    have hjl : j < l.length := by simpa using (Array.getElem?_eq_some_iff.1 ho).1
    have := (hmem j hjl).1 h1
    omega
  | succ m ih =>
    intro s listed a w hlen hts hmem hsz hcl hD hm
    have hsl : s < l.length := by omega
    have getb : ∀ i, i < l.length → listed.getD i true = listed.getD i false := fun i hi => by
      rw [Array.getD_eq_getD_getElem?, Array.getD_eq_getD_getElem?, Array.getElem?_eq_getElem (by omega)]; rfl
    refine ⟨fun hnil => ?_, fun j hj => ?_⟩
    · exfalso
      have hkr : s ∈ Region.ready .any l.toArray listed := by
        refine mem_ready.2 ⟨(hmem s hsl).2 (Nat.le_refl _), l[s]'hsl, by simp [hsl], fun e he hb => ?_⟩
        have hlt := hback s (l[s]'hsl) (by simp [hsl]) e (by simpa using he) hb
        have hlt' : e.on < l.length := Nat.lt_trans hlt hsl
        rw [← getb _ hlt']
        cases hg : listed.getD e.on true with
        | true => rfl
        | false => have := (hmem e.on hlt').1 hg; omega
      rw [hnil] at hkr
      cases hkr
    · obtain ⟨hj1, oj, hoj, hjall⟩ := mem_ready.1 hj
      have hjl : j < l.length := by simpa using (Array.getElem?_eq_some_iff.1 hoj).1
      have hoj' : l[j]? = some oj := by simpa using hoj
      have hjs := (hmem j hjl).1 hj1
      have hdep : ∀ e ∈ oj.after.toList, Region.binds .any e = true → listed.getD e.on false = true := fun e he hb => hjall e (by simpa using he) hb
      have hje : j = s := by
        rcases Nat.lt_or_ge s j with hlt | hge
        · exfalso
          have hb := hlast s j (l[s]'hsl) oj hlt (by omega) (by simp [hsl]) hoj'
          have := anc_sound (ops := l.toArray) hcl l #[] (by simp) (by simp) (fun k _ hk => ⟨l[k]'(by simpa using hk), by simp at hk; simp [hk]⟩) (by simp) j oj hoj (by simpa using hjl) hdep s hb
          have h2 := (hmem s hsl).2 (Nat.le_refl _)
          rw [getb s hsl, this] at h2
          cases h2
        · omega
      subst hje
      rw [List.range'_succ] at hm
      obtain ⟨o, ho, hm⟩ := hm
      rw [hoj] at ho; cases ho
      have hmem' : ∀ i, i < l.length → ((listed.setIfInBounds j true).getD i true = false ↔ j + 1 ≤ i) := fun i hi => by
        by_cases hij : j = i
        · subst hij
          have hset : (listed.setIfInBounds j true).getD j true = true := by
            rw [Array.getD_eq_getD_getElem?, Array.getElem?_setIfInBounds_self_of_lt (by omega)]; rfl
          rw [hset]; simp
        · rw [getD_set_ne true hij, hmem i hi]; omega
      have hcl' : Closed l.toArray (fun i => (listed.setIfInBounds j true).getD i false) := fun k o hk hl e he hb => by
        by_cases hkj : j = k
        · subst hkj
          rw [hoj] at hk; cases hk
          exact getD_set_true (hdep e he hb)
        · have hl' : listed.getD k false = true := by
            have := getD_set_ne (listed := listed) false hkj
            simp only [this] at hl
            exact hl
          exact getD_set_true (hcl k o hk hl' e he hb)
      have next : ∀ a' w', D w' → Mix P l.toArray D (fun _ => true) (fun a w => Q .normal a w) (List.range' (j + 1) m) a' w' → wpAny P .any l.toArray Q m (listed.setIfInBounds j true) a' w' := fun a' w' hD' hm' =>
        ih (j + 1) (listed.setIfInBounds j true) a' w' (by omega) (by omega) hmem' (by simpa using hsz) hcl' hD' hm'
      unfold wpOp
      simp only [hoj]
      rcases hm with ⟨v, hv, k⟩ | ⟨-, hW, k⟩
      · rcases hv with ⟨hW, hr⟩ | ⟨hW, rfl⟩
        · rw [if_pos (show Region.wanted _ _ = true from hW)]
          refine .inl ?_
          unfold Oper.wp
          rw [hr w hD]
          exact next _ _ hD k
        · rw [if_neg (by unfold Wanted at hW; rw [hW]; exact Bool.false_ne_true)]
          exact next _ _ hD k
      · rw [if_pos (show Region.wanted _ _ = true from hW)]
        exact .inl (wp_of_Eff (fun v w' hk => next _ _ hk.1 hk.2) k)

theorem any_of_mixT {D : World → Prop} {l : List Oper} {t : Nat} {Q : Exit → Act → World → Prop} (h : regionOkT l E t = true) (ht : t ≤ l.length) : ∀ (m : Nat) (L : List Nat) (listed : Array Bool) (a : Act) (w : World),
    L.length = m → L.Pairwise (· < ·) → (∀ i, i ∈ L ↔ i < t ∧ listed.getD i true = false) → (∀ i, i < l.length → ¬ i < t → listed.getD i true = false) → listed.size = l.length →
    Closed l.toArray (fun i => listed.getD i false) → C w → Mix P l.toArray C E (fun a w => D w ∧ Mix P l.toArray D (fun _ => true) (fun a w => Q .normal a w) (List.range' t (l.length - t)) a w) L a w →
    wpAny P .any l.toArray Q (m + (l.length - t)) listed a w := by
  obtain ⟨hs, hback, -, hpair, hlast⟩ := regionOkT_spec h
  intro m
  induction m with
  | zero =>
    intro L listed a w hlen hsort hmem htl hsz hcl hC hm
    have hL : L = [] := List.length_eq_zero_iff.1 hlen
    subst hL
    rw [Nat.zero_add]
    refine any_of_last h (l.length - t) t listed a w (by omega) (Nat.le_refl _) (fun i hi => ⟨fun hf => ?_, fun hge => htl i hi (by omega)⟩) hsz hcl hm.1 hm.2
    rcases Nat.lt_or_ge i t with hlt | hge
    · have := (hmem i).2 ⟨hlt, hf⟩
      cases this
    · exact hge
  | succ m ih =>
    intro L listed a w hlen hsort hmem htl hsz hcl hC hm
    have getb : ∀ i, i < l.length → listed.getD i true = listed.getD i false := fun i hi => by
      rw [Array.getD_eq_getD_getElem?, Array.getD_eq_getD_getElem?, Array.getElem?_eq_getElem (by omega)]; rfl
    rw [show m + 1 + (l.length - t) = (m + (l.length - t)) + 1 by omega]
    cases L with
    | nil => simp at hlen
    | cons k0 L0 =>
    have hk0 := (hmem k0).1 (by simp)
    refine ⟨fun hnil => ?_, fun j hj => ?_⟩
    · exfalso
      have hkl : k0 < l.length := by omega
      have hkr : k0 ∈ Region.ready .any l.toArray listed := by
        refine mem_ready.2 ⟨hk0.2, l[k0]'hkl, by simp [hkl], fun e he hb => ?_⟩
        have hlt := hback k0 (l[k0]'hkl) (by simp [hkl]) e (by simpa using he) hb
        have hlt' : e.on < l.length := Nat.lt_trans hlt hkl
        rw [← getb _ hlt']
        cases hg : listed.getD e.on true with
        | true => rfl
        | false =>
          have hin := (hmem e.on).2 ⟨by omega, hg⟩
          rcases List.mem_cons.1 hin with heq | hin'
          · omega
          · have := (List.pairwise_cons.1 hsort).1 _ hin'
            omega
      rw [hnil] at hkr
      cases hkr
    · obtain ⟨hj1, oj, hoj, hjall⟩ := mem_ready.1 hj
      have hjl : j < l.length := by simpa using (Array.getElem?_eq_some_iff.1 hoj).1
      have hoj' : l[j]? = some oj := by simpa using hoj
      have hdep : ∀ e ∈ oj.after.toList, Region.binds .any e = true → listed.getD e.on false = true := fun e he hb => hjall e (by simpa using he) hb
      have hanc : ∀ i, ((ancGo l #[]).getD j 0).testBit i = true → listed.getD i false = true := fun i hb =>
        anc_sound (ops := l.toArray) hcl l #[] (by simp) (by simp) (fun k _ hk => ⟨l[k]'(by simpa using hk), by simp at hk; simp [hk]⟩) (by simp) j oj hoj (by simpa using hjl) hdep i hb
      have hjt : j < t := by
        rcases Nat.lt_or_ge j t with hlt | hge
        · exact hlt
        · exfalso
          have hkl : k0 < l.length := by omega
          have hb := hanc k0 (hlast k0 j (l[k0]'hkl) oj (by omega) (by omega) (by simp [hkl]) hoj')
          have := hk0.2
          rw [getb k0 hkl, hb] at this
          cases this
      have hjL : j ∈ k0 :: L0 := (hmem j).2 ⟨hjt, hj1⟩
      obtain ⟨pre, post, hL⟩ := List.append_of_mem hjL
      rw [hL] at hm hsort hmem hlen
      have hpre : ∀ i ∈ pre, i < j := fun i hi => by
        have := List.pairwise_append.1 hsort
        exact this.2.2 i hi j (by simp)
      have hap : ∀ i ∈ pre, (∀ oi, l.toArray[i]? = some oi → oi.apart l.toArray oj = true) ∧ ¬ (E i = true ∧ E j = true) := fun i hi => by
        have hi1 := (hmem i).1 (by simp [hi])
        have hil : i < l.length := by omega
        have hif : listed.getD i false = false := by rw [← getb i hil]; exact hi1.2
        refine ⟨fun oi hoi => ?_, fun ⟨e1, e2⟩ => ?_⟩
        · obtain ⟨hor, -⟩ := hpair i j oi oj (hpre i hi) hjt (by simpa using hoi) hoj'
          rcases hor with ⟨e, he, hb, heq⟩ | hap
          · have := hdep e he hb
            rw [heq, hif] at this
            cases this
          · exact hap
        · obtain ⟨-, hch⟩ := hpair i j (l[i]'hil) oj (hpre i hi) hjt (by simp [hil]) hoj'
          have := hanc i (hch e1 e2)
          rw [hif] at this
          cases this
      have hmem' : ∀ i, i ∈ pre ++ post ↔ i < t ∧ (listed.setIfInBounds j true).getD i true = false := fun i => by
        have hnd : i ∈ pre ++ post ↔ i ∈ pre ++ j :: post ∧ i ≠ j := by
          have hq := List.pairwise_append.1 hsort
          have hq2 := List.pairwise_cons.1 hq.2.1
          constructor
          · intro hi
            refine ⟨by rcases List.mem_append.1 hi with hi | hi <;> simp [hi], fun heq => ?_⟩
            subst heq
            rcases List.mem_append.1 hi with hi | hi
            · exact Nat.lt_irrefl _ (hpre _ hi)
            · exact Nat.lt_irrefl _ (hq2.1 _ hi)
          · rintro ⟨hi, hne⟩
            rcases List.mem_append.1 hi with hi | hi
            · simp [hi]
            · rcases List.mem_cons.1 hi with hi | hi
              · exact absurd hi hne
              · simp [hi]
        rw [hnd, hmem i]
        by_cases hij : j = i
        · subst hij
          have hset : (listed.setIfInBounds j true).getD j true = true := by
            rw [Array.getD_eq_getD_getElem?, Array.getElem?_setIfInBounds_self_of_lt (by omega)]; rfl
          rw [hset]
          simp
        · rw [getD_set_ne true hij]
          constructor
          · rintro ⟨⟨h1, h2⟩, -⟩; exact ⟨h1, h2⟩
          · rintro ⟨h1, h2⟩; exact ⟨⟨h1, h2⟩, fun e => hij e.symm⟩
      have htl' : ∀ i, i < l.length → ¬ i < t → (listed.setIfInBounds j true).getD i true = false := fun i hi hit => by
        rw [getD_set_ne true (by omega)]; exact htl i hi hit
      have hcl' : Closed l.toArray (fun i => (listed.setIfInBounds j true).getD i false) := fun k o hk hl e he hb => by
        by_cases hkj : j = k
        · subst hkj
          rw [hoj] at hk; cases hk
          exact getD_set_true (hdep e he hb)
        · have hl' : listed.getD k false = true := by
            have := getD_set_ne (listed := listed) false hkj
            simp only [this] at hl
            exact hl
          exact getD_set_true (hcl k o hk hl' e he hb)
      have hlen' : (pre ++ post).length = m := by simp at hlen ⊢; omega
      have hsort' : (pre ++ post).Pairwise (· < ·) := by
        refine hsort.sublist ?_
        exact List.Sublist.append_left (List.sublist_cons_self _ _) _
      have next : ∀ a' w', C w' → Mix P l.toArray C E (fun a w => D w ∧ Mix P l.toArray D (fun _ => true) (fun a w => Q .normal a w) (List.range' t (l.length - t)) a w) (pre ++ post) a' w' → wpAny P .any l.toArray Q (m + (l.length - t)) (listed.setIfInBounds j true) a' w' := fun a' w' hC' hm' =>
        ih (pre ++ post) (listed.setIfInBounds j true) a' w' hlen' hsort' hmem' htl' (by simpa using hsz) hcl' hC' hm'
      unfold wpOp
      simp only [hoj]
      rcases pull hs hoj post pre a w hC hap hm with ⟨v, hv, k⟩ | ⟨-, hW, k⟩
      · rcases hv with ⟨hW, hr⟩ | ⟨hW, rfl⟩
        · rw [if_pos (show Region.wanted _ _ = true from hW)]
          refine .inl ?_
          unfold Oper.wp
          rw [hr w hC]
          exact next _ _ hC k
        · rw [if_neg (by unfold Wanted at hW; rw [hW]; exact Bool.false_ne_true)]
          exact next _ _ hC k
      · rw [if_pos (show Region.wanted _ _ = true from hW)]
        exact .inl (wp_of_Eff (fun v w' hk => next _ _ hk.1 hk.2) k)

theorem region_drawnT {D : World → Prop} {id t : Nat} {l : List Oper} {Q : Exit → Act → World → Prop} {a : Act} {w : World} (hm : P.follows .mixedOrders = true) (hok : regionOkT l E t = true) (ht : t ≤ l.length)
    (hC : C { w with drawn := w.drawn + 1 }) (h : Mix P l.toArray C E (fun a w => D w ∧ Mix P l.toArray D (fun _ => true) (fun a w => Q .normal a w) (List.range' t (l.length - t)) a w) (List.range t) a { w with drawn := w.drawn + 1 }) :
    (Code.region id l.toArray true).wp P Q a w := by
  refine wp_region_any hm ?_
  have := any_of_mixT (P := P) (C := C) (Q := Q) hok ht t (List.range t) (Array.replicate l.length false) a { w with drawn := w.drawn + 1 } (by simp) List.pairwise_lt_range
    (fun i => by
      rw [List.mem_range]
      constructor
      · intro hi
        refine ⟨hi, ?_⟩
        rw [Array.getD_eq_getD_getElem?, Array.getElem?_eq_getElem (by simp; omega)]
        simp
      · exact fun hi => hi.1)
    (fun i hi _ => by rw [Array.getD_eq_getD_getElem?, Array.getElem?_eq_getElem (by simpa using hi)]; simp)
    (by simp) (fun k o _ hk e _ _ => by
      exfalso
      by_cases hlt : k < l.length
      · simp [Array.getD_eq_getD_getElem?, hlt] at hk
      · simp [Array.getD_eq_getD_getElem?, hlt] at hk) hC h
  rw [show t + (l.length - t) = l.length by omega] at this
  simpa using this
end tail

section take
variable {P : Program} {C : World → Prop} {E : Nat → Bool}
theorem wanted_take {l : List Oper} {t : Nat} {o : Oper} {a : Act} (hg : ∀ g, o.guard = some g → g.1 < t) : Wanted (l.take t).toArray o a = Wanted l.toArray o a := by
  unfold Wanted Region.wanted
  cases ho : o.guard with
  | none => rfl
  | some g =>
    have := hg g ho
    simp only [yielded]
    have e : (l.take t).toArray[g.1]? = l.toArray[g.1]? := by simp [this]
    rw [e]
theorem mix_take {l : List Oper} {t : Nat} {Q : Act → World → Prop} (hg : ∀ (j : Nat) (oj : Oper) (g : Nat × Bool), l[j]? = some oj → oj.guard = some g → g.1 < j) : ∀ (L : List Nat) (a : Act) (w : World), (∀ i ∈ L, i < t) →
    Mix P (l.take t).toArray C E Q L a w → Mix P l.toArray C E Q L a w
  | [], a, w, _, h => h
  | i :: L, a, w, hL, ⟨o, ho, h⟩ => by
    have hi := hL i (by simp)
    have ho' : l[i]? = some o := by simpa [List.getElem?_take, hi] using ho
    have hw : Wanted (l.take t).toArray o a = Wanted l.toArray o a := wanted_take fun g hgo => Nat.lt_trans (hg i o g ho' hgo) hi
    refine ⟨o, by simpa using ho', ?_⟩
    rcases h with ⟨v, hv, k⟩ | ⟨h1, h2, k⟩
    · refine .inl ⟨v, ?_, mix_take hg L _ _ (fun j hj => hL j (by simp [hj])) k⟩
      unfold Stab at hv ⊢
      rwa [hw] at hv
    · exact .inr ⟨h1, by rw [← hw]; exact h2, Eff_mono (fun v w' hk => ⟨hk.1, mix_take hg L _ _ (fun j hj => hL j (by simp [hj])) hk.2⟩) k⟩
end take

/-- Behind the head of a region: its last operations, in the text's order. -/
def TailQ (P : Program) (n : Nat) (ops : List Oper) (t : Nat) (Q : Post) : Post
  | .normal, l, h => S P n ops (fun _ => True) (fun _ => true) Q t l h
  | e, l, h => Q e l h
theorem tail_end {P : Program} {n : Nat} {ops : List Oper} {t : Nat} {Q : Post} {l : Fr} {h : Hp} (k : S P n ops (fun _ => True) (fun _ => true) Q t l h) : At (TailQ P n ops t Q) .normal l h := ⟨k⟩


section rules
variable {P : Program} {n : Nat} {Q : Post} {l : Fr} {h : Hp}
theorem mix_monoQ {ops : Array Oper} {C : World → Prop} {E : Nat → Bool} {Q Q' : Act → World → Prop} (hQ : ∀ a w, Q a w → Q' a w) (L : List Nat) (a : Act) (w : World) (k : Mix P ops C E Q L a w) : Mix P ops C E Q' L a w := mix_mono hQ L a w k
/-- A drawn region: its operations ahead of the number t in the text's order, in a class of heaps; then the last ones. -/
theorem r_drawnT {c : Code} (t : Nat) (Ch : Hp → Prop) (hc : tagOf c = .region true) (hm : P.follows .mixedOrders = true) (hok : regionOkT (opsOf c) (effB (opsOf c)) t = true) (ht : Nat.ble t (opsOf c).length = true) (hC : Ch h)
    (k : S P n ((opsOf c).take t) Ch (effB (opsOf c)) (TailQ P n (opsOf c) t Q) 0 l h) : W P n c Q l h := W.mk fun a w hf hw => by
  cases c <;> cases hc
  rename_i id ops
  have ht' : t ≤ ops.toList.length := Nat.le_of_ble_eq_true ht
  obtain ⟨-, -, hg, -, -⟩ := regionOkT_spec hok
  have key : ∀ w0 : World, w0.heap = w.heap → Oth w w0 → Mix P ops.toList.toArray (fun w' => Oth w w' ∧ Ch w'.heap) (effB ops.toList) (fun a w' => (Oth w w' ∧ True) ∧ Mix P ops.toList.toArray (fun w' => Oth w w' ∧ True) (fun _ => true) (fun a w2 => lift n Q w .normal a w2) (List.range' t (ops.toList.length - t)) a w') (List.range t) a w0 := fun w0 hw0 ho => by
    have h1 := k.run a w0 w hf (by rw [hw0]; exact hw) ho
    have hlen : ((opsOf (Code.region id ops true)).take t).length = t := by
      show (ops.toList.take t).length = t
      rw [List.length_take]; omega
    rw [Nat.sub_zero, hlen, ← List.range_eq_range'] at h1
    have h2 := mix_take (P := P) (E := effB ops.toList) (l := ops.toList) (t := t) hg (List.range t) a w0 (fun i hi => List.mem_range.1 hi) h1
    refine mix_mono (fun a' w' hq => ?_) _ _ _ h2
    obtain ⟨l', g1, g2, g3⟩ := hq
    refine ⟨⟨g3, trivial⟩, ?_⟩
    have h3 := g2.run a' w' w g1 rfl g3
    have e : opsOf (Code.region id ops true) = ops.toList := rfl
    rw [e] at h3
    exact h3
  have := region_drawnT (P := P) (id := id) (l := ops.toList) (E := effB ops.toList) (Q := lift n Q w) (C := fun w' => Oth w w' ∧ Ch w'.heap) (D := fun w' => Oth w w' ∧ True) hm hok ht' (a := a) (w := w) ⟨⟨rfl, rfl, rfl⟩, by rw [← hw] at hC; exact hC⟩ (key { w with drawn := w.drawn + 1 } rfl ⟨rfl, rfl, rfl⟩)
  simpa using this
end rules
end Go.Den

/- Package crt: a number out of two residues (what the fixed call asks). Condition of what tests primes: the table of math/bits reads as it is laid. -/
namespace Go.Proofs.YtfgfmempmkjlnaaDoor
set_option linter.unusedVariables false
set_option maxRecDepth 8000
open Go Go.Den Go.RowKit Go.Dig

theorem fin0 {P : Program} {n : Nat} {fn : Func} {R : Value → Hp → Prop} {l : Fr} {h : Hp} (hr : fn.results = #[]) (k : R (.tuple #[]) h) : At (Den.Fin P n fn R) .normal l h :=
  ⟨⟨.tuple #[], fun a w hf _ => by simp [results, hr], k⟩⟩

def timesN (V P r q back : Nat) : Nat := mulm (subm r (V % q) q) back q

theorem inv15 {back : Nat} {ok : Bool} (h : InvIs (1 % 5) 5 back ok) : back = 1 := by
  cases ok with
  | false => rcases (h.2 rfl).1 with h | h
             · omega
             · exact absurd (by decide) h
  | true => have := (h.1 rfl).2.2; omega
theorem inv57 {back : Nat} {ok : Bool} (h : InvIs (5 % 7) 7 back ok) : back = 3 := by
  cases ok with
  | false => rcases (h.2 rfl).1 with h | h
             · omega
             · exact absurd (by decide) h
  | true => have := (h.1 rfl).2.2; omega

def stV : Nat → Nat
  | 0 => 0
  | 1 => 2
  | _ => 17
def stP : Nat → Nat
  | 0 => 1
  | 1 => 5
  | _ => 35

end Go.Proofs.YtfgfmempmkjlnaaDoor

/- Package crt: the fixed calls, and the law of sums and products. Condition: the table of math/bits reads as it is laid. -/
namespace Go.Proofs.YtfgfmempmkjlnaaDoor
set_option linter.unusedVariables false
set_option maxRecDepth 8000
open Go Go.Den Go.RowKit Go.Dig

theorem right57 : rightP [5, 7] := by decide +kernel

theorem Tryd_ent17 : Ent Tryd.prog 17 := ent_of Tryd.func17 (by kernel_rfl) rfl
theorem sameU_spec (va vb : Value) (xs ys : List Nat) (h : Hp) (ha : SlF h U va xs) (hb : SlF h U vb ys) (hl : xs.length < 4611686018427387904) (hl2 : ys.length < 4611686018427387904) :
    CallsH Tryd.prog 17 [va, vb] h fun v' h' => v' = .bool (decide (xs = ys)) ∧ h = h' := by
  (apply enter Tryd.func17 rfl Tryd.ntmps17 rfl)
  refine runJ ?_
  (apply w_condD; exact rfl; exact rfl) <;> intro hne
  · refine runJ ?_
    exact fin1 rfl rfl ⟨dec_f (fun e => hne (by rw [e])), rfl⟩
  have hle : xs.length = ys.length := by omega
  refine runJ ?_
  (first | (apply w_seqB; exact rfl; apply w_block; exact rfl) | skip)
  apply (w_loop (σ := Nat) rfl (fun j => [(0, va), (1, vb), (12, N xs.length), (13, N j)])
    (fun j h' => h = h' ∧ j ≤ xs.length ∧ ∀ (i : Nat) (x y : Nat), i < j → xs[i]? = some x → ys[i]? = some y → x = y) (fun j => xs.length - j) 0)
  · exact (Sub.cons rfl (Sub.cons rfl (Sub.cons rfl (Sub.cons rfl (Sub.nil _)))))
  · exact ⟨rfl, Nat.zero_le _, fun i x y hi => by omega⟩
  rintro j h' ⟨rfl, j1, j2⟩
  refine runJ ?_
  (apply w_condD; exact rfl; exact rfl) <;> intro hj
  · obtain ⟨x, hx⟩ := get_lt hj
    obtain ⟨y, hy⟩ := get_lt (l := ys) (j := j) (by omega)
    refine runJ ?_
    (apply w_condD; exact rfl; exact rfl) <;> intro hd
    · refine runJ ?_
      exact fin1 rfl rfl ⟨dec_f (list_ne hx hy hd), rfl⟩
    · refine runJ ?_
      apply again_normal (j + 1)
      · exact (Sub.cons rfl (Sub.cons rfl (Sub.cons rfl (Sub.cons rfl (Sub.nil _)))))
      · refine ⟨rfl, hj, fun i x' y' hi hx' hy' => ?_⟩
        rcases Nat.lt_succ_iff_lt_or_eq.1 hi with hi | rfl
        · exact j2 i x' y' hi hx' hy'
        · rw [hx] at hx'; rw [hy] at hy'; cases hx'; cases hy'; exact Decidable.of_not_not hd
      · omega
  · refine runJ ?_
    exact fin1 rfl rfl ⟨dec_t (list_eq hle fun i x y hx hy => j2 i x y (by have := (List.getElem?_eq_some_iff.1 hx).1; omega) hx hy), rfl⟩

theorem lift_add (x y : Int) (q : Nat) : liftm (x + y) q = addm (liftm x q) (liftm y q) q := by
  unfold liftm addm
  split
  · rfl
  · rename_i h
    have hx := Int.emod_nonneg x (b := (q : Int)) (by omega)
    have hy := Int.emod_nonneg y (b := (q : Int)) (by omega)
    have e : ((x + y) % (q : Int)) = (((x % (q : Int)).toNat + (y % (q : Int)).toNat) % q : Nat) := by
      rw [Int.natCast_emod, Int.natCast_add, Int.toNat_of_nonneg hx, Int.toNat_of_nonneg hy, ← Int.add_emod]
    rw [e, Int.toNat_natCast]
theorem lift_mul (x y : Int) (q : Nat) : liftm (x * y) q = mulm (liftm x q) (liftm y q) q := by
  unfold liftm mulm
  split
  · rfl
  · rename_i h
    have hx := Int.emod_nonneg x (b := (q : Int)) (by omega)
    have hy := Int.emod_nonneg y (b := (q : Int)) (by omega)
    have e : ((x * y) % (q : Int)) = (((x % (q : Int)).toNat * (y % (q : Int)).toNat) % q : Nat) := by
      rw [Int.natCast_emod, Int.natCast_mul, Int.toNat_of_nonneg hx, Int.toNat_of_nonneg hy, ← Int.mul_emod]
    rw [e, Int.toNat_natCast]
theorem iv_of (z : Int) : IV (decide (z < 0)) z.natAbs = z := by
  unfold IV
  by_cases h : z < 0
  · simp [h]; omega
  · simp [h]; omega
theorem iv_natAbs (n : Bool) (X : Nat) : (IV n X).natAbs = X := (iv_abs n X).1
theorem lift_lt64 {z : Int} {q : Nat} (hq : q < 18446744073709551616) : liftm z q < 18446744073709551616 := by
  unfold liftm
  split
  · omega
  · have := Int.emod_lt_of_pos z (b := (q : Int)) (by omega)
    have := Int.emod_nonneg z (b := (q : Int)) (by omega)
    omega

end Go.Proofs.YtfgfmempmkjlnaaDoor

/- Package param: rows, sizes, and which parameters may be. Condition of what tests primes: the table of math/bits reads as it is laid. -/
namespace Go.Proofs.YtfgfmempmkjlnaaDoor
set_option linter.unusedVariables false
set_option maxRecDepth 8000
open Go Go.Den Go.RowKit Go.Dig

/-- Parameters as they lie. -/
structure ParD where mk ::
  n : Int
  t : Nat
  vq : Value
  q : List Nat
  w : Int
abbrev ParD.cells (p : ParD) : List Value := [I p.n, U p.t, p.vq, I p.w]
structure ParAt (h : Hp) (p : ParD) : Prop where mk ::
  row : SlF h U p.vq p.q
  al : Al 18446744073709551616 p.q
  t64 : p.t < 18446744073709551616
  ln : p.q.length ≤ 4611686018427387904
theorem ParAt.ext {h h' : Hp} {p : ParD} (s : ParAt h p) (e : Ext h h') : ParAt h' p := ⟨s.row.ext e, s.al, s.t64, s.ln⟩

def rowP (n : Int) : Prop := n = 8 ∨ n = 16 ∨ n = 32 ∨ n = 64 ∨ n = 128 ∨ n = 256
instance (n : Int) : Decidable (rowP n) := by unfold rowP; exact inferInstance
def rowF (n : Int) : Nat := if rowP n then 420 else if n = 1024 then 27 else if n = 2048 then 54 else if n = 4096 then 109 else 0
theorem and_pow : ∀ n : Nat, n < 257 → 8 ≤ n → (n &&& (n - 1) = 0 ↔ (n = 8 ∨ n = 16 ∨ n = 32 ∨ n = 64 ∨ n = 128 ∨ n = 256)) := by decide +kernel
theorem rowF_pos {n : Int} (h : 0 < rowF n) : 8 ≤ n ∧ n ≤ 4096 := by
  unfold rowF at h
  by_cases h1 : rowP n
  · unfold rowP at h1; omega
  rw [if_neg h1] at h
  by_cases h2 : n = 1024
  · omega
  rw [if_neg h2] at h
  by_cases h3 : n = 2048
  · omega
  rw [if_neg h3] at h
  by_cases h4 : n = 4096
  · omega
  rw [if_neg h4] at h
  omega

theorem Tryd_ent92 : Ent Tryd.prog 92 := ent_of Tryd.func92 (by kernel_rfl) rfl
theorem row_spec (n : Int) (h : Hp) : CallsH Tryd.prog 92 [I n] h fun v' h' => v' = N (rowF n) ∧ h = h' := by
  (apply enter Tryd.func92 rfl Tryd.ntmps92 rfl)
  refine runJ ?_
  refine s_tcut (σ := Unit) (fun _ => [(0, I n), (3, .bool (decide (rowP n)))]) (fun _ h' => h = h') ?_ ?_
  · (apply s_splitG; exact rfl; exact rfl; exact rfl; exact rfl) <;> intro g1
    · refine runJ ?_
      (apply s_splitG; exact rfl; exact rfl; exact rfl; exact rfl) <;> intro g2
      · obtain ⟨m, rfl⟩ : ∃ m : Nat, n = (m : Int) := ⟨n.toNat, by omega⟩
        have hk := and_pow m (by omega) (by omega)
        refine runJ ?_
        apply cut_normal ()
        · exact Sub.cons rfl (Sub.consE rfl (dec_i (by unfold rowP; omega)) (Sub.nil _))
        · exact rfl
      · refine runJ ?_
        apply cut_normal ()
        · exact Sub.cons rfl (Sub.consE rfl (dec_f (by unfold rowP; omega)) (Sub.nil _))
        · exact rfl
    · refine runJ ?_
      apply cut_normal ()
      · exact Sub.cons rfl (Sub.consE rfl (dec_f (by unfold rowP; omega)) (Sub.nil _))
      · exact rfl
  rintro _ _ rfl
  (apply w_condD; exact rfl; exact rfl) <;> intro h0
  · refine runJ ?_
    exact fin1 rfl rfl ⟨by unfold rowF; rw [if_pos h0], rfl⟩
  refine runJ ?_
  (apply w_condD; exact rfl; exact rfl) <;> intro h1
  · refine runJ ?_
    exact fin1 rfl rfl ⟨by unfold rowF; rw [if_neg h0, if_pos h1], rfl⟩
  refine runJ ?_
  (apply w_condD; exact rfl; exact rfl) <;> intro h2
  · refine runJ ?_
    exact fin1 rfl rfl ⟨by unfold rowF; rw [if_neg h0, if_neg h1, if_pos h2], rfl⟩
  refine runJ ?_
  (apply w_condD; exact rfl; exact rfl) <;> intro h3
  · refine runJ ?_
    exact fin1 rfl rfl ⟨by unfold rowF; rw [if_neg h0, if_neg h1, if_neg h2, if_pos h3], rfl⟩
  refine runJ ?_
  exact fin1 rfl rfl ⟨by unfold rowF; rw [if_neg h0, if_neg h1, if_neg h2, if_neg h3], rfl⟩

def sizedP (p : ParD) : Prop := 0 < rowF p.n ∧ 1 ≤ p.w ∧ p.w ≤ 16
instance (p : ParD) : Decidable (sizedP p) := by unfold sizedP; exact inferInstance
def frP (n : Int) (q : Nat) : Prop := q % (2 * n.toNat) = 1 ∧ isB q = true
instance (n : Int) (q : Nat) : Decidable (frP n q) := by unfold frP; exact inferInstance
def plainP (p : ParD) : Prop := p.t < 1073741824 ∧ frP p.n p.t
instance (p : ParD) : Decidable (plainP p) := by unfold plainP; exact inferInstance
def primesP (p : ParD) : Prop := (∀ q ∈ p.q, q < 1125899906842624 ∧ q ≠ p.t ∧ frP p.n q) ∧ p.q.Nodup ∧ 0 < p.q.length ∧ p.q.length ≤ 8
instance (p : ParD) : Decidable (primesP p) := by unfold primesP; exact inferInstance
def shortP (p : ParD) : Prop := nb (prodL p.q) ≤ rowF p.n
instance (p : ParD) : Decidable (shortP p) := by unfold shortP; exact inferInstance
def parP (p : ParD) : Prop := sizedP p ∧ plainP p ∧ primesP p ∧ shortP p
instance (p : ParD) : Decidable (parP p) := by unfold parP; exact inferInstance

theorem Tryd_ent78 : Ent Tryd.prog 78 := ent_of Tryd.func78 (by kernel_rfl) rfl
theorem sized_spec (p : ParD) (h : Hp) : CallsH Tryd.prog 78 [.agg p.cells.toArray] h fun v' h' => v' = .bool (decide (sizedP p)) ∧ Ext h h' := by
  unfold ParD.cells
  (apply enter Tryd.func78 rfl Tryd.ntmps78 rfl)
  refine runJ ?_
  (apply s_box; exact rfl; exact rfl; exact rfl; exact rfl)
  intro p1 h1 x1 e1 b1
  (try dsimp only [Value.cells, List.toList_toArray] at x1)
  refine ⟨(by first | exact trivial | exact Ext.refl _ | assumption | exact Ext.trans (by assumption) (by assumption)), ?_⟩
  refine runJ ?_
  apply (s_call Tryd_ent92 rfl rfl rfl)
  refine (row_spec p.n h1).mono ?_
  rintro _ _ ⟨rfl, rfl⟩
  refine ⟨(by first | exact trivial | exact trivial), ?_⟩
  refine runJ ?_
  (apply s_splitG; exact rfl; exact rfl; exact rfl; exact rfl) <;> intro g1
  · refine runJ ?_
    (apply s_splitG; exact rfl; exact rfl; exact rfl; exact rfl) <;> intro g2
    · refine runJ ?_
      exact fin1 rfl rfl ⟨dec_i (by unfold sizedP; omega), e1⟩
    · refine runJ ?_
      exact fin1 rfl rfl ⟨dec_f (by unfold sizedP; omega), e1⟩
  · refine runJ ?_
    exact fin1 rfl rfl ⟨dec_f (by unfold sizedP; omega), e1⟩

theorem Tryd_ent93 : Ent Tryd.prog 93 := ent_of Tryd.func93 (by kernel_rfl) rfl
theorem friendly_spec (p : ParD) (q : Nat) (h : Hp) (T : TB h) (hn : 8 ≤ p.n ∧ p.n ≤ 4096) (hq : q < 18446744073709551616) :
    CallsH Tryd.prog 93 [.agg p.cells.toArray, U q] h fun v' h' => v' = .bool (decide (frP p.n q)) ∧ Ext h h' := by
  obtain ⟨n, t, vq, row, w⟩ := p
  obtain ⟨m, rfl⟩ : ∃ m : Nat, n = (m : Int) := ⟨n.toNat, by dsimp only at hn; omega⟩
  dsimp only at hn
  have hm : ¬ 2 * m = 0 := by omega
  unfold ParD.cells
  (apply enter Tryd.func93 rfl Tryd.ntmps93 rfl)
  refine runJ ?_
  (apply s_box; exact rfl; exact rfl; exact rfl; exact rfl)
  intro p1 h1 x1 e1 b1
  (try dsimp only [Value.cells, List.toList_toArray] at x1)
  refine ⟨(by first | exact trivial | exact Ext.refl _ | assumption | exact Ext.trans (by assumption) (by assumption)), ?_⟩
  refine runJ ?_
  (apply s_splitG; exact rfl; exact rfl; exact rfl; exact rfl) <;> intro g1
  · refine runJ ?_
    apply (s_call Tryd_ent70 rfl rfl rfl)
    refine (is_spec q h1 (T.ext e1) hq).mono ?_
    rintro _ h2 ⟨rfl, e2⟩
    refine ⟨(by first | exact trivial | exact trivial), ?_⟩
    refine runJ ?_
    exact fin1 rfl rfl ⟨by congr 1; unfold frP; simp [g1], e1.trans e2⟩
  · refine runJ ?_
    exact fin1 rfl rfl ⟨dec_f fun k => g1 k.1, e1⟩

theorem Tryd_ent79 : Ent Tryd.prog 79 := ent_of Tryd.func79 (by kernel_rfl) rfl
theorem plain_spec (p : ParD) (h : Hp) (T : TB h) (hn : 8 ≤ p.n ∧ p.n ≤ 4096) (ht : p.t < 18446744073709551616) :
    CallsH Tryd.prog 79 [.agg p.cells.toArray] h fun v' h' => v' = .bool (decide (plainP p)) ∧ Ext h h' := by
  have F := fun h T => friendly_spec p p.t h T hn ht
  unfold ParD.cells at F ⊢
  (apply enter Tryd.func79 rfl Tryd.ntmps79 rfl)
  refine runJ ?_
  (apply s_box; exact rfl; exact rfl; exact rfl; exact rfl)
  intro p1 h1 x1 e1 b1
  (try dsimp only [Value.cells, List.toList_toArray] at x1)
  refine ⟨(by first | exact trivial | exact Ext.refl _ | assumption | exact Ext.trans (by assumption) (by assumption)), ?_⟩
  refine runJ ?_
  (apply s_splitG; exact rfl; exact rfl; exact rfl; exact rfl) <;> intro g1
  · refine runJ ?_
    apply (s_call Tryd_ent93 rfl rfl rfl)
    refine (F h1 (T.ext e1)).mono ?_
    rintro _ h2 ⟨rfl, e2⟩
    refine ⟨(by first | exact trivial | exact trivial), ?_⟩
    refine runJ ?_
    exact fin1 rfl rfl ⟨dec_i (by unfold plainP; exact ⟨fun k => ⟨g1, k⟩, fun k => k.2⟩), e1.trans e2⟩
  · refine runJ ?_
    exact fin1 rfl rfl ⟨dec_f fun k => g1 k.1, e1⟩

theorem Tryd_ent80 : Ent Tryd.prog 80 := ent_of Tryd.func80 (by kernel_rfl) rfl
set_option maxHeartbeats 1000000 in
theorem primes_spec (p : ParD) (h : Hp) (T : TB h) (A : ParAt h p) (hn : 8 ≤ p.n ∧ p.n ≤ 4096) :
    CallsH Tryd.prog 80 [.agg p.cells.toArray] h fun v' h' => v' = .bool (decide (primesP p)) ∧ Ext h h' := by
  have F := fun q hq h T => friendly_spec p q h T hn hq
  have hl := A.ln
  have ht := A.t64
  unfold ParD.cells at F ⊢
  (apply enter Tryd.func80 rfl Tryd.ntmps80 rfl)
  refine runJ ?_
  (apply s_box; exact rfl; exact rfl; exact rfl; exact rfl)
  intro p1 h1 x1 e1 b1
  (try dsimp only [Value.cells, List.toList_toArray] at x1)
  refine ⟨(by first | exact trivial | exact Ext.refl _ | assumption | exact Ext.trans (by assumption) (by assumption)), ?_⟩
  have s1 := A.row.ext e1
  refine runJ ?_
  (first | (apply w_seqB; exact rfl; apply w_block; exact rfl) | skip)
  apply (w_loop (σ := Nat) rfl (fun j => [(1, p1), (7, p.vq), (8, N p.q.length), (9, N j)])
    (fun j h' => Ext h1 h' ∧ j ≤ p.q.length ∧ (∀ q ∈ p.q.take j, q < 1125899906842624 ∧ q ≠ p.t ∧ frP p.n q) ∧ (p.q.take j).Nodup) (fun j => p.q.length - j) 0)
  · exact (Sub.cons rfl (Sub.cons rfl (Sub.cons rfl (Sub.cons rfl (Sub.nil _)))))
  · exact ⟨Ext.refl _, Nat.zero_le _, by simp, by simp⟩
  rintro j h2 ⟨e2, j1, j2, j3⟩
  have s2 := s1.ext e2
  have x2 := x1.ext e2
  refine runJ ?_
  (apply w_condD; exact rfl; exact rfl) <;> intro hj
  · obtain ⟨q, hq⟩ := get_lt hj
    have hqm := List.mem_of_getElem? hq
    have hq64 := A.al q hqm
    have c1 := s2.cut (lo := 0) (hi := j) (Nat.zero_le _) j1
    rw [List.drop_zero, Nat.sub_zero] at c1
    have hll : (p.q.take j).length < 4611686018427387904 := by rw [List.length_take]; omega
    refine runJ ?_
    (apply s_splitG; exact rfl; exact rfl; exact rfl; exact rfl) <;> intro g1
    · refine runJ ?_
      exact fin1 rfl rfl ⟨dec_f fun k => by have := (k.1 q hqm).1; omega, e1.trans e2⟩
    refine runJ ?_
    (apply s_splitG; exact rfl; exact rfl; exact rfl; exact rfl) <;> intro g2
    · refine runJ ?_
      exact fin1 rfl rfl ⟨dec_f fun k => (k.1 q hqm).2.1 g2, e1.trans e2⟩
    refine runJ ?_
    apply (s_call Tryd_ent82 rfl rfl rfl)
    refine (contains_spec _ (p.q.take j) q h2 c1 hll).mono ?_
    rintro _ _ ⟨rfl, rfl⟩
    refine ⟨(by first | exact trivial | exact trivial), ?_⟩
    refine runJ ?_
    (apply s_splitG; exact rfl; exact rfl; exact rfl; exact rfl) <;> intro g3
    · refine runJ ?_
      exact fin1 rfl rfl ⟨dec_f fun k => not_nodup_at hq g3 k.2.1, e1.trans e2⟩
    refine runJ ?_
    apply (s_call Tryd_ent93 rfl rfl rfl)
    refine (F q hq64 h2 (T.ext (e1.trans e2))).mono ?_
    rintro _ h3 ⟨rfl, e3⟩
    refine ⟨(by first | exact trivial | exact trivial), ?_⟩
    refine runJ ?_
    (apply w_cond; exact rfl; exact rfl) <;> intro g4
    · have g4 : ¬ frP p.n q := by simpa using g4
      refine runJ ?_
      exact fin1 rfl rfl ⟨dec_f fun k => g4 (k.1 q hqm).2.2, (e1.trans e2).trans e3⟩
    · have g4 : frP p.n q := by simpa using g4
      refine runJ ?_
      apply again_normal (j + 1)
      · exact (Sub.cons rfl (Sub.cons rfl (Sub.cons rfl (Sub.cons rfl (Sub.nil _)))))
      · refine ⟨e2.trans e3, hj, ?_, ?_⟩
        · rw [take_snoc hq]
          intro y hy
          rcases List.mem_append.1 hy with hy | hy
          · exact j2 y hy
          · simp only [List.mem_singleton] at hy; subst hy; exact ⟨by omega, g2, g4⟩
        · rw [take_snoc hq]; exact nodup_snoc j3 g3
      · omega
  · rw [List.take_of_length_le (by omega)] at j2 j3
    refine runJ ?_
    (apply s_splitG; exact rfl; exact rfl; exact rfl; exact rfl) <;> intro g1
    · refine runJ ?_
      exact fin1 rfl rfl ⟨dec_i ⟨fun k => ⟨j2, j3, by omega, by omega⟩, fun k => by have := k.2.2; omega⟩, e1.trans e2⟩
    · refine runJ ?_
      exact fin1 rfl rfl ⟨dec_f fun k => by have := k.2.2; omega, e1.trans e2⟩

theorem Tryd_ent81 : Ent Tryd.prog 81 := ent_of Tryd.func81 (by kernel_rfl) rfl
theorem short_spec (p : ParD) (h : Hp) (A : ParAt h p) (h0 : 0 < p.q.length) (h8 : p.q.length ≤ 8) :
    CallsH Tryd.prog 81 [.agg p.cells.toArray] h fun v' h' => v' = .bool (decide (shortP p)) ∧ Ext h h' := by
  have hne : p.q ≠ [] := by intro e; rw [e] at h0; simp at h0
  have F := fun h s => product_spec p.vq p.q h s A.al (by omega)
  simp only [hne, if_false] at F
  have hdl : (dg 18446744073709551616 (prodL p.q)).length < 1099511627776 := by
    have := dg_len (b := 18446744073709551616) (n := prodL p.q) (k := p.q.length + 1) (by decide) (prodL_lt A.al)
    omega
  unfold ParD.cells
  (apply enter Tryd.func81 rfl Tryd.ntmps81 rfl)
  refine runJ ?_
  (apply s_box; exact rfl; exact rfl; exact rfl; exact rfl)
  intro p1 h1 x1 e1 b1
  (try dsimp only [Value.cells, List.toList_toArray] at x1)
  refine ⟨(by first | exact trivial | exact Ext.refl _ | assumption | exact Ext.trans (by assumption) (by assumption)), ?_⟩
  have s1 := A.row.ext e1
  refine runJ ?_
  apply (s_call Tryd_ent95 rfl rfl rfl)
  refine (F h1 s1).mono ?_
  rintro w1 h2 ⟨e2, o2⟩
  refine ⟨(by first | exact trivial | exact e2), ?_⟩
  have B := bits_spec w1 _ h2 o2.sl (al_dg (by decide) _) hdl
  rw [vl_dg (by decide)] at B
  have x2 := x1.ext e2
  refine runJ ?_
  apply (s_call Tryd_ent94 rfl rfl rfl)
  refine (B).mono ?_
  rintro _ _ ⟨rfl, rfl⟩
  refine ⟨(by first | exact trivial | exact e2), ?_⟩
  refine runJ ?_
  apply (s_call Tryd_ent92 rfl rfl rfl)
  refine (row_spec p.n h2).mono ?_
  rintro _ _ ⟨rfl, rfl⟩
  refine ⟨(by first | exact trivial | exact e2), ?_⟩
  refine runJ ?_
  exact fin1 rfl rfl ⟨rfl, e1.trans e2⟩
end Go.Proofs.YtfgfmempmkjlnaaDoor

/- Package param: the check, levels and steps. Condition of what tests primes: the table of math/bits reads as it is laid. -/
namespace Go.Proofs.YtfgfmempmkjlnaaDoor
set_option linter.unusedVariables false
set_option maxRecDepth 8000
open Go Go.Den Go.RowKit Go.Dig

def askF : Nat → FuncId
  | 0 => 78
  | 1 => 79
  | 2 => 80
  | _ => 81
abbrev askV (cs : List Value) (j : Nat) : Value := .func (.func (askF j)) #[.agg cs.toArray] #[]
def askP (p : ParD) : Nat → Prop
  | 0 => sizedP p
  | 1 => plainP p
  | 2 => primesP p
  | _ => shortP p
theorem parP_of {p : ParD} (h : ∀ j, j < 4 → askP p j) : parP p := ⟨h 0 (by decide), h 1 (by decide), h 2 (by decide), h 3 (by decide)⟩

theorem Tryd_ent54 : Ent Tryd.prog 54 := ent_of Tryd.func54 (by kernel_rfl) rfl
set_option maxHeartbeats 1000000 in
theorem check_spec (p : ParD) (h : Hp) (T : TB h) (A : ParAt h p) :
    CallsH Tryd.prog 54 [.agg p.cells.toArray] h fun v' h' => v' = N (if parP p then 0 else 8) ∧ Ext h h' := by
  have F0 := fun h => sized_spec p h
  have F1 := fun h T hn => plain_spec p h T hn A.t64
  have F2 := fun h T A hn => primes_spec p h T A hn
  have F3 := fun h A h0 h8 => short_spec p h A h0 h8
  unfold ParD.cells at F0 F1 F2 F3 ⊢
  (apply enter Tryd.func54 rfl Tryd.ntmps54 rfl)
  refine runJ ?_
  (apply s_box; exact rfl; exact rfl; exact rfl; exact rfl)
  intro p1 h1 x1 e1 b1
  (try dsimp only [Value.cells, List.toList_toArray] at x1)
  refine ⟨(by first | exact trivial | exact Ext.refl _ | assumption | exact Ext.trans (by assumption) (by assumption)), ?_⟩
  refine runJ ?_
  (apply (s_build ([I p.n, U p.t, p.vq, I p.w])); exact rfl; exact rfl; exact rfl; (repeat (first | exact CellsAll.nil | (apply CellsAll.cons; (first | exact oneL (by assumption) | exact oneL (SlF.one (by assumption)) | exact oneL (SlF.one (OwnF.sl (by assumption))) | exact oneL (Var.one (by assumption)) | exact rfl)))); exact rfl; exact rfl)
  refine runJ ?_
  (apply s_alloc; exact rfl; exact rfl; exact rfl)
  intro p2 h2 x2 e2 b2
  (try dsimp only [Value.cells, List.toList_toArray] at x2)
  refine ⟨(by first | exact trivial | exact Ext.refl _ | assumption | exact Ext.trans (by assumption) (by assumption)), ?_⟩
  refine runJ ?_
  have s0 := A.row
  (apply s_storeV; exact rfl; exact rfl; exact rfl; (repeat (first | exact OneAll.nil | (apply OneAll.cons; (first | exact rfl | exact SlF.one (by assumption) | exact SlF.one (OwnF.sl (by assumption)) | exact Var.one (by assumption))))); exact rfl; exact rfl; exact x2; exact rfl)
  intro h3 x3 k3
  (try dsimp only [Value.cells, List.toList_toArray] at x3)
  refine ⟨(by first | exact trivial | exact Ext.refl _ | assumption | exact Ext.only (by assumption) _ | exact Only.trans (Ext.only (by assumption) _) (by assumption)), ?_⟩
  have e3 : Ext h h3 := k3.oldV (e1.trans e2) b2 e1.1
  refine runJ ?_
  (apply (s_litF (f := askV [I p.n, U p.t, p.vq, I p.w]) [0, 1, 2, 3] (fun _ => rfl)); exact rfl; exact rfl; exact rfl; exact rfl; exact rfl; exact rfl; exact rfl; exact rfl; omega)
  intro v4 h4 o4 e4 b4
  refine ⟨(by first | exact trivial | exact Ext.refl _ | assumption | exact Ext.trans (by assumption) (by assumption)), ?_⟩
  have e34 := e3.trans e4
  have s4 := o4.sl
  refine runJ ?_
  (first | (apply w_seqB; exact rfl; apply w_block; exact rfl) | skip)
  apply (w_loop (σ := Nat) rfl (fun j => [(16, v4), (17, N 4), (18, N j)])
    (fun j h' => Ext h4 h' ∧ j ≤ 4 ∧ ∀ i, i < j → askP p i) (fun j => 4 - j) 0)
  · exact (Sub.cons rfl (Sub.cons rfl (Sub.cons rfl (Sub.nil _))))
  · exact ⟨Ext.refl _, Nat.zero_le _, fun i hi => absurd hi (Nat.not_lt_zero _)⟩
  rintro j h5 ⟨e5, j1, j2⟩
  have e45 := e34.trans e5
  have s5 := s4.ext e5
  have A5 := A.ext e45
  have T5 := T.ext e45
  refine runJ ?_
  (apply w_condD; exact rfl; exact rfl) <;> intro hj
  · rcases (show j = 0 ∨ j = 1 ∨ j = 2 ∨ j = 3 by omega) with rfl | rfl | rfl | rfl
    · have hr : [0, 1, 2, 3][0]? = some 0 := rfl
      refine runJ ?_
      refine s_callV rfl Tryd_ent78 rfl rfl rfl ?_
      refine (F0 h5).mono ?_
      rintro _ h6 ⟨rfl, e6⟩
      refine ⟨(by first | exact trivial | exact trivial), ?_⟩
      refine runJ ?_
      (apply w_cond; exact rfl; exact rfl) <;> intro g
      · have g : ¬ sizedP p := by simpa using g
        refine runJ ?_
        exact fin1 rfl rfl ⟨by rw [if_neg fun k => g k.1], e45.trans e6⟩
      · have g : sizedP p := by simpa using g
        refine runJ ?_
        apply again_normal 1
        · exact (Sub.cons rfl (Sub.cons rfl (Sub.cons rfl (Sub.nil _))))
        · exact ⟨e5.trans e6, by decide, fun i hi => by obtain rfl : i = 0 := by omega
                                                        exact g⟩
        · decide
    · have hn := rowF_pos (j2 0 (by decide)).1
      have hr : [0, 1, 2, 3][1]? = some 1 := rfl
      refine runJ ?_
      refine s_callV rfl Tryd_ent79 rfl rfl rfl ?_
      refine (F1 h5 T5 hn).mono ?_
      rintro _ h6 ⟨rfl, e6⟩
      refine ⟨(by first | exact trivial | exact trivial), ?_⟩
      refine runJ ?_
      (apply w_cond; exact rfl; exact rfl) <;> intro g
      · have g : ¬ plainP p := by simpa using g
        refine runJ ?_
        exact fin1 rfl rfl ⟨by rw [if_neg fun k => g k.2.1], e45.trans e6⟩
      · have g : plainP p := by simpa using g
        refine runJ ?_
        apply again_normal 2
        · exact (Sub.cons rfl (Sub.cons rfl (Sub.cons rfl (Sub.nil _))))
        · exact ⟨e5.trans e6, by decide, fun i hi => by
            rcases (show i < 1 ∨ i = 1 by omega) with hi | rfl
            · exact j2 i hi
            · exact g⟩
        · decide
    · have hn := rowF_pos (j2 0 (by decide)).1
      have hr : [0, 1, 2, 3][2]? = some 2 := rfl
      refine runJ ?_
      refine s_callV rfl Tryd_ent80 rfl rfl rfl ?_
      refine (F2 h5 T5 A5 hn).mono ?_
      rintro _ h6 ⟨rfl, e6⟩
      refine ⟨(by first | exact trivial | exact trivial), ?_⟩
      refine runJ ?_
      (apply w_cond; exact rfl; exact rfl) <;> intro g
      · have g : ¬ primesP p := by simpa using g
        refine runJ ?_
        exact fin1 rfl rfl ⟨by rw [if_neg fun k => g k.2.2.1], e45.trans e6⟩
      · have g : primesP p := by simpa using g
        refine runJ ?_
        apply again_normal 3
        · exact (Sub.cons rfl (Sub.cons rfl (Sub.cons rfl (Sub.nil _))))
        · exact ⟨e5.trans e6, by decide, fun i hi => by
            rcases (show i < 2 ∨ i = 2 by omega) with hi | rfl
            · exact j2 i hi
            · exact g⟩
        · decide
    · have hp : primesP p := j2 2 (by decide)
      have hr : [0, 1, 2, 3][3]? = some 3 := rfl
      refine runJ ?_
      refine s_callV rfl Tryd_ent81 rfl rfl rfl ?_
      refine (F3 h5 A5 hp.2.2.1 hp.2.2.2).mono ?_
      rintro _ h6 ⟨rfl, e6⟩
      refine ⟨(by first | exact trivial | exact trivial), ?_⟩
      refine runJ ?_
      (apply w_cond; exact rfl; exact rfl) <;> intro g
      · have g : ¬ shortP p := by simpa using g
        refine runJ ?_
        exact fin1 rfl rfl ⟨by rw [if_neg fun k => g k.2.2.2], e45.trans e6⟩
      · have g : shortP p := by simpa using g
        refine runJ ?_
        apply again_normal 4
        · exact (Sub.cons rfl (Sub.cons rfl (Sub.cons rfl (Sub.nil _))))
        · exact ⟨e5.trans e6, by decide, fun i hi => by
            rcases (show i < 3 ∨ i = 3 by omega) with hi | rfl
            · exact j2 i hi
            · exact g⟩
        · decide
  · obtain rfl : j = 4 := by omega
    refine runJ ?_
    exact fin1 rfl rfl ⟨by rw [if_pos (parP_of j2)], e45⟩

/-- What a level's modulus is refused by, or 0. -/
def levE (p : ParD) (l : Int) : Nat := if parP p then (if l < 0 ∨ (p.q.length : Int) ≤ l then 10 else 0) else 8
def levM (p : ParD) (l : Int) : Nat := prodL (p.q.take (l.toNat + 1))
theorem al_take {b : Nat} {xs : List Nat} (h : Al b xs) (n : Nat) : Al b (xs.take n) := fun x hx => h x (List.mem_of_mem_take hx)

end Go.Proofs.YtfgfmempmkjlnaaDoor

/- Package param: the fixed calls, and the laws of steps and rows. Condition: the table of math/bits reads as it is laid. -/
namespace Go.Proofs.YtfgfmempmkjlnaaDoor
set_option linter.unusedVariables false
set_option maxRecDepth 8000
open Go Go.Den Go.RowKit Go.Dig

/-- Parameters whose row may be as long as any. -/
structure ParA0 (h : Hp) (p : ParD) : Prop where mk ::
  row : SlF h U p.vq p.q
  al : Al 18446744073709551616 p.q
  t64 : p.t < 18446744073709551616
  ln : p.q.length < 9223372036854775808

theorem par97 (w : Value) : parP ⟨8, 17, w, [97, 193], 2⟩ := (by decide +kernel : parP ⟨8, 17, .bool false, [97, 193], 2⟩)
theorem par0 (w : Value) : ¬ parP ⟨0, 0, w, [], 0⟩ := (by decide +kernel : ¬ parP ⟨0, 0, .bool false, [], 0⟩)
theorem lev97 (w : Value) : levE ⟨8, 17, w, [97, 193], 2⟩ 1 = 0 := by unfold levE; rw [if_pos (par97 w)]; rfl
theorem levM97 (w : Value) : levM ⟨8, 17, w, [97, 193], 2⟩ 1 = 18721 := rfl

theorem levE_par {p : ParD} {l : Int} (h : levE p l = 0) : parP p ∧ 0 ≤ l ∧ l < p.q.length := by
  unfold levE at h
  by_cases hp : parP p
  · rw [if_pos hp] at h
    by_cases hl : l < 0 ∨ (p.q.length : Int) ≤ l
    · rw [if_pos hl] at h; omega
    · exact ⟨hp, by omega, by omega⟩
  · rw [if_neg hp] at h; omega
theorem par_t {p : ParD} (hp : parP p) : 0 < p.t := by
  have := hp.2.1.2.1
  by_cases e : p.t = 0
  · rw [e, Nat.zero_mod] at this; omega
  · omega
theorem levM_len {p : ParD} {l : Int} (hp : parP p) (A : Al 18446744073709551616 p.q) : (dg 18446744073709551616 (levM p l)).length ≤ 9 := by
  have h1 := dg_len (b := 18446744073709551616) (n := levM p l) (k := (p.q.take (l.toNat + 1)).length + 1) (by decide) (prodL_lt (al_take A _))
  have h2 := hp.2.2.1.2.2.2
  rw [List.length_take] at h1
  omega

theorem levE_top {p : ParD} (hp : parP p) {m : Nat} (hm : m < p.q.length) : levE p (m : Int) = 0 := by
  unfold levE
  rw [if_pos hp, if_neg (by omega)]
theorem levM_all {p : ParD} {m : Nat} (hm : m + 1 = p.q.length) : levM p (m : Int) = prodL p.q := by
  unfold levM
  rw [Int.toNat_natCast, hm, List.take_length]
theorem levM_step {p : ParD} {m q : Nat} (hq : p.q[m + 1]? = some q) : levM p ((m + 1 : Nat) : Int) = levM p (m : Int) * q := by
  unfold levM
  rw [Int.toNat_natCast, Int.toNat_natCast, take_snoc hq, prodL_snoc]

end Go.Proofs.YtfgfmempmkjlnaaDoor

/- Package param: parameters compared, and the law of it. Condition of the fixed calls: the table of math/bits reads as it is laid. -/
namespace Go.Proofs.YtfgfmempmkjlnaaDoor
set_option linter.unusedVariables false
set_option maxRecDepth 8000
open Go Go.Den Go.RowKit Go.Dig

/-- What the closure 'rest' makes of parameters. -/
def restL (p : ParD) : List Int := [p.n, IntKind.i64.wrap p.t, p.w]
def sameP (a b : ParD) : Prop := a.n = b.n ∧ a.t = b.t ∧ a.w = b.w ∧ a.q = b.q
instance (a b : ParD) : Decidable (sameP a b) := by unfold sameP; exact inferInstance
theorem wrap_inj {a b : Nat} (ha : a < 18446744073709551616) (hb : b < 18446744073709551616) (h : IntKind.i64.wrap a = IntKind.i64.wrap b) : a = b := by
  rw [IntKind.wrap_i64, IntKind.wrap_i64] at h
  omega
theorem restL_eq {a b : ParD} (ha : a.t < 18446744073709551616) (hb : b.t < 18446744073709551616) : restL a = restL b ↔ (a.n = b.n ∧ a.t = b.t ∧ a.w = b.w) := by
  unfold restL
  constructor
  · intro h
    simp only [List.cons.injEq, and_true] at h
    exact ⟨h.1, wrap_inj ha hb h.2.1, h.2.2⟩
  · rintro ⟨h1, h2, h3⟩
    rw [h1, h2, h3]

theorem sameU9_spec (va vb : Value) (xs ys : List Nat) (h : Hp) (ha : SlF h U va xs) (hb : SlF h U vb ys) (hl : xs.length < 9223372036854775808) (hl2 : ys.length < 9223372036854775808) :
    CallsH Tryd.prog 17 [va, vb] h fun v' h' => v' = .bool (decide (xs = ys)) ∧ h = h' := by
  (apply enter Tryd.func17 rfl Tryd.ntmps17 rfl)
  refine runJ ?_
  (apply w_condD; exact rfl; exact rfl) <;> intro hne
  · refine runJ ?_
    exact fin1 rfl rfl ⟨dec_f (fun e => hne (by rw [e])), rfl⟩
  have hle : xs.length = ys.length := by omega
  refine runJ ?_
  (first | (apply w_seqB; exact rfl; apply w_block; exact rfl) | skip)
  apply (w_loop (σ := Nat) rfl (fun j => [(0, va), (1, vb), (12, N xs.length), (13, N j)])
    (fun j h' => h = h' ∧ j ≤ xs.length ∧ ∀ (i : Nat) (x y : Nat), i < j → xs[i]? = some x → ys[i]? = some y → x = y) (fun j => xs.length - j) 0)
  · exact (Sub.cons rfl (Sub.cons rfl (Sub.cons rfl (Sub.cons rfl (Sub.nil _)))))
  · exact ⟨rfl, Nat.zero_le _, fun i x y hi => by omega⟩
  rintro j h' ⟨rfl, j1, j2⟩
  refine runJ ?_
  (apply w_condD; exact rfl; exact rfl) <;> intro hj
  · obtain ⟨x, hx⟩ := get_lt hj
    obtain ⟨y, hy⟩ := get_lt (l := ys) (j := j) (by omega)
    refine runJ ?_
    (apply w_condD; exact rfl; exact rfl) <;> intro hd
    · refine runJ ?_
      exact fin1 rfl rfl ⟨dec_f (list_ne hx hy hd), rfl⟩
    · refine runJ ?_
      apply again_normal (j + 1)
      · exact (Sub.cons rfl (Sub.cons rfl (Sub.cons rfl (Sub.cons rfl (Sub.nil _)))))
      · refine ⟨rfl, hj, fun i x' y' hi hx' hy' => ?_⟩
        rcases Nat.lt_succ_iff_lt_or_eq.1 hi with hi | rfl
        · exact j2 i x' y' hi hx' hy'
        · rw [hx] at hx'; rw [hy] at hy'; cases hx'; cases hy'; exact Decidable.of_not_not hd
      · omega
  · refine runJ ?_
    exact fin1 rfl rfl ⟨dec_t (list_eq hle fun i x y hx hy => j2 i x y (by have := (List.getElem?_eq_some_iff.1 hx).1; omega) hx hy), rfl⟩

theorem sameP_comm (a b : ParD) : decide (sameP b a) = decide (sameP a b) := by
  rw [decide_eq_decide]
  unfold sameP
  constructor <;> rintro ⟨h1, h2, h3, h4⟩ <;> exact ⟨h1.symm, h2.symm, h3.symm, h4.symm⟩
theorem ParA0.ext {h h' : Hp} {p : ParD} (s : ParA0 h p) (e : Ext h h') : ParA0 h' p := ⟨s.row.ext e, s.al, s.t64, s.ln⟩

end Go.Proofs.YtfgfmempmkjlnaaDoor

/- Package ntt: no table at all; the fixed calls; the law NttNil. Condition: the table of math/bits reads as it is laid. -/
namespace Go.Proofs.YtfgfmempmkjlnaaDoor
set_option linter.unusedVariables false
set_option maxRecDepth 8000
open Go Go.Den Go.RowKit Go.Mth

theorem values_nil (va : Value) (h : Hp) : CallsH Tryd.prog 15 [.pointer none, va] h fun v' h' => v' = .tuple #[.slice none 0 0, N 1] ∧ h = h' := by
  (apply enter Tryd.func15 rfl Tryd.ntmps15 rfl)
  refine runJ ?_
  exact fin2 rfl rfl rfl ⟨rfl, rfl⟩
theorem back_nil (va : Value) (h : Hp) : CallsH Tryd.prog 16 [.pointer none, va] h fun v' h' => v' = .tuple #[.slice none 0 0, N 1] ∧ h = h' := by
  (apply enter Tryd.func16 rfl Tryd.ntmps16 rfl)
  refine runJ ?_
  exact fin2 rfl rfl rfl ⟨rfl, rfl⟩
theorem nttMul_nil (va vb : Value) (h : Hp) : CallsH Tryd.prog 18 [.pointer none, va, vb] h fun v' h' => v' = .tuple #[.slice none 0 0, N 1] ∧ h = h' := by
  (apply enter Tryd.func18 rfl Tryd.ntmps18 rfl)
  refine runJ ?_
  refine s_callV rfl Tryd_ent15 rfl rfl rfl ?_
  refine (values_nil va h).mono ?_
  rintro _ _ ⟨rfl, rfl⟩
  refine ⟨(by first | exact trivial | exact trivial), ?_⟩
  refine runJ ?_
  exact fin2 rfl rfl rfl ⟨rfl, rfl⟩

theorem dft_inj {t : Tbl} (K : TblOk t) {xs ys : List Nat} (hx : Fit (2 ^ t.L) t.q xs) (hy : Fit (2 ^ t.L) t.q ys) (h : ∀ k, k < 2 ^ t.L → Cg t.q (dft (2 ^ t.L) t.w (gt xs) k) (dft (2 ^ t.L) t.w (gt ys) k)) : xs = ys :=
  lists_cg (by rw [hx.1, hy.1]) hx.2 hy.2 fun p hp => by
    have hp' : p < 2 ^ t.L := by rw [← hx.1]; exact hp
    have h1 := idft_dft K.cw K.cuw K.cp (gt xs) hp'
    have h2 := idft_dft K.cw K.cuw K.cp (gt ys) hp'
    exact h1.symm.trans ((idft_cg (fun j hj => h j hj) p).trans h2)
theorem val_eq {t : Tbl} {xs ys zs : List Nat} (h : Val t xs ys) (hz : Fit (2 ^ t.L) t.q zs) (e : ∀ k, k < 2 ^ t.L → Cg t.q (gt zs k) (dft (2 ^ t.L) t.w (gt xs) k)) : ys = zs :=
  lists_cg (by rw [h.1.1, hz.1]) h.1.2 hz.2 fun p hp => (h.2 p (by rw [← h.1.1]; exact hp)).trans (e p (by rw [← h.1.1]; exact hp)).symm
theorem prd_eq {t : Tbl} (K : TblOk t) {xs ys rs zs : List Nat} (h : Prd t xs ys rs) (hz : Fit (2 ^ t.L) t.q zs) (e : ∀ k, k < 2 ^ t.L → Cg t.q (dft (2 ^ t.L) t.w (gt zs) k) (dft (2 ^ t.L) t.w (gt xs) k * dft (2 ^ t.L) t.w (gt ys) k)) : rs = zs :=
  dft_inj K h.1 hz fun k hk => (h.2 k hk).trans (e k hk).symm

theorem root5 {r : Nat} (h : RootR 5 4 r) : r = 2 := by
  obtain ⟨hr, w, hw, hp, ⟨j, hj, rfl⟩, hall⟩ := h
  have h0 := hall 0 (by decide)
  have h1 := hall 1 (by decide)
  have key : ∀ w, w < 5 → powm w (4 / 2) 5 = 5 - 1 → ∀ j, j < 4 / 2 → w ^ (2 * j + 1) % 5 ≤ w ^ (2 * 0 + 1) % 5 → w ^ (2 * j + 1) % 5 ≤ w ^ (2 * 1 + 1) % 5 → w ^ (2 * j + 1) % 5 = 2 := by decide
  exact key w hw hp j hj h0 h1
theorem isB5 : isB 5 = true := by decide +kernel
theorem cgd {q : Nat} {a b : Int} (h : (a - b) % (q : Int) = 0) : Cg q a b := ⟨(a - b) / q, by have := Int.emod_add_mul_ediv (a - b) q; omega⟩

theorem Tryd_ent11 : Ent Tryd.prog 11 := ent_of Tryd.func11 (by kernel_rfl) rfl
set_option maxHeartbeats 1000000 in
theorem fixed04_spec (h : Hp) (T : TB h) : CallsH Tryd.prog 11 [] h fun v' h' => v' = .bool true ∧ Ext h h' := by
  have NW := nttNew_spec 1 5 2 h T (by decide) (by decide) (by decide) (by decide) (by decide) isB5 (by decide) (by decide) (by decide)
  (apply enter Tryd.func11 rfl Tryd.ntmps11 rfl)
  refine runJ ?_
  apply (s_call Tryd_ent12 rfl rfl rfl)
  refine (NW).mono ?_
  rintro _ h1 ⟨e1, g, t, rfl, A, K, hL, hq, hR⟩
  refine ⟨(by first | exact trivial | exact trivial), ?_⟩
  have hw := root5 hR
  obtain ⟨L, q, w, u, p, vr, vu⟩ := t
  dsimp only at hL hq hw
  subst hL hq hw
  refine runJ ?_
  (apply (s_litF (f := U) [1, 1] (fun _ => rfl)); exact rfl; exact rfl; exact rfl; exact rfl; exact rfl; exact rfl; exact rfl; exact rfl; omega)
  intro w2 h2 o2 e2 b2
  refine ⟨(by first | exact trivial | exact Ext.refl _ | assumption | exact Ext.trans (by assumption) (by assumption)), ?_⟩
  have V := fun h s A => values_spec g w2 _ [1, 1] h K A s (by dsimp only; decide)
  refine runJ ?_
  apply (s_call Tryd_ent15 rfl rfl rfl)
  refine (V h2 o2.sl (A.ext e2)).mono ?_
  rintro _ h3 ⟨e3, r3, ys, rfl, o3, V3⟩
  refine ⟨(by first | exact trivial | exact trivial), ?_⟩
  obtain rfl : ys = [3, 4] := val_eq V3 (by dsimp only; decide) (by
    intro k hk
    rcases (show k = 0 ∨ k = 1 by change k < 2 at hk; omega) with rfl | rfl <;> exact cgd (by dsimp only; decide))
  refine runJ ?_
  (apply (s_litF (f := U) [0, 1] (fun _ => rfl)); exact rfl; exact rfl; exact rfl; exact rfl; exact rfl; exact rfl; exact rfl; exact rfl; omega)
  intro w4 h4 o4 e4 b4
  refine ⟨(by first | exact trivial | exact Ext.refl _ | assumption | exact Ext.trans (by assumption) (by assumption)), ?_⟩
  refine runJ ?_
  (apply (s_litF (f := U) [0, 1] (fun _ => rfl)); exact rfl; exact rfl; exact rfl; exact rfl; exact rfl; exact rfl; exact rfl; exact rfl; omega)
  intro w5 h5 o5 e5 b5
  refine ⟨(by first | exact trivial | exact Ext.refl _ | assumption | exact Ext.trans (by assumption) (by assumption)), ?_⟩
  have A5 := ((((A.ext e2).ext e3).ext e4).ext e5)
  have M := nttMul_spec g w4 w5 _ [0, 1] [0, 1] h5 K A5 (o4.sl.ext e5) o5.sl (by dsimp only; decide) (by dsimp only; decide)
  refine runJ ?_
  apply (s_call Tryd_ent18 rfl rfl rfl)
  refine (M).mono ?_
  rintro _ h6 ⟨e6, r6, rs, rfl, o6, P6⟩
  refine ⟨(by first | exact trivial | exact trivial), ?_⟩
  obtain rfl : rs = [4, 0] := prd_eq K P6 (by dsimp only; decide) (by
    intro k hk
    rcases (show k = 0 ∨ k = 1 by change k < 2 at hk; omega) with rfl | rfl <;> exact cgd (by dsimp only; decide))
  have e36 := (e4.trans e5).trans e6
  refine runJ ?_
  (apply (s_litF (f := U) [3, 4] (fun _ => rfl)); exact rfl; exact rfl; exact rfl; exact rfl; exact rfl; exact rfl; exact rfl; exact rfl; omega)
  intro w7 h7 o7 e7 b7
  refine ⟨(by first | exact trivial | exact Ext.refl _ | assumption | exact Ext.trans (by assumption) (by assumption)), ?_⟩
  refine runJ ?_
  apply (s_call Tryd_ent17 rfl rfl rfl)
  refine (sameU9_spec r3 w7 [3, 4] [3, 4] h7 ((o3.sl.ext e36).ext e7) o7.sl (by decide) (by decide)).mono ?_
  rintro _ _ ⟨rfl, rfl⟩
  refine ⟨(by first | exact trivial | exact Ext.refl _ | assumption | exact Ext.trans (by assumption) (by assumption)), ?_⟩
  refine runJ ?_
  (apply (s_litF (f := U) [4, 0] (fun _ => rfl)); exact rfl; exact rfl; exact rfl; exact rfl; exact rfl; exact rfl; exact rfl; exact rfl; omega)
  intro w8 h8 o8 e8 b8
  refine ⟨(by first | exact trivial | exact Ext.refl _ | assumption | exact Ext.trans (by assumption) (by assumption)), ?_⟩
  refine runJ ?_
  apply (s_call Tryd_ent17 rfl rfl rfl)
  refine (sameU9_spec r6 w8 [4, 0] [4, 0] h8 ((o6.sl.ext e7).ext e8) o8.sl (by decide) (by decide)).mono ?_
  rintro _ _ ⟨rfl, rfl⟩
  refine ⟨(by first | exact trivial | exact Ext.refl _ | assumption | exact Ext.trans (by assumption) (by assumption)), ?_⟩
  refine runJ ?_
  exact fin1 rfl rfl ⟨rfl, (((e1.trans e2).trans e3).trans e36).trans (e7.trans e8)⟩

theorem Tryd_ent5 : Ent Tryd.prog 5 := ent_of Tryd.func5 (by kernel_rfl) rfl
theorem nttNil_law (va : Value) (xs : List Nat) (h : Hp) (T : TB h) (s : SlF h U va xs) :
    CallsH Tryd.prog 5 [va] h fun v' h' => v' = .bool true ∧ Ext h h' := by
  (apply enter Tryd.func5 rfl Tryd.ntmps5 rfl)
  refine runJ ?_
  apply (s_call Tryd_ent11 rfl rfl rfl)
  refine (fixed04_spec h T).mono ?_
  rintro _ h1 ⟨rfl, e1⟩
  refine ⟨(by first | exact trivial | exact trivial), ?_⟩
  refine runJ ?_
  apply (s_call Tryd_ent15 rfl rfl rfl)
  refine (values_nil va h1).mono ?_
  rintro _ _ ⟨rfl, rfl⟩
  refine ⟨(by first | exact trivial | exact trivial), ?_⟩
  refine runJ ?_
  apply (s_call Tryd_ent16 rfl rfl rfl)
  refine (back_nil va h1).mono ?_
  rintro _ _ ⟨rfl, rfl⟩
  refine ⟨(by first | exact trivial | exact trivial), ?_⟩
  refine runJ ?_
  apply (s_call Tryd_ent18 rfl rfl rfl)
  refine (nttMul_nil va va h1).mono ?_
  rintro _ _ ⟨rfl, rfl⟩
  refine ⟨(by first | exact trivial | exact trivial), ?_⟩
  have sn := SlF.nil h1 U
  refine runJ ?_
  simp only [List.length_nil]
  refine runJ ?_
  simp only [List.length_nil]
  refine runJ ?_
  exact fin1 rfl rfl ⟨rfl, e1⟩
end Go.Proofs.YtfgfmempmkjlnaaDoor

/- Plain facts for the laws of package ntt: fast powers, the three primes. No condition. -/
namespace Go.Proofs.YtfgfmempmkjlnaaDoor
set_option linter.unusedVariables false
set_option maxRecDepth 8000
open Go Go.Den Go.RowKit Go.Mth

def fp (m : Nat) : Nat → Nat → Nat → Nat
  | 0, _, _ => 1 % m
  | f + 1, a, n => if n = 0 then 1 % m else if n % 2 = 1 then a * fp m f (a * a % m) (n / 2) % m else fp m f (a * a % m) (n / 2)
theorem fp_eq (m : Nat) : ∀ f a n, n < 2 ^ f → fp m f a n = a ^ n % m
  | 0, a, n, h => by
    obtain rfl : n = 0 := by rw [Nat.pow_zero] at h; omega
    rfl
  | f + 1, a, n, h => by
    unfold fp
    by_cases h0 : n = 0
    · rw [if_pos h0, h0, Nat.pow_zero]
    rw [if_neg h0, fp_eq m f _ _ (by rw [Nat.pow_succ] at h; omega)]
    have e : (a * a % m) ^ (n / 2) % m = a ^ (2 * (n / 2)) % m := by rw [← Nat.pow_mod, Nat.pow_mul, Nat.pow_two]
    rw [e]
    by_cases h1 : n % 2 = 1
    · rw [if_pos h1, Nat.mul_mod_mod, ← Nat.pow_succ', show (2 * (n / 2)).succ = n by omega]
    · rw [if_neg h1, show 2 * (n / 2) = n by omega]
theorem powm_fp {a n m : Nat} (hn : n < 18446744073709551616) (hm : m ≠ 0) : powm a n m = fp m 64 a n := by
  unfold powm; rw [if_neg hm, fp_eq m 64 a n hn]

def holdsF (n d s a : Nat) : Bool := a % n == 0 || (fp n 64 (a % n) d == 1 || (fp n 64 (a % n) d == n - 1 || holdsLoop n (s - 1) (fp n 64 (a % n) d)))
def isF (n : Nat) : Bool := if n < 4 ∨ n % 2 = 0 then n == 2 || n == 3 else bases.all (holdsF n ((n - 1) / 2 ^ tz (n - 1)) (tz (n - 1)))
theorem isB_fast {n : Nat} (hn : n < 18446744073709551616) (h0 : n ≠ 0) : isB n = isF n := by
  unfold isB isF
  have hd : (n - 1) / 2 ^ tz (n - 1) < 18446744073709551616 := Nat.lt_of_le_of_lt (Nat.div_le_self _ _) (by omega)
  have : holdsB n ((n - 1) / 2 ^ tz (n - 1)) (tz (n - 1)) = holdsF n ((n - 1) / 2 ^ tz (n - 1)) (tz (n - 1)) := by
    funext a
    unfold holdsB holdsF
    rw [powm_fp hd h0]
  rw [this]

def q3 : List Nat := [12289, 40961, 1152921504606830593]
def x3 : List Nat := [11, 3, 5]
theorem is3 : isB 12289 = true ∧ isB 40961 = true ∧ isB 1152921504606830593 = true :=
  ⟨(isB_fast (by decide) (by decide)).trans (by decide +kernel), (isB_fast (by decide) (by decide)).trans (by decide +kernel), (isB_fast (by decide) (by decide)).trans (by decide +kernel)⟩
def facts (r : Nat) (q X : Nat) : Bool := Nat.beq (q % (2 * 2 ^ (r + 1))) 1 && Nat.beq (fp q 64 (fp q 64 X ((q - 1) / 2 ^ (r + 2))) (2 ^ (r + 2) / 2)) (q - 1)
theorem facts9 : ∀ r, r < 9 → facts r (q3.getD (r % 3) 0) (x3.getD (r % 3) 0) = true := by decide +kernel
theorem prime3 {r : Nat} (hr : r < 9) : ∃ q X, q3[r % 3]? = some q ∧ q < 2305843009213693952 ∧ 1 < q ∧ isB q = true ∧ q % (2 * 2 ^ (r + 1)) = 1 ∧ 2 ≤ X ∧ X < 18446744073709551615 ∧ powm (powm X ((q - 1) / 2 ^ (r + 2)) q) (2 ^ (r + 2) / 2) q = q - 1 := by
  have hf := facts9 r hr
  have h2 : (2 : Nat) ^ (r + 2) ≤ 2 ^ 10 := Nat.pow_le_pow_right (by decide) (by omega)
  obtain ⟨q, hq, X, hX, b⟩ : ∃ q, q3[r % 3]? = some q ∧ ∃ X, x3.getD (r % 3) 0 = X ∧ q < 2305843009213693952 ∧ 1 < q ∧ isB q = true ∧ 2 ≤ X ∧ X < 18446744073709551615 := by
    rcases (show r % 3 = 0 ∨ r % 3 = 1 ∨ r % 3 = 2 by omega) with h | h | h <;> rw [h]
    · exact ⟨_, rfl, _, rfl, by decide, by decide, is3.1, by decide, by decide⟩
    · exact ⟨_, rfl, _, rfl, by decide, by decide, is3.2.1, by decide, by decide⟩
    · exact ⟨_, rfl, _, rfl, by decide, by decide, is3.2.2, by decide, by decide⟩
  rw [getD_of hq, hX] at hf
  obtain ⟨b1, b2, b3, b4, b5⟩ := b
  unfold facts at hf
  simp only [Bool.and_eq_true] at hf
  refine ⟨q, X, hq, b1, b2, b3, Nat.eq_of_beq_eq_true hf.1, b4, b5, ?_⟩
  rw [powm_fp (a := X) (by have := Nat.div_le_self (q - 1) (2 ^ (r + 2)); omega) (by omega), powm_fp (by omega) (by omega)]
  exact Nat.eq_of_beq_eq_true hf.2

/-- There and back. -/
theorem val_bck {t : Tbl} (K : TblOk t) {xs ys zs : List Nat} (hx : Fit (2 ^ t.L) t.q xs) (h1 : Val t xs ys) (h2 : Bck t ys zs) : zs = xs :=
  lists_cg (by rw [h2.1.1, hx.1]) h2.1.2 hx.2 fun p hp => by
    have hp' : p < 2 ^ t.L := by rw [← h2.1.1]; exact hp
    exact (h2.2 p hp').trans ((idft_cg (fun j hj => h1.2 j hj) p).trans (idft_dft K.cw K.cuw K.cp (gt xs) hp'))
theorem bck_val {t : Tbl} (K : TblOk t) {xs ys zs : List Nat} (hx : Fit (2 ^ t.L) t.q xs) (h1 : Bck t xs ys) (h2 : Val t ys zs) : zs = xs :=
  lists_cg (by rw [h2.1.1, hx.1]) h2.1.2 hx.2 fun p hp => by
    have hp' : p < 2 ^ t.L := by rw [← h2.1.1]; exact hp
    exact (h2.2 p hp').trans ((dft_cg (fun j hj => h1.2 j hj) p).trans (dft_idft K.cw K.cuw K.cp (gt xs) hp'))

/-- A row cut to n words below q. -/
def cutL (xs : List Nat) (n q : Nat) : List Nat := (List.range n).map fun i => if i < xs.length then xs.getD i 0 % q else 0
theorem cutL_fit (xs : List Nat) {n q : Nat} (hq : 0 < q) : Fit n q (cutL xs n q) := ⟨by unfold cutL; simp, fun x hx => by
  unfold cutL at hx
  obtain ⟨i, -, rfl⟩ := List.mem_map.1 hx
  split
  · exact Nat.mod_lt _ hq
  · exact hq⟩
theorem cutL_get {xs : List Nat} {n q k : Nat} (hk : k < n) : (cutL xs n q)[k]? = some (if k < xs.length then xs.getD k 0 % q else 0) := by
  unfold cutL; rw [List.getElem?_map, List.getElem?_range hk]; rfl
end Go.Proofs.YtfgfmempmkjlnaaDoor

/- Walking rules: remainders of any kind of number. No condition. -/
namespace Go.Den
set_option linter.unusedVariables false
set_option maxRecDepth 8000
open Go Go.RowKit

section rules
variable {P : Program} {n : Nat} {Q : Post} {l : Fr} {h : Hp} {ops : List Oper} {Ch : Hp → Prop} {E : Nat → Bool} {i d : Nat} {x y : Operand}
theorem s_remU8 {a b : Nat} {t yt : TypeId} (hx : IsK (ev l x) .u8 a) (hy : IsK (ev l y) .u8 b) (hb : Nat.blt d n = true) (hn : 0 < b)
    (q : S P n ops Ch E Q (i + 1) ((d, .int .u8 ((a % b : Nat) : Int)) :: l) h) : O P n ops Ch E Q i d (.binOp .rem t x y yt) l h :=
  s_bin hx.h hy.h hb (fun w' => by
    show (Op.intDiv .rem .u8 (a : Int) (b : Int)).run P w' = _
    unfold Op.intDiv
    rw [if_neg (by omega)]
    show Result.ok (Value.int .u8 ((a : Int).tmod b)) w' = _
    rw [← Int.ofNat_tmod]) q
end rules
end Go.Den

/- The reference's test and check (that they answer at all), rows cut; the laws of package ntt. Condition of the laws: the table of math/bits reads as it is laid. -/
namespace Go.Proofs.YtfgfmempmkjlnaaDoor
set_option linter.unusedVariables false
set_option maxRecDepth 8000
open Go Go.Den Go.RowKit Go.Mth

theorem Tryd_ent75 : Ent Tryd.prog 75 := ent_of Tryd.func75 (by kernel_rfl) rfl
theorem strongW_spec (n a : Nat) (h : Hp) (hn : 2 ≤ n) (hn2 : n < 2305843009213693952) (ha : a < 18446744073709551616) :
    CallsH Tryd.prog 75 [U n, U a] h fun v' h' => (∃ b, v' = .bool b) ∧ h = h' := by
  (apply enter Tryd.func75 rfl Tryd.ntmps75 rfl)
  refine runJ ?_
  (first | (apply w_seqB; exact rfl; apply w_block; exact rfl) | skip)
  apply (w_loop (σ := Nat × Nat) rfl (fun j => [(0, U n), (1, U a), (5, U j.1), (6, N j.2)])
    (fun j h' => h = h' ∧ 1 ≤ j.1 ∧ j.1 + j.2 < n) (fun j => j.1) (n - 1, 0))
  · exact (Sub.cons rfl (Sub.cons rfl (Sub.cons rfl (Sub.cons rfl (Sub.nil _)))))
  · exact ⟨rfl, by dsimp only; omega, by dsimp only; omega⟩
  rintro ⟨d, s⟩ h' ⟨rfl, j1, j2⟩
  dsimp only at j1 j2 ⊢
  refine runJ ?_
  (apply w_condD; exact rfl; exact rfl) <;> intro hd
  · refine runJ ?_
    apply again_normal (d / 2, s + 1)
    · exact (Sub.cons rfl (Sub.cons rfl (Sub.cons rfl (Sub.cons rfl (Sub.nil _)))))
    · exact ⟨rfl, by dsimp only; omega, by dsimp only; omega⟩
    · dsimp only; omega
  refine runJ ?_
  apply (s_call Tryd_ent88 rfl rfl rfl)
  refine (refPow_spec a d n h ha (by omega) (by omega)).mono ?_
  rintro _ _ ⟨rfl, rfl⟩
  refine ⟨(by first | exact trivial | exact Ext.refl _ | assumption | exact Ext.trans (by assumption) (by assumption)), ?_⟩
  have hx : powm a d n < n := by unfold powm; rw [if_neg (by omega)]; exact Nat.mod_lt _ (by omega)
  generalize powm a d n = x at *
  refine runJ ?_
  (apply s_splitG; exact rfl; exact rfl; exact rfl; exact rfl) <;> intro g1
  · refine runJ ?_
    exact fin1 rfl rfl ⟨⟨_, rfl⟩, rfl⟩
  refine runJ ?_
  (apply w_condD; exact rfl; exact rfl) <;> intro g2
  · refine runJ ?_
    exact fin1 rfl rfl ⟨⟨_, rfl⟩, rfl⟩
  refine runJ ?_
  (first | (apply w_seqB; exact rfl; apply w_block; exact rfl) | skip)
  apply (w_loop (σ := Nat × Nat) rfl (fun j => [(0, U n), (6, N s), (7, U j.1), (8, N j.2)])
    (fun j h' => h = h' ∧ j.1 < n) (fun j => s - j.2) (x, 1))
  · exact (Sub.cons rfl (Sub.cons rfl (Sub.cons rfl (Sub.cons rfl (Sub.nil _)))))
  · exact ⟨rfl, hx⟩
  rintro ⟨y, i⟩ h' ⟨rfl, k1⟩
  dsimp only at k1 ⊢
  refine runJ ?_
  (apply w_condD; exact rfl; exact rfl) <;> intro hi
  · refine runJ ?_
    apply (s_call Tryd_ent19 rfl rfl rfl)
    refine (refMul_spec y y n h (by omega) (by omega) (by omega)).mono ?_
    rintro _ _ ⟨rfl, rfl⟩
    refine ⟨(by first | exact trivial | exact Ext.refl _ | assumption | exact Ext.trans (by assumption) (by assumption)), ?_⟩
    have hm : mulm y y n < n := mulm_lt (by omega)
    refine runJ ?_
    (apply w_condD; exact rfl; exact rfl) <;> intro hy
    · refine runJ ?_
      exact fin1 rfl rfl ⟨⟨_, rfl⟩, rfl⟩
    · refine runJ ?_
      apply again_normal (mulm y y n, i + 1)
      · exact (Sub.cons rfl (Sub.cons rfl (Sub.cons rfl (Sub.cons rfl (Sub.nil _)))))
      · exact ⟨rfl, hm⟩
      · dsimp only; omega
  · refine runJ ?_
    exact fin1 rfl rfl ⟨⟨_, rfl⟩, rfl⟩

theorem Tryd_ent50 : Ent Tryd.prog 50 := ent_of Tryd.func50 (by kernel_rfl) rfl
theorem refIsW_spec (n : Nat) (h : Hp) (hn2 : n < 2305843009213693952) :
    CallsH Tryd.prog 50 [U n] h fun v' h' => (∃ b, v' = .bool b) ∧ Ext h h' := by
  (apply enter Tryd.func50 rfl Tryd.ntmps50 rfl)
  refine runJ ?_
  (apply w_condD; exact rfl; exact rfl) <;> intro g1
  · refine runJ ?_
    exact fin1 rfl rfl ⟨⟨_, rfl⟩, Ext.refl _⟩
  refine runJ ?_
  (apply w_condD; exact rfl; exact rfl) <;> intro g2
  · refine runJ ?_
    (first | (apply w_seqB; exact rfl; apply w_block; exact rfl) | skip)
    apply (w_loop (σ := Nat) rfl (fun d => [(0, U n), (3, U d)])
      (fun d h' => h = h' ∧ 2 ≤ d ∧ d ≤ 65537) (fun d => 65537 - d) 2)
    · exact (Sub.cons rfl (Sub.cons rfl (Sub.nil _)))
    · exact ⟨rfl, by omega, by omega⟩
    rintro d h' ⟨rfl, d1, d2⟩
    have hdd : d * d ≤ 65537 * 65537 := Nat.mul_le_mul d2 d2
    have hdl : d ≤ d * d := Nat.le_mul_self d
    refine runJ ?_
    (apply w_condD; exact rfl; exact rfl) <;> intro hd
    · refine runJ ?_
      (apply w_condD; exact rfl; exact rfl) <;> intro hm
      · refine runJ ?_
        exact fin1 rfl rfl ⟨⟨_, rfl⟩, Ext.refl _⟩
      · refine runJ ?_
        apply again_normal (d + 1)
        · exact (Sub.cons rfl (Sub.cons rfl (Sub.nil _)))
        · exact ⟨rfl, by omega, by omega⟩
        · omega
    · refine runJ ?_
      exact fin1 rfl rfl ⟨⟨_, rfl⟩, Ext.refl _⟩
  refine runJ ?_
  (apply (s_litF (f := U) [2, 3, 5, 7, 11, 13, 17, 19, 23, 29, 31, 37] (fun _ => rfl)); exact rfl; exact rfl; exact rfl; exact rfl; exact rfl; exact rfl; exact rfl; exact rfl; omega)
  intro w h1 o1 e1 b1
  refine ⟨(by first | exact trivial | exact Ext.refl _ | assumption | exact Ext.trans (by assumption) (by assumption)), ?_⟩
  have s1 := o1.sl
  refine runJ ?_
  (first | (apply w_seqB; exact rfl; apply w_block; exact rfl) | skip)
  apply (w_loop (σ := Nat) rfl (fun j => [(0, U n), (21, w), (22, N 12), (23, N j)])
    (fun j h' => h1 = h' ∧ j ≤ 12) (fun j => 12 - j) 0)
  · exact (Sub.cons rfl (Sub.cons rfl (Sub.cons rfl (Sub.cons rfl (Sub.nil _)))))
  · exact ⟨rfl, by omega⟩
  rintro j h' ⟨rfl, j1⟩
  refine runJ ?_
  (apply w_condD; exact rfl; exact rfl) <;> intro hj
  · obtain ⟨a, ha⟩ := get_lt (l := [2, 3, 5, 7, 11, 13, 17, 19, 23, 29, 31, 37]) (j := j) hj
    have hal : 0 < a ∧ a < 100 := by
      have := List.mem_of_getElem? ha
      have hall : ∀ x ∈ [2, 3, 5, 7, 11, 13, 17, 19, 23, 29, 31, 37], 0 < x ∧ x < 100 := by decide
      exact hall a this
    refine runJ ?_
    (apply s_splitG; exact rfl; exact rfl; exact rfl; exact rfl) <;> intro g3
    · refine runJ ?_
      exact fin1 rfl rfl ⟨⟨_, rfl⟩, e1⟩
    refine runJ ?_
    apply (s_call Tryd_ent75 rfl rfl rfl)
    refine (strongW_spec n a h1 (by omega) hn2 (by omega)).mono ?_
    rintro _ _ ⟨⟨b, rfl⟩, rfl⟩
    refine ⟨(by first | exact trivial | exact trivial), ?_⟩
    refine runJ ?_
    (apply w_cond; exact rfl; exact rfl) <;> intro hb
    · refine runJ ?_
      exact fin1 rfl rfl ⟨⟨_, rfl⟩, e1⟩
    · refine runJ ?_
      apply again_normal (j + 1)
      · exact (Sub.cons rfl (Sub.cons rfl (Sub.cons rfl (Sub.cons rfl (Sub.nil _)))))
      · exact ⟨rfl, hj⟩
      · omega
  · refine runJ ?_
    exact fin1 rfl rfl ⟨⟨_, rfl⟩, e1⟩

theorem Tryd_ent49 : Ent Tryd.prog 49 := ent_of Tryd.func49 (by kernel_rfl) rfl
theorem refStepW_spec (n : Nat) (h : Hp) (hn2 : n < 18446744073709551616) :
    CallsH Tryd.prog 49 [U n] h fun v' h' => (∃ b, v' = .bool b) ∧ h = h' := by
  (apply enter Tryd.func49 rfl Tryd.ntmps49 rfl)
  refine runJ ?_
  (first | (apply w_seqB; exact rfl; apply w_block; exact rfl) | skip)
  apply (w_loop (σ := Nat) rfl (fun k => [(0, U n), (3, U k)])
    (fun k h' => h = h' ∧ 1 ≤ k ∧ k ≤ 16384) (fun k => 16385 - k) 2)
  · exact (Sub.cons rfl (Sub.cons rfl (Sub.nil _)))
  · exact ⟨rfl, by omega, by omega⟩
  rintro k h' ⟨rfl, k1, k2⟩
  refine runJ ?_
  (apply w_condD; exact rfl; exact rfl) <;> intro hk
  · refine runJ ?_
    (apply w_condD; exact rfl; exact rfl) <;> intro hd
    · refine runJ ?_
      exact fin1 rfl rfl ⟨⟨_, rfl⟩, rfl⟩
    · refine runJ ?_
      apply again_normal (2 * k)
      · exact (Sub.cons rfl (Sub.cons rfl (Sub.nil _)))
      · exact ⟨rfl, by omega, by omega⟩
      · omega
  · refine runJ ?_
    exact fin1 rfl rfl ⟨⟨_, rfl⟩, rfl⟩

theorem Tryd_ent13 : Ent Tryd.prog 13 := ent_of Tryd.func13 (by kernel_rfl) rfl
theorem refCheckW_spec (n q : Nat) (h : Hp) (hn : 1 ≤ n) (hn2 : n ≤ 4096) (hq : q < 18446744073709551616) :
    CallsH Tryd.prog 13 [N n, U q] h fun v' h' => (∃ e : Nat, v' = N e) ∧ Ext h h' := by
  (apply enter Tryd.func13 rfl Tryd.ntmps13 rfl)
  refine runJ ?_
  (apply s_splitG; exact rfl; exact rfl; exact rfl; exact rfl) <;> intro g1
  · refine runJ ?_
    exact fin1 rfl rfl ⟨⟨1, rfl⟩, Ext.refl _⟩
  refine runJ ?_
  (apply s_splitG; exact rfl; exact rfl; exact rfl; exact rfl) <;> intro g2
  · refine runJ ?_
    exact fin1 rfl rfl ⟨⟨1, rfl⟩, Ext.refl _⟩
  refine runJ ?_
  apply (s_call Tryd_ent49 rfl rfl rfl)
  refine (refStepW_spec n h (by omega)).mono ?_
  rintro _ _ ⟨⟨b, rfl⟩, rfl⟩
  refine ⟨(by first | exact trivial | exact trivial), ?_⟩
  refine runJ ?_
  (apply s_splitGB; exact rfl; exact rfl; exact rfl; exact rfl) <;> intro g3
  · refine runJ ?_
    exact fin1 rfl rfl ⟨⟨1, rfl⟩, Ext.refl _⟩
  refine runJ ?_
  (apply s_splitG; exact rfl; exact rfl; exact rfl; exact rfl) <;> intro g4
  · refine runJ ?_
    exact fin1 rfl rfl ⟨⟨1, rfl⟩, Ext.refl _⟩
  refine runJ ?_
  apply (s_call Tryd_ent50 rfl rfl rfl)
  refine (refIsW_spec q h (by omega)).mono ?_
  rintro _ h1 ⟨⟨b2, rfl⟩, e1⟩
  refine ⟨(by first | exact trivial | exact trivial), ?_⟩
  refine runJ ?_
  (apply s_splitGB; exact rfl; exact rfl; exact rfl; exact rfl) <;> intro g5
  · refine runJ ?_
    exact fin1 rfl rfl ⟨⟨1, rfl⟩, e1⟩
  refine runJ ?_
  (apply w_condD; exact rfl; exact rfl) <;> intro g6
  · refine runJ ?_
    exact fin1 rfl rfl ⟨⟨1, rfl⟩, e1⟩
  · refine runJ ?_
    exact fin1 rfl rfl ⟨⟨0, rfl⟩, e1⟩

theorem Tryd_ent14 : Ent Tryd.prog 14 := ent_of Tryd.func14 (by kernel_rfl) rfl
theorem cut_spec (va : Value) (xs : List Nat) (n q : Nat) (h : Hp) (s : SlF h U va xs) (hal : ∀ x ∈ xs, x < 18446744073709551616) (hl : xs.length < 9223372036854775808) (hn : n ≤ 4096) (hq : 0 < q) (hq2 : q < 18446744073709551616) :
    CallsH Tryd.prog 14 [va, N n, U q] h fun v' h' => Ext h h' ∧ OwnF h' h.size 24 U v' (cutL xs n q) := by
  (apply enter Tryd.func14 rfl Tryd.ntmps14 rfl)
  refine runJ ?_
  (apply (s_make (f := U) (bytes := 8) (0)); (first | exact isK_c | exact isK_t rfl); (first | exact isK_c | exact isK_t rfl); exact rfl; exact rfl; exact rfl; exact rfl; exact rfl; exact rfl; omega; omega; omega)
  intro w1 h1 o1 e1 b1
  refine ⟨(by first | exact trivial | exact Ext.refl _ | assumption | exact Ext.trans (by assumption) (by assumption)), ?_⟩
  have s1 := o1.sl
  refine runJ ?_
  simp only [List.length_replicate]
  (first | (apply w_seqB; exact rfl; apply w_block; exact rfl) | skip)
  apply (w_loop (σ := Nat × List Nat) rfl (fun j => [(0, va), (2, U q), (7, w1), (12, N n), (13, N j.1)])
    (fun j h' => Ext h h' ∧ j.1 ≤ n ∧ OwnF h' h.size 24 U w1 j.2 ∧ j.2.length = n ∧ ∀ (k y : Nat), j.2[k]? = some y → y = if k < j.1 then (if k < xs.length then xs.getD k 0 % q else 0) else 0) (fun j => n - j.1) (0, List.replicate n 0))
  · exact (Sub.consE rfl (by first | rfl | (refine congrArg I ?_; (try dsimp only); omega) | (refine congrArg Value.bool ?_; simp [*])) (Sub.consE rfl (by first | rfl | (refine congrArg I ?_; (try dsimp only); omega) | (refine congrArg Value.bool ?_; simp [*])) (Sub.consE rfl (by first | rfl | (refine congrArg I ?_; (try dsimp only); omega) | (refine congrArg Value.bool ?_; simp [*])) (Sub.consE rfl (by first | rfl | (refine congrArg I ?_; (try dsimp only); omega) | (refine congrArg Value.bool ?_; simp [*])) (Sub.consE rfl (by first | rfl | (refine congrArg I ?_; (try dsimp only); omega) | (refine congrArg Value.bool ?_; simp [*])) (Sub.nil _))))))
  · exact ⟨e1, Nat.zero_le _, o1, by simp, fun k y hy => by rw [if_neg (Nat.not_lt_zero _)]; have := List.mem_of_getElem? hy; simp at this; exact this.2⟩
  rintro ⟨j, ys⟩ h2 ⟨e2, j1, o2, j2, j3⟩
  dsimp only at e2 j1 o2 j2 j3 ⊢
  have s2 := s.ext e2
  clear s1 o1 b1
  refine runJ ?_
  (apply w_condD; exact rfl; exact rfl) <;> intro hj
  · have hjy : j < ys.length := by omega
    refine runJ ?_
    (apply w_condD; exact rfl; exact rfl) <;> intro hx
    · obtain ⟨x, hxj⟩ := get_lt hx
      have hx64 := hal x (List.mem_of_getElem? hxj)
      obtain ⟨r, hr⟩ : ∃ r, x % q = r := ⟨_, rfl⟩
      refine runJ ?_
      rw [hr]
      (apply (s_storeF (r)); exact rfl; exact rfl; exact rfl; exact rfl; exact rfl; exact o2; exact rfl; (first | assumption | omega))
      intro h3 o3 k3
      refine ⟨(by first | exact trivial | exact Ext.refl _ | assumption | exact Ext.trans (by assumption) (by assumption)), ?_⟩
      refine runJ ?_
      apply again_normal (j + 1, ys.set j r)
      · exact (Sub.cons rfl (Sub.cons rfl (Sub.cons rfl (Sub.cons rfl (Sub.cons rfl (Sub.nil _))))))
      · refine ⟨o2.old k3 e2 (Nat.le_refl _), hj, o3, by simp [j2], fun k y hy => ?_⟩
        dsimp only at hy ⊢
        rcases set_get hjy hy with ⟨rfl, rfl⟩ | ⟨hk, hy⟩
        · rw [if_pos (by omega), if_pos hx, getD_of hxj, hr]
        · rw [j3 k y hy]
          by_cases hkj : k < j
          · rw [if_pos hkj, if_pos (show k < j + 1 by omega)]
          · rw [if_neg hkj, if_neg (show ¬ k < j + 1 by omega)]
      · dsimp only; omega
    · refine runJ ?_
      apply again_normal (j + 1, ys)
      · exact (Sub.cons rfl (Sub.cons rfl (Sub.cons rfl (Sub.cons rfl (Sub.cons rfl (Sub.nil _))))))
      · refine ⟨e2, hj, o2, j2, fun k y hy => ?_⟩
        dsimp only at hy ⊢
        rw [j3 k y hy]
        by_cases hkj : k < j
        · rw [if_pos hkj, if_pos (show k < j + 1 by omega)]
        · rw [if_neg hkj]
          by_cases hk2 : k < j + 1
          · rw [if_pos hk2, if_neg (by omega)]
          · rw [if_neg hk2]
      · dsimp only; omega
  · have hjn : j = n := by omega
    have hys : ys = cutL xs n q := by
      refine list_eq (by rw [(cutL_fit xs hq).1, j2]) fun k a b ha hb => ?_
      have hk := (List.getElem?_eq_some_iff.1 ha).1
      rw [j3 k a ha, if_pos (by omega)]
      rw [cutL_get (by omega)] at hb
      exact Option.some.inj hb
    subst hys
    refine runJ ?_
    exact fin1 rfl rfl ⟨e2, o2⟩
end Go.Proofs.YtfgfmempmkjlnaaDoor

/- The law NttBack. Condition: the table of math/bits reads as it is laid. -/
namespace Go.Proofs.YtfgfmempmkjlnaaDoor
set_option linter.unusedVariables false
set_option maxRecDepth 8000
open Go Go.Den Go.RowKit Go.Mth Go.Dig


theorem Tryd_ent3 : Ent Tryd.prog 3 := ent_of Tryd.func3 (by kernel_rfl) rfl
set_option maxHeartbeats 2000000 in
theorem nttBack_law (k : Nat) (va : Value) (xs : List Nat) (h : Hp) (T : TB h) (s : SlF h U va xs) (hal : Al 18446744073709551616 xs) (hl : xs.length < 9223372036854775808) :
    CallsH Tryd.prog 3 [.int .u8 (k : Int), va] h fun v' h' => v' = .bool true ∧ Ext h h' := by
  obtain ⟨r, hr⟩ : ∃ r, k % 9 = r := ⟨_, rfl⟩
  have hr9 : r < 9 := by omega
  obtain ⟨q, X, hq3, hq, hq1, hB, hqm, hX, hX2, hx⟩ := prime3 hr9
  have hm3 : r % 3 = k % 3 := by omega
  have hp2 : 2 ^ r ≤ 2 ^ 8 := Nat.pow_le_pow_right (by decide) (by omega)
  have hp0 : 0 < 2 ^ r := Nat.two_pow_pos _
  have NW := fun h T => nttNew_spec (r + 1) q X h T (by omega) (by omega) hq hqm hq1 hB hX hX2 hx
  rw [hm3] at hq3
  have e2 : 2 ^ (r + 1) = 2 * 2 ^ r := by rw [Nat.pow_succ, Nat.mul_comm]
  have hNL : ∀ L, L = r + 1 → 2 ^ L = 2 * 2 ^ r := fun L hL => by rw [hL, e2]
  rw [e2] at NW
  have hq3 : [12289, 40961, 1152921504606830593][k % 3]? = some q := hq3
  (apply enter Tryd.func3 rfl Tryd.ntmps3 rfl)
  refine runJ ?_
  apply (s_call Tryd_ent11 rfl rfl rfl)
  refine (fixed04_spec h T).mono ?_
  rintro _ h1 ⟨rfl, e1⟩
  refine ⟨(by first | exact trivial | exact trivial), ?_⟩
  have s1 := s.ext e1
  refine runJ ?_
  apply s_remU8 (isK_t rfl) isK_c rfl (by decide)
  rw [hr]
  refine runJ ?_
  (apply (s_litF (f := U) [12289, 40961, 1152921504606830593] (fun _ => rfl)); exact rfl; exact rfl; exact rfl; exact rfl; exact rfl; exact rfl; exact rfl; exact rfl; omega)
  intro w2 h2 o2 e12 b2
  refine ⟨(by first | exact trivial | exact Ext.refl _ | assumption | exact Ext.trans (by assumption) (by assumption)), ?_⟩
  have s2 := o2.sl
  refine runJ ?_
  apply s_remU8 (isK_t rfl) isK_c rfl (by decide)
  refine runJ ?_
  have e02 := e1.trans e12
  apply (s_call Tryd_ent12 rfl rfl rfl)
  refine (NW h2 (T.ext e02)).mono ?_
  rintro _ h3 ⟨e3, g, t, rfl, A, K, hL, hqt, -⟩
  refine ⟨(by first | exact trivial | exact trivial), ?_⟩
  have e03 := e02.trans e3
  have s3 := s.ext e03
  have hN := hNL _ hL
  subst hqt
  refine runJ ?_
  (apply w_condD; exact rfl; exact rfl) <;> intro hlen
  · refine runJ ?_
    apply (s_call Tryd_ent13 rfl rfl rfl)
    refine (refCheckW_spec (2 * 2 ^ r) t.q h3 (by omega) (by omega) (by omega)).mono ?_
    rintro _ h4 ⟨⟨e, rfl⟩, e4⟩
    refine ⟨(by first | exact trivial | exact trivial), ?_⟩
    refine runJ ?_
    (apply s_splitG; exact rfl; exact rfl; exact rfl; exact rfl) <;> intro he
    · refine runJ ?_
      exact fin1 rfl rfl ⟨rfl, e03.trans e4⟩
    · refine runJ ?_
      exact fin1 rfl rfl ⟨(dec_t hlen).symm, e03.trans e4⟩
  · refine runJ ?_
    have hq0 : 0 < t.q := by omega
    have CU := cut_spec va xs (2 * 2 ^ r) t.q h3 s3 hal hl (by omega) hq0 (by omega)
    have hF : Fit (2 ^ t.L) t.q (cutL xs (2 * 2 ^ r) t.q) := by rw [hN]; exact cutL_fit xs hq0
    generalize hcu : cutL xs (2 * 2 ^ r) t.q = x at *
    have hxl : x.length < 9223372036854775808 := by have h1 := hF.1; rw [hN] at h1; omega
    have Vv := fun h v ys A s f => values_spec g v t ys h K A s f
    have Bb := fun h v ys A s f => back_spec g v t ys h K A s f
    apply (s_call Tryd_ent14 rfl rfl rfl)
    refine (CU).mono ?_
    rintro w4 h4 ⟨e4, o4⟩
    refine ⟨(by first | exact trivial | exact trivial), ?_⟩
    have A4 := A.ext e4
    have s4 := o4.sl
    refine runJ ?_
    apply (s_call Tryd_ent15 rfl rfl rfl)
    refine (Vv h4 w4 x A4 s4 hF).mono ?_
    rintro _ h5 ⟨e5, w5, vs, rfl, o5, V5⟩
    refine ⟨(by first | exact trivial | exact trivial), ?_⟩
    have A5 := A4.ext e5
    have s45 := s4.ext e5
    refine runJ ?_
    apply (s_call Tryd_ent16 rfl rfl rfl)
    refine (Bb h5 w5 vs A5 o5.sl V5.1).mono ?_
    rintro _ h6 ⟨e6, w6, bs, rfl, o6, B6⟩
    refine ⟨(by first | exact trivial | exact trivial), ?_⟩
    have A6 := A5.ext e6
    have s46 := s45.ext e6
    obtain rfl : bs = x := val_bck K hF V5 B6
    refine runJ ?_
    apply (s_call Tryd_ent16 rfl rfl rfl)
    refine (Bb h6 w4 bs A6 s46 hF).mono ?_
    rintro _ h7 ⟨e7, w7, us, rfl, o7, B7⟩
    refine ⟨(by first | exact trivial | exact trivial), ?_⟩
    have A7 := A6.ext e7
    have s47 := s46.ext e7
    refine runJ ?_
    apply (s_call Tryd_ent15 rfl rfl rfl)
    refine (Vv h7 w7 us A7 o7.sl B7.1).mono ?_
    rintro _ h8 ⟨e8, w8, ws, rfl, o8, V8⟩
    refine ⟨(by first | exact trivial | exact trivial), ?_⟩
    have s48 := s47.ext e8
    obtain rfl : ws = bs := bck_val K hF B7 V8
    have e48 := ((e5.trans e6).trans e7).trans e8
    refine runJ ?_
    apply (s_call Tryd_ent17 rfl rfl rfl)
    refine (sameU9_spec w6 w4 ws ws h8 ((o6.sl.ext e7).ext e8) s48 hxl hxl).mono ?_
    rintro _ _ ⟨rfl, rfl⟩
    refine ⟨(by first | exact trivial | exact Ext.refl _ | assumption | exact Ext.trans (by assumption) (by assumption)), ?_⟩
    rw [decide_eq_true rfl]
    refine runJ ?_
    apply (s_call Tryd_ent17 rfl rfl rfl)
    refine (sameU9_spec w8 w4 ws ws h8 o8.sl s48 hxl hxl).mono ?_
    rintro _ _ ⟨rfl, rfl⟩
    refine ⟨(by first | exact trivial | exact Ext.refl _ | assumption | exact Ext.trans (by assumption) (by assumption)), ?_⟩
    rw [decide_eq_true rfl]
    refine runJ ?_
    exact fin1 rfl rfl ⟨rfl, (e03.trans e4).trans e48⟩
end Go.Proofs.YtfgfmempmkjlnaaDoor

/- The laws NttValues and NttShifts. Condition: the table of math/bits reads as it is laid. -/
namespace Go.Proofs.YtfgfmempmkjlnaaDoor
set_option linter.unusedVariables false
set_option maxRecDepth 8000
open Go Go.Den Go.RowKit Go.Mth Go.Dig

theorem sm_shift (m : Nat) (f : Nat → Int) : sm (m + 1) f = f 0 + sm m (fun j => f (j + 1)) := by
  rw [Nat.add_comm m 1, sm_app 1 m]
  congr 1
  · show (0 : Int) + f 0 = f 0
    omega
  · exact sm_congr m fun j _ => by rw [Nat.add_comm]

/-- X times a polynomial. -/
def shf (q : Nat) (xs : List Nat) : List Nat := subm 0 (xs.getD (xs.length - 1) 0) q :: xs.take (xs.length - 1)
theorem prd_shift {t : Tbl} (K : TblOk t) {xs up rs : List Nat} (hx : Fit (2 ^ t.L) t.q xs) (hup : ∀ j, j < 2 ^ t.L → gt up j = if j = 1 then 1 else 0) (h : Prd t xs up rs) : rs = shf t.q xs := by
  have hn := K.size
  have hq : 0 < t.q := by have := K.q1; omega
  obtain ⟨m, hm⟩ : ∃ m, 2 ^ t.L = m + 1 := ⟨2 ^ t.L - 1, by omega⟩
  have hxl : xs.length = m + 1 := by rw [hx.1, hm]
  have hsl : (shf t.q xs).length = m + 1 := by unfold shf; simp; omega
  have hg : ∀ j, j < m → (shf t.q xs).getD (j + 1) 0 = xs.getD j 0 := fun j hj => by
    unfold shf
    rw [List.getD_cons_succ]
    refine getD_of ?_
    rw [List.getElem?_take, if_pos (by omega)]
    exact getD_lt (by omega)
  have hg0 : (shf t.q xs).getD 0 0 = subm 0 (xs.getD m 0) t.q := by
    unfold shf
    rw [List.getD_cons_zero, hxl]; rfl
  refine prd_eq K h (fit_of (by rw [hsl, hm]) fun p hp => ?_) fun k hk => ?_
  · cases p with
    | zero => rw [hg0]; exact subm_lt hq
    | succ p => rw [hg p (by omega)]; exact fit_get hx (by omega)
  · have hw := pow_odd K.cw k
    unfold dft
    rw [hm] at hup hw ⊢
    have e1 : sm (m + 1) (fun j => gt up j * (t.w : Int) ^ (j * (2 * k + 1))) = (t.w : Int) ^ (2 * k + 1) := by
      rw [sm_single (i := 1) (m + 1) (by omega) fun j hj hne => by rw [hup j hj, if_neg hne, Int.zero_mul], hup 1 (by omega), if_pos rfl, Int.one_mul, Nat.one_mul]
    rw [e1, sm_shift]
    have e2 : sm (m + 1) (fun j => gt xs j * (t.w : Int) ^ (j * (2 * k + 1))) * (t.w : Int) ^ (2 * k + 1) = sm m (fun j => gt xs j * (t.w : Int) ^ ((j + 1) * (2 * k + 1))) + gt xs m * (t.w : Int) ^ ((m + 1) * (2 * k + 1)) := by
      rw [← sm_mulR]
      show sm m _ + _ = _
      congr 1
      · refine sm_congr m fun j _ => ?_
        rw [Int.mul_assoc, ← Int.pow_add]
        congr 2; grind
      · dsimp only
        rw [Int.mul_assoc, ← Int.pow_add]
        congr 2; grind
    rw [e2, sm_congr m (g := fun j => gt xs j * (t.w : Int) ^ ((j + 1) * (2 * k + 1))) fun j hj => by unfold gt; rw [hg j hj], Int.add_comm]
    refine (Cg.refl _ _).add ?_
    have h0 : Cg t.q (gt (shf t.q xs) 0) (-(gt xs m)) := by
      unfold gt; rw [hg0]
      exact (cg_subm hq _ _).trans (Cg.of_eq (by simp))
    refine (h0.mul (Cg.refl _ _)).trans (Cg.symm ?_)
    refine ((Cg.refl _ (gt xs m)).mul hw).trans (Cg.of_eq ?_)
    rw [Nat.zero_mul, Int.pow_zero]; omega

theorem val_prd {t : Tbl} (K : TblOk t) {xs ys ps us vs ws : List Nat} (hp : Prd t xs ys ps) (hu : Val t xs us) (hv : Val t ys vs) (hw : Val t ps ws) {j : Nat} (hj : j < 2 ^ t.L) : ws.getD j 0 = mulm (us.getD j 0) (vs.getD j 0) t.q := by
  have hq : 0 < t.q := by have := K.q1; omega
  have h1 : Cg t.q (gt ws j) (((mulm (us.getD j 0) (vs.getD j 0) t.q : Nat)) : Int) :=
    (hw.2 j hj).trans ((hp.2 j hj).trans (((hu.2 j hj).symm.mul (hv.2 j hj).symm).trans (cg_mulm hq _ _).symm))
  exact h1.eqN (fit_get hw.1 hj) (mulm_lt hq)

theorem Tryd_ent4 : Ent Tryd.prog 4 := ent_of Tryd.func4 (by kernel_rfl) rfl
set_option maxHeartbeats 4000000 in
theorem nttValues_law (k : Nat) (va vb : Value) (xs ys : List Nat) (h : Hp) (T : TB h) (s : SlF h U va xs) (sb : SlF h U vb ys) (hal : Al 18446744073709551616 xs) (hbl : Al 18446744073709551616 ys) (hl : xs.length < 9223372036854775808) (hl2 : ys.length < 9223372036854775808) :
    CallsH Tryd.prog 4 [.int .u8 (k : Int), va, vb] h fun v' h' => v' = .bool true ∧ Ext h h' := by
  obtain ⟨r, hr⟩ : ∃ r, k % 9 = r := ⟨_, rfl⟩
  have hr9 : r < 9 := by omega
  obtain ⟨q, X, hq3, hq, hq1, hB, hqm, hX, hX2, hx⟩ := prime3 hr9
  have hm3 : r % 3 = k % 3 := by omega
  have hp2 : 2 ^ r ≤ 2 ^ 8 := Nat.pow_le_pow_right (by decide) (by omega)
  have hp0 : 0 < 2 ^ r := Nat.two_pow_pos _
  have NW := fun h T => nttNew_spec (r + 1) q X h T (by omega) (by omega) hq hqm hq1 hB hX hX2 hx
  rw [hm3] at hq3
  have e2 : 2 ^ (r + 1) = 2 * 2 ^ r := by rw [Nat.pow_succ, Nat.mul_comm]
  have hNL : ∀ L, L = r + 1 → 2 ^ L = 2 * 2 ^ r := fun L hL => by rw [hL, e2]
  rw [e2] at NW
  have hq3 : [12289, 40961, 1152921504606830593][k % 3]? = some q := hq3
  (apply enter Tryd.func4 rfl Tryd.ntmps4 rfl)
  refine runJ ?_
  apply (s_call Tryd_ent11 rfl rfl rfl)
  refine (fixed04_spec h T).mono ?_
  rintro _ h1 ⟨rfl, e1⟩
  refine ⟨(by first | exact trivial | exact trivial), ?_⟩
  refine runJ ?_
  apply s_remU8 (isK_t rfl) isK_c rfl (by decide)
  rw [hr]
  refine runJ ?_
  (apply (s_litF (f := U) [12289, 40961, 1152921504606830593] (fun _ => rfl)); exact rfl; exact rfl; exact rfl; exact rfl; exact rfl; exact rfl; exact rfl; exact rfl; omega)
  intro w2 h2 o2 e12 b2
  refine ⟨(by first | exact trivial | exact Ext.refl _ | assumption | exact Ext.trans (by assumption) (by assumption)), ?_⟩
  have s2 := o2.sl
  refine runJ ?_
  apply s_remU8 (isK_t rfl) isK_c rfl (by decide)
  refine runJ ?_
  have e02 := e1.trans e12
  apply (s_call Tryd_ent12 rfl rfl rfl)
  refine (NW h2 (T.ext e02)).mono ?_
  rintro _ h3 ⟨e3, g, t, rfl, A, K, hL, hqt, -⟩
  refine ⟨(by first | exact trivial | exact trivial), ?_⟩
  have e03 := e02.trans e3
  have s3 := s.ext e03
  have hN := hNL _ hL
  subst hqt
  have sb3 := sb.ext e03
  refine runJ ?_
  (apply s_splitG; exact rfl; exact rfl; exact rfl; exact rfl) <;> intro hlen
  · refine runJ ?_
    apply (s_call Tryd_ent13 rfl rfl rfl)
    refine (refCheckW_spec (2 * 2 ^ r) t.q h3 (by omega) (by omega) (by omega)).mono ?_
    rintro _ h4 ⟨⟨e, rfl⟩, e4⟩
    refine ⟨(by first | exact trivial | exact trivial), ?_⟩
    refine runJ ?_
    (apply s_splitG; exact rfl; exact rfl; exact rfl; exact rfl) <;> intro he
    · refine runJ ?_
      exact fin1 rfl rfl ⟨rfl, e03.trans e4⟩
    · refine runJ ?_
      (apply s_splitG; exact rfl; exact rfl; exact rfl; exact rfl) <;> intro h5
      · refine runJ ?_
        exact fin1 rfl rfl ⟨rfl, e03.trans e4⟩
      · exact absurd hlen h5
  refine runJ ?_
  (apply w_condD; exact rfl; exact rfl) <;> intro hlen2
  · refine runJ ?_
    apply (s_call Tryd_ent13 rfl rfl rfl)
    refine (refCheckW_spec (2 * 2 ^ r) t.q h3 (by omega) (by omega) (by omega)).mono ?_
    rintro _ h4 ⟨⟨e, rfl⟩, e4⟩
    refine ⟨(by first | exact trivial | exact trivial), ?_⟩
    refine runJ ?_
    (apply s_splitG; exact rfl; exact rfl; exact rfl; exact rfl) <;> intro he
    · refine runJ ?_
      exact fin1 rfl rfl ⟨rfl, e03.trans e4⟩
    · refine runJ ?_
      (apply s_splitG; exact rfl; exact rfl; exact rfl; exact rfl) <;> intro h5
      · refine runJ ?_
        exact fin1 rfl rfl ⟨rfl, e03.trans e4⟩
      · refine runJ ?_
        exact fin1 rfl rfl ⟨(dec_t hlen2).symm, e03.trans e4⟩
  refine runJ ?_
  have hq0 : 0 < t.q := by omega
  have CU := cut_spec va xs (2 * 2 ^ r) t.q h3 s3 hal hl (by omega) hq0 (by omega)
  have CV := fun h s => cut_spec vb ys (2 * 2 ^ r) t.q h s hbl hl2 (by omega) hq0 (by omega)
  have hF : Fit (2 ^ t.L) t.q (cutL xs (2 * 2 ^ r) t.q) := by rw [hN]; exact cutL_fit xs hq0
  have hG : Fit (2 ^ t.L) t.q (cutL ys (2 * 2 ^ r) t.q) := by rw [hN]; exact cutL_fit ys hq0
  generalize cutL xs (2 * 2 ^ r) t.q = x at *
  generalize cutL ys (2 * 2 ^ r) t.q = y at *
  have Vv := fun h v ys A s f => values_spec g v t ys h K A s f
  apply (s_call Tryd_ent14 rfl rfl rfl)
  refine (CU).mono ?_
  rintro w4 h4 ⟨e4, o4⟩
  refine ⟨(by first | exact trivial | exact trivial), ?_⟩
  refine runJ ?_
  apply (s_call Tryd_ent14 rfl rfl rfl)
  refine (CV h4 (sb3.ext e4)).mono ?_
  rintro w5 h5 ⟨e5, o5⟩
  refine ⟨(by first | exact trivial | exact trivial), ?_⟩
  have A5 := (A.ext e4).ext e5
  have s4 := o4.sl.ext e5
  have s5 := o5.sl
  refine runJ ?_
  apply (s_call Tryd_ent18 rfl rfl rfl)
  refine (nttMul_spec g w4 w5 t x y h5 K A5 s4 s5 hF hG).mono ?_
  rintro _ h6 ⟨e6, w6, ps, rfl, o6, P6⟩
  refine ⟨(by first | exact trivial | exact trivial), ?_⟩
  have A6 := A5.ext e6
  refine runJ ?_
  apply (s_call Tryd_ent15 rfl rfl rfl)
  refine (Vv h6 w4 x A6 (s4.ext e6) hF).mono ?_
  rintro _ h7 ⟨e7, w7, us, rfl, o7, V7⟩
  refine ⟨(by first | exact trivial | exact trivial), ?_⟩
  have A7 := A6.ext e7
  refine runJ ?_
  apply (s_call Tryd_ent15 rfl rfl rfl)
  refine (Vv h7 w5 y A7 ((s5.ext e6).ext e7) hG).mono ?_
  rintro _ h8 ⟨e8, w8, vs, rfl, o8, V8⟩
  refine ⟨(by first | exact trivial | exact trivial), ?_⟩
  have A8 := A7.ext e8
  refine runJ ?_
  apply (s_call Tryd_ent15 rfl rfl rfl)
  refine (Vv h8 w6 ps A8 ((o6.sl.ext e7).ext e8) P6.1).mono ?_
  rintro _ h9 ⟨e9, w9, ws, rfl, o9, V9⟩
  refine ⟨(by first | exact trivial | exact trivial), ?_⟩
  have e39 := ((((e4.trans e5).trans e6).trans e7).trans e8).trans e9
  have s7 := (o7.sl.ext e8).ext e9
  have s8 := o8.sl.ext e9
  have s9 := o9.sl
  have l7 := V7.1.1
  have l8 := V8.1.1
  have l9 := V9.1.1
  have hVP := fun j hj => val_prd (j := j) K P6 V7 V8 V9 hj
  refine runJ ?_
  (apply w_condF; exact rfl; exact rfl; exact (show ¬ ws.length ≠ 2 * 2 ^ r by omega))
  refine runJ ?_
  (first | (apply w_seqB; exact rfl; apply w_block; exact rfl) | skip)
  apply (w_loop (σ := Nat) rfl (fun j => [(8, U t.q), (15, w7), (17, w8), (19, w9), (118, N ws.length), (119, N j)])
    (fun j h' => h9 = h' ∧ j ≤ ws.length) (fun j => ws.length - j) 0)
  · exact (Sub.cons rfl (Sub.cons rfl (Sub.cons rfl (Sub.cons rfl (Sub.cons rfl (Sub.cons rfl (Sub.nil _)))))))
  · exact ⟨rfl, Nat.zero_le _⟩
  rintro j h' ⟨rfl, j1⟩
  refine runJ ?_
  (apply w_condD; exact rfl; exact rfl) <;> intro hj
  · obtain ⟨a, ha⟩ := get_lt (l := us) (j := j) (by omega)
    obtain ⟨b, hb⟩ := get_lt (l := vs) (j := j) (by omega)
    obtain ⟨c, hc⟩ := get_lt (l := ws) (j := j) hj
    have haq := V7.1.2 a (List.mem_of_getElem? ha)
    have hbq := V8.1.2 b (List.mem_of_getElem? hb)
    have hc2 := hVP j (by omega)
    rw [getD_of ha, getD_of hb, getD_of hc] at hc2
    refine runJ ?_
    apply (s_call Tryd_ent19 rfl rfl rfl)
    refine (refMul_spec a b t.q h9 (by omega) (by omega) (by omega)).mono ?_
    rintro _ _ ⟨rfl, rfl⟩
    refine ⟨(by first | exact trivial | exact Ext.refl _ | assumption | exact Ext.trans (by assumption) (by assumption)), ?_⟩
    refine runJ ?_
    (apply w_condF; exact rfl; exact rfl; exact (show ¬ c ≠ mulm a b t.q from fun k => k hc2))
    refine runJ ?_
    apply again_normal (j + 1)
    · exact (Sub.cons rfl (Sub.cons rfl (Sub.cons rfl (Sub.cons rfl (Sub.cons rfl (Sub.cons rfl (Sub.nil _)))))))
    · exact ⟨rfl, hj⟩
    · omega
  · refine runJ ?_
    exact fin1 rfl rfl ⟨rfl, e03.trans e39⟩

theorem Tryd_ent6 : Ent Tryd.prog 6 := ent_of Tryd.func6 (by kernel_rfl) rfl
set_option maxHeartbeats 4000000 in
theorem nttShifts_law (k : Nat) (va : Value) (xs : List Nat) (h : Hp) (T : TB h) (s : SlF h U va xs) (hal : Al 18446744073709551616 xs) (hl : xs.length < 9223372036854775808) :
    CallsH Tryd.prog 6 [.int .u8 (k : Int), va] h fun v' h' => v' = .bool true ∧ Ext h h' := by
  obtain ⟨r, hr⟩ : ∃ r, k % 9 = r := ⟨_, rfl⟩
  have hr9 : r < 9 := by omega
  obtain ⟨q, X, hq3, hq, hq1, hB, hqm, hX, hX2, hx⟩ := prime3 hr9
  have hm3 : r % 3 = k % 3 := by omega
  have hp2 : 2 ^ r ≤ 2 ^ 8 := Nat.pow_le_pow_right (by decide) (by omega)
  have hp0 : 0 < 2 ^ r := Nat.two_pow_pos _
  have NW := fun h T => nttNew_spec (r + 1) q X h T (by omega) (by omega) hq hqm hq1 hB hX hX2 hx
  rw [hm3] at hq3
  have e2 : 2 ^ (r + 1) = 2 * 2 ^ r := by rw [Nat.pow_succ, Nat.mul_comm]
  have hNL : ∀ L, L = r + 1 → 2 ^ L = 2 * 2 ^ r := fun L hL => by rw [hL, e2]
  rw [e2] at NW
  have hq3 : [12289, 40961, 1152921504606830593][k % 3]? = some q := hq3
  (apply enter Tryd.func6 rfl Tryd.ntmps6 rfl)
  refine runJ ?_
  apply (s_call Tryd_ent11 rfl rfl rfl)
  refine (fixed04_spec h T).mono ?_
  rintro _ h1 ⟨rfl, e1⟩
  refine ⟨(by first | exact trivial | exact trivial), ?_⟩
  refine runJ ?_
  apply s_remU8 (isK_t rfl) isK_c rfl (by decide)
  rw [hr]
  refine runJ ?_
  (apply (s_litF (f := U) [12289, 40961, 1152921504606830593] (fun _ => rfl)); exact rfl; exact rfl; exact rfl; exact rfl; exact rfl; exact rfl; exact rfl; exact rfl; omega)
  intro w2 h2 o2 e12 b2
  refine ⟨(by first | exact trivial | exact Ext.refl _ | assumption | exact Ext.trans (by assumption) (by assumption)), ?_⟩
  have s2 := o2.sl
  refine runJ ?_
  apply s_remU8 (isK_t rfl) isK_c rfl (by decide)
  refine runJ ?_
  have e02 := e1.trans e12
  apply (s_call Tryd_ent12 rfl rfl rfl)
  refine (NW h2 (T.ext e02)).mono ?_
  rintro _ h3 ⟨e3, g, t, rfl, A, K, hL, hqt, -⟩
  refine ⟨(by first | exact trivial | exact trivial), ?_⟩
  have e03 := e02.trans e3
  have s3 := s.ext e03
  have hN := hNL _ hL
  subst hqt
  refine runJ ?_
  (apply w_condD; exact rfl; exact rfl) <;> intro hlen
  · refine runJ ?_
    apply (s_call Tryd_ent13 rfl rfl rfl)
    refine (refCheckW_spec (2 * 2 ^ r) t.q h3 (by omega) (by omega) (by omega)).mono ?_
    rintro _ h4 ⟨⟨e, rfl⟩, e4⟩
    refine ⟨(by first | exact trivial | exact trivial), ?_⟩
    refine runJ ?_
    (apply s_splitG; exact rfl; exact rfl; exact rfl; exact rfl) <;> intro he
    · refine runJ ?_
      exact fin1 rfl rfl ⟨rfl, e03.trans e4⟩
    · refine runJ ?_
      exact fin1 rfl rfl ⟨(dec_t hlen).symm, e03.trans e4⟩
  refine runJ ?_
  have hq0 : 0 < t.q := by omega
  have CU := cut_spec va xs (2 * 2 ^ r) t.q h3 s3 hal hl (by omega) hq0 (by omega)
  have hF : Fit (2 ^ t.L) t.q (cutL xs (2 * 2 ^ r) t.q) := by rw [hN]; exact cutL_fit xs hq0
  generalize cutL xs (2 * 2 ^ r) t.q = x at *
  have h12 : 1 % (2 * 2 ^ r) = 1 := Nat.mod_eq_of_lt (by omega)
  have hxn : x.length = 2 * 2 ^ r := by rw [hF.1, hN]
  generalize hnn : 2 * 2 ^ r = n at *
  apply (s_call Tryd_ent14 rfl rfl rfl)
  refine (CU).mono ?_
  rintro w4 h4 ⟨e4, o4⟩
  refine ⟨(by first | exact trivial | exact trivial), ?_⟩
  have s4 := o4.sl
  refine runJ ?_
  (apply (s_make (f := U) (bytes := 8) (0)); (first | exact isK_c | exact isK_t rfl); (first | exact isK_c | exact isK_t rfl); exact rfl; exact rfl; exact rfl; exact rfl; exact rfl; exact rfl; omega; omega; omega)
  intro w5 h5 o5 e5 b5
  refine ⟨(by first | exact trivial | exact Ext.refl _ | assumption | exact Ext.trans (by assumption) (by assumption)), ?_⟩
  have s5 := o5.sl
  have hrl : 1 < (List.replicate n 0).length := by rw [List.length_replicate]; omega
  refine runJ ?_
  rw [h12]
  refine runJ ?_
  (apply (s_storeF (f := U) (1 : Nat)); exact rfl; exact rfl; exact rfl; exact rfl; exact rfl; exact o5; exact rfl; exact hrl)
  intro h6 o6 k6
  refine ⟨trivial, ?_⟩
  have e46 : Ext h4 h6 := o5.old k6 e5 (Nat.le_refl _)
  have A6 := (A.ext e4).ext e46
  have hup : ∀ j, j < 2 ^ t.L → gt ((List.replicate n 0).set 1 1) j = if j = 1 then 1 else 0 := fun j hj => by
    unfold gt
    rw [getD_set (by rw [List.length_replicate]; omega)]
    by_cases h1 : j = 1
    · rw [if_pos h1, if_pos h1]; rfl
    · rw [if_neg h1, if_neg h1, getD_of (x := 0) (by rw [List.getElem?_replicate, if_pos (by omega)])]; rfl
  have hfu : Fit (2 ^ t.L) t.q ((List.replicate n 0).set 1 1) := fit_of (by rw [List.length_set, List.length_replicate, hN]) fun j hj => by
    have h1 := hup j hj
    unfold gt at h1
    by_cases h2 : j = 1
    · rw [if_pos h2] at h1; omega
    · rw [if_neg h2] at h1; omega
  generalize (List.replicate n 0).set 1 1 = up at *
  clear s5 o5
  refine runJ ?_
  apply (s_call Tryd_ent18 rfl rfl rfl)
  refine (nttMul_spec g w4 w5 t x up h6 K A6 (s4.ext e46) o6.sl hF hfu).mono ?_
  rintro _ h7 ⟨e7, w7, ps, rfl, o7, P7⟩
  refine ⟨(by first | exact trivial | exact trivial), ?_⟩
  have hps := prd_shift K hF hup P7
  have s47 := s4.ext (e46.trans e7)
  obtain ⟨z, hz⟩ := get_lt (l := x) (j := n - 1) (by omega)
  have hzq := hF.2 z (List.mem_of_getElem? hz)
  refine runJ ?_
  apply (s_call Tryd_ent20 rfl rfl rfl)
  refine (refSub_spec 0 z t.q h7 (by omega) (by omega) (by omega)).mono ?_
  rintro _ _ ⟨rfl, rfl⟩
  refine ⟨Ext.refl _, ?_⟩
  refine runJ ?_
  (apply (s_litF (f := U) [subm 0 z t.q] (fun _ => rfl)); exact rfl; exact rfl; exact rfl; exact rfl; exact rfl; exact rfl; exact rfl; exact rfl; omega)
  intro w8 h8 o8 e8 b8
  refine ⟨(by first | exact trivial | exact Ext.refl _ | assumption | exact Ext.trans (by assumption) (by assumption)), ?_⟩
  have c8 := (s47.ext e8).cut (lo := 0) (hi := n - 1) (Nat.zero_le _) (by omega)
  rw [List.drop_zero, Nat.sub_zero] at c8
  have hl1 : [subm 0 z t.q].length = 1 := rfl
  have hl2 : (x.take (n - 1)).length ≤ n := by rw [List.length_take]; omega
  refine runJ ?_
  (apply (s_appendF (bytes := 8)); exact rfl; exact rfl; exact rfl; exact rfl; exact rfl; exact rfl; exact rfl; exact o8; exact c8; exact fun _ => rfl; (first | exact Nat.le_refl _ | exact ext_size (by assumption) | omega); ((try simp only [maxLen]); (try simp only [List.length_nil]); (try simp only [List.length_append]); omega); ((try simp only [List.length_nil]); (try simp only [List.length_append]); omega))
  intro w9 h9 o9 k9 b9
  refine ⟨(by first | exact (o8.old k9 e8 (Nat.le_refl _)) | exact trivial | exact Ext.refl _ | assumption | exact Ext.trans (by assumption) (by assumption)), ?_⟩
  have e79 : Ext h7 h9 := o8.old k9 e8 (Nat.le_refl _)
  have hsh : [subm 0 z t.q] ++ x.take (n - 1) = shf t.q x := by unfold shf; rw [hxn, getD_of hz]; rfl
  rw [hsh, ← hps] at o9
  have hpl : ps.length < 9223372036854775808 := by rw [P7.1.1, hN]; omega
  refine runJ ?_
  apply (s_call Tryd_ent17 rfl rfl rfl)
  refine (sameU9_spec w7 w9 ps ps h9 (o7.sl.ext e79) o9.sl hpl hpl).mono ?_
  rintro _ _ ⟨rfl, rfl⟩
  refine ⟨(by first | exact trivial | exact Ext.refl _ | assumption | exact Ext.trans (by assumption) (by assumption)), ?_⟩
  rw [decide_eq_true rfl]
  refine runJ ?_
  exact fin1 rfl rfl ⟨rfl, (((e03.trans e4).trans e46).trans e7).trans e79⟩
end Go.Proofs.YtfgfmempmkjlnaaDoor

/- What an argument that came in reads as: from the kit's reading of data to rows and variables of the own calculus. No condition. -/
namespace Go.Den
set_option linter.unusedVariables false
set_option maxRecDepth 8000
open Go Go.RowKit Go.ChangeShapes Go.WideShapes

/-- The cells read as data of the type. -/
def Opn (P : Program) (w : World) (t : TypeId) (cs : List Value) : Prop := ∃ (H : Type) (enc : TypeId × Value → H) (fuel : Nat) (x : DataW H × List MemPlace), DataW.trod enc P w 0 (fun _ => true) true fuel t cs = some x

theorem opn_of {P : Program} {w : World} {t : TypeId} {v : Value} {H : Type} {enc : TypeId × Value → H} {d : DataW H} {ps : List MemPlace} (h : DataW.Trod enc P w 0 (fun _ => true) true t v d ps) : Opn P w t v.cells.toList := by
  obtain ⟨fuel, hf⟩ := h
  exact ⟨H, enc, fuel, _, hf⟩

section
variable {P : Program} {w : World} {t : TypeId} {cs : List Value}

theorem Opn.bool (ht : P.underlying t = some .bool) (h : Opn P w t cs) : ∃ b, cs = [.bool b] := by
  obtain ⟨H, enc, fuel, x, h⟩ := h
  obtain ⟨b, h1, -⟩ := DataW.trod_bool ht h
  exact ⟨b, h1⟩
theorem Opn.int {k : IntKind} (ht : P.underlying t = some (.int k)) (h : Opn P w t cs) : ∃ n, cs = [.int k n] ∧ (Lit.int k n).wf = true := by
  obtain ⟨H, enc, fuel, x, h⟩ := h
  obtain ⟨n, h1, -, h2⟩ := DataW.trod_int ht h
  exact ⟨n, h1, h2⟩
theorem Opn.struct {fs : Array Field} (ht : P.underlying t = some (.struct fs)) (h : Opn P w t cs) : cs.length = P.cellsOf t ∧ ∀ (i : Nat) (f : Field), fs[i]? = some f → Opn P w f.type ((cs.drop f.offset).take (P.cellsOf f.type)) := by
  obtain ⟨H, enc, fuel, x, h⟩ := h
  obtain ⟨xs, n, -, -, h1, h2, h3⟩ := DataW.trod_struct ht h
  refine ⟨h1, fun i f hf => ?_⟩
  have hi : i < xs.length := by rw [h2]; exact (Array.getElem?_eq_some_iff.1 hf).1
  exact ⟨H, enc, n, xs[i], by rw [h3 i f hf]; simp [hi]⟩
/-- A slice: its cells, an element's worth at a time, read as data. -/
theorem Opn.slice {e : TypeId} {s : Nat} (ht : P.underlying t = some (.slice e)) (hs : P.cellsOf e = s) (hs0 : 0 < s) (h : Opn P w t cs) :
    ∃ v n es, cs = [v] ∧ Sl w.heap v n es ∧ es.length = n * s ∧ n ≤ maxLen ∧ ∀ i, i < n → Opn P w e ((es.drop (i * s)).take s) := by
  obtain ⟨H, enc, fuel, x, h⟩ := h
  rcases DataW.trod_slice ht h with ⟨rfl, -⟩ | ⟨a, len, cap, elems, rest, n, -, rfl, -, -, hl, hm, hlen, hel, -, -⟩
  · exact ⟨_, 0, [], rfl, Sl.nil _, by simp, Nat.zero_le _, fun i hi => by omega⟩
  · rw [hs] at hel
    have each : ∀ i, i < len → ∃ c, w.cells? 0 (a.add (i * s)) s = some c ∧ c.length = s ∧ Opn P w e c := fun i hi => by
      have h1 := hel i hi
      rw [List.getElem?_eq_getElem (by omega)] at h1
      cases hc : w.cells? 0 (a.add (i * s)) s with
      | none => rw [hc] at h1; cases h1
      | some c =>
        rw [hc] at h1
        refine ⟨c, rfl, (World.cells?_some hc).2.1, H, enc, n, _, h1⟩
    by_cases h0 : len = 0
    · subst h0
      exact ⟨_, 0, [], rfl, Sl.empty _ a cap, by simp, Nat.zero_le _, fun i hi => by omega⟩
    · have cellAt : ∀ i r, i < len → r < s → ∀ c, w.cells? 0 (a.add (i * s)) s = some c → w.cell? (a.add (i * s + r)) = c[r]? := fun i r hi hr c hc => by
        rw [← Addr.add_add]; exact (World.cells?_some hc).2.2 r hr
      have hspot : a.spot = none := by
        obtain ⟨c, hc, hcl, -⟩ := each 0 (by omega)
        have := cellAt 0 0 (by omega) hs0 c hc
        rw [List.getElem?_eq_getElem (by omega)] at this
        have e0 : a.add (0 * s + 0) = a := by simp [Addr.add]
        rw [e0] at this
        unfold World.cell? at this
        split at this
        · split at this
          · cases this
          · rename_i hsp; simpa using hsp
        · cases this
      obtain ⟨b, o, sp⟩ := a
      simp only at hspot
      subst hspot
      have total : ∀ j, j < len * s → ∃ u, w.cell? ((⟨b, o, none⟩ : Addr).add j) = some u := fun j hj => by
        have hi : j / s < len := (Nat.div_lt_iff_lt_mul hs0).2 hj
        have hr : j % s < s := Nat.mod_lt _ hs0
        obtain ⟨c, hc, hcl, -⟩ := each (j / s) hi
        have := cellAt (j / s) (j % s) hi hr c hc
        rw [List.getElem?_eq_getElem (by omega), Nat.mul_comm (j / s) s, Nat.div_add_mod] at this
        exact ⟨_, this⟩
      refine ⟨_, len, (List.range (len * s)).map (fun j => (w.cell? ((⟨b, o, none⟩ : Addr).add j)).getD undef), rfl, .inr ⟨b, o, cap, rfl, hl, fun j u hu => ?_⟩, by simp, Nat.le_trans hl hm, fun i hi => ?_⟩
      · rw [List.getElem?_map] at hu
        by_cases hj : j < len * s
        · rw [List.getElem?_range hj] at hu
          obtain ⟨u', hu'⟩ := total j hj
          rw [Option.map_some, hu', Option.getD_some] at hu
          cases hu
          rw [Addr.add_lit, cell?_cellH] at hu'
          exact hu'
        · rw [List.getElem?_eq_none (by simpa using hj)] at hu; cases hu
      · obtain ⟨c, hc, hcl, ho⟩ := each i hi
        have e : ((List.map (fun j => (w.cell? ((⟨b, o, none⟩ : Addr).add j)).getD undef) (List.range (len * s))).drop (i * s)).take s = c := by
          have hle : i * s + s ≤ len * s := by rw [← Nat.succ_mul]; exact Nat.mul_le_mul_right _ hi
          apply List.ext_getElem?
          intro r
          rw [List.getElem?_take]
          by_cases hr : r < s
          · rw [if_pos hr, List.getElem?_drop, List.getElem?_map, List.getElem?_range (by omega)]
            have := cellAt i r hi hr c hc
            rw [Option.map_some, this, List.getElem?_eq_getElem (by omega)]; rfl
          · rw [if_neg hr, List.getElem?_eq_none (by omega)]
        rw [e]; exact ho
end

/-! ### words -/
theorem nat_of_lit {n : Int} (h : (Lit.int .u64 n).wf = true) : ∃ m : Nat, n = (m : Int) ∧ m < 18446744073709551616 := by
  have := bounds_u64 h
  exact ⟨n.toNat, by omega, by omega⟩

def wordOf : Option Value → Nat
  | some (.int _ z) => z.toNat
  | _ => 0
theorem opn_words {P : Program} {w : World} {t e : TypeId} {cs : List Value} (ht : P.underlying t = some (.slice e)) (he : P.underlying e = some (.int .u64)) (hc : P.cellsOf e = 1) (h : Opn P w t cs) :
    ∃ v xs, cs = [v] ∧ SlF w.heap U v xs ∧ Dig.Al 18446744073709551616 xs ∧ xs.length ≤ maxLen := by
  obtain ⟨v, n, es, h1, h2, h3, h4, h5⟩ := h.slice ht hc Nat.zero_lt_one
  have key : ∀ i, i < n → ∃ m : Nat, es[i]? = some (U m) ∧ m < 18446744073709551616 := fun i hi => by
    obtain ⟨z, hz, hw⟩ := (h5 i hi).int he
    obtain ⟨m, rfl, hm⟩ := nat_of_lit hw
    refine ⟨m, ?_, hm⟩
    rw [Nat.mul_one] at hz
    have : (es.drop i)[0]? = some (U m) := by
      have h0 : ((es.drop i).take 1)[0]? = some (U m) := by rw [hz]; rfl
      rwa [List.getElem?_take, if_pos (by omega)] at h0
    rwa [List.getElem?_drop, Nat.add_zero] at this
  have hxs : es = ((List.range n).map fun i => wordOf es[i]?).map U := by
    apply List.ext_getElem?
    intro i
    by_cases hi : i < n
    · obtain ⟨m, hm, -⟩ := key i hi
      rw [List.getElem?_map, List.getElem?_map, List.getElem?_range hi]
      simp [hm, wordOf]
    · rw [List.getElem?_eq_none (by omega), List.getElem?_eq_none (by simp; omega)]
  refine ⟨v, (List.range n).map fun i => wordOf es[i]?, h1, ?_, ?_, by simpa using h4⟩
  · unfold SlF
    rw [← hxs]; simpa using h2
  · intro x hx
    obtain ⟨i, hi, rfl⟩ := List.mem_map.1 hx
    obtain ⟨m, hm, hlt⟩ := key i (List.mem_range.1 hi)
    rw [hm]
    simpa [wordOf] using hlt

/-- A struct of a bool and a row of words. -/
theorem opn_boolwords {P : Program} {w : World} {t tb tn e : TypeId} {cs : List Value} {f0 f1 : Field} (ht : P.underlying t = some (.struct #[f0, f1])) (h0 : (f0.type, f0.offset, P.cellsOf f0.type) = (tb, 0, 1)) (h1 : (f1.type, f1.offset, P.cellsOf f1.type) = (tn, 1, 1))
    (hb : P.underlying tb = some .bool) (hn : P.underlying tn = some (.slice e)) (he : P.underlying e = some (.int .u64)) (hc : P.cellsOf e = 1) (hz : P.cellsOf t = 2) (h : Opn P w t cs) :
    ∃ b v xs, cs = [.bool b, v] ∧ SlF w.heap U v xs ∧ Dig.Al 18446744073709551616 xs := by
  obtain ⟨g1, g2⟩ := h.struct ht
  simp only [Prod.mk.injEq] at h0 h1
  have o0 := g2 0 f0 (by simp)
  have o1 := g2 1 f1 (by simp)
  rw [h0.2.1, h0.2.2, h0.1] at o0
  rw [h1.2.1, h1.2.2, h1.1] at o1
  obtain ⟨b, e0⟩ := o0.bool hb
  obtain ⟨v, xs, e1, s, al, -⟩ := opn_words hn he hc o1
  refine ⟨b, v, xs, ?_, s, al⟩
  rw [hz] at g1
  match cs, g1 with
  | [c0, c1], _ =>
    simp at e0 e1
    rw [e0, e1]
theorem arg_words {P : Program} {w : World} {t e : TypeId} {v : Value} (ht : P.underlying t = some (.slice e)) (he : P.underlying e = some (.int .u64)) (hc : P.cellsOf e = 1) (hv : ∃ a len cap, v = .slice a len cap) (h : Opn P w t v.cells.toList) :
    ∃ xs, SlF w.heap U v xs ∧ Dig.Al 18446744073709551616 xs ∧ xs.length ≤ maxLen := by
  obtain ⟨a, len, cap, rfl⟩ := hv
  obtain ⟨v, xs, e1, h2⟩ := opn_words ht he hc h
  simp [Value.cells] at e1
  subst e1
  exact ⟨xs, h2⟩
theorem arg_boolwords {P : Program} {w : World} {t tb tn e : TypeId} {v : Value} {f0 f1 : Field} (ht : P.underlying t = some (.struct #[f0, f1])) (h0 : (f0.type, f0.offset, P.cellsOf f0.type) = (tb, 0, 1)) (h1 : (f1.type, f1.offset, P.cellsOf f1.type) = (tn, 1, 1))
    (hb : P.underlying tb = some .bool) (hn : P.underlying tn = some (.slice e)) (he : P.underlying e = some (.int .u64)) (hc : P.cellsOf e = 1) (hz : P.cellsOf t = 2) (hv : ∃ cs, v = .agg cs) (h : Opn P w t v.cells.toList) :
    ∃ b a xs, v = .agg #[.bool b, a] ∧ SlF w.heap U a xs ∧ Dig.Al 18446744073709551616 xs := by
  obtain ⟨cs, rfl⟩ := hv
  obtain ⟨b, a, xs, e1, h2, h3⟩ := opn_boolwords ht h0 h1 hb hn he hc hz h
  exact ⟨b, a, xs, by simp only [Value.cells] at e1; rw [show cs = #[.bool b, a] from Array.toList_inj.1 e1], h2, h3⟩
end Go.Den

/- What an argument that came in reads as: rows of ints, rows of rows, rows of structs. No condition. -/
namespace Go.Den
set_option linter.unusedVariables false
set_option maxRecDepth 8000
open Go Go.RowKit Go.ChangeShapes Go.WideShapes

theorem chunks {α : Type} {f : α → List Value} {R : α → Prop} {s : Nat} : ∀ (n : Nat) (es : List Value), es.length = n * s → (∀ i, i < n → ∃ x, (es.drop (i * s)).take s = f x ∧ R x) → ∃ xs : List α, xs.length = n ∧ es = xs.flatMap f ∧ ∀ x ∈ xs, R x
  | 0, es, hl, _ => ⟨[], rfl, by simpa using hl, by simp⟩
  | n + 1, es, hl, h => by
    obtain ⟨x, hx, hr⟩ := h 0 (by omega)
    rw [Nat.zero_mul, List.drop_zero] at hx
    have hl' : (es.drop s).length = n * s := by rw [List.length_drop, hl, Nat.succ_mul]; omega
    obtain ⟨xs, h1, h2, h3⟩ := chunks (f := f) (R := R) n (es.drop s) hl' (fun i hi => by
      obtain ⟨y, hy, hr⟩ := h (i + 1) (by omega)
      refine ⟨y, ?_, hr⟩
      rw [List.drop_drop, show s + i * s = (i + 1) * s by rw [Nat.succ_mul]; omega]
      exact hy)
    refine ⟨x :: xs, by simp [h1], ?_, ?_⟩
    · rw [List.flatMap_cons, ← h2, ← hx, List.take_append_drop]
    · intro y hy
      rcases List.mem_cons.1 hy with rfl | hy
      · exact hr
      · exact h3 y hy

def ib64 (z : Int) : Prop := -9223372036854775808 ≤ z ∧ z < 9223372036854775808
section
variable {P : Program} {w : World} {t e : TypeId} {cs : List Value}
theorem Opn.i64 (ht : P.underlying t = some (.int .i64)) (h : Opn P w t cs) : ∃ n, cs = [I n] ∧ ib64 n := by
  obtain ⟨n, h1, h2⟩ := h.int ht
  exact ⟨n, h1, by have := bounds_i64 h2; unfold ib64; omega⟩
theorem Opn.rowA {α : Type} {f : α → List Value} {R : α → Prop} {s : Nat} (ht : P.underlying t = some (.slice e)) (hs : P.cellsOf e = s) (hs0 : 0 < s) (hf : ∀ x, (f x).length = s) (h : Opn P w t cs) (he : ∀ c, Opn P w e c → ∃ x, c = f x ∧ R x) :
    ∃ v xs, cs = [v] ∧ SlA w.heap f s v xs ∧ (∀ x ∈ xs, R x) ∧ xs.length ≤ maxLen := by
  obtain ⟨v, n, es, h1, h2, h3, h4, h5⟩ := h.slice ht hs hs0
  obtain ⟨xs, g1, g2, g3⟩ := chunks (f := f) (R := R) n es h3 (fun i hi => he _ (h5 i hi))
  subst g1
  exact ⟨v, xs, h1, ⟨hf, by rw [← g2]; exact h2⟩, g3, h4⟩
theorem flat_one {α : Type} (f : α → Value) (xs : List α) : xs.flatMap (fun x => [f x]) = xs.map f := by
  induction xs with
  | nil => rfl
  | cons x xs ih => rw [List.flatMap_cons, ih]; rfl
theorem SlA.one' {α : Type} {f : α → Value} {h : Hp} {v : Value} {xs : List α} (s : SlA h (fun x => [f x]) 1 v xs) : SlF h f v xs := by
  have := s.2
  rw [flat_one] at this
  exact this
theorem Opn.ints (ht : P.underlying t = some (.slice e)) (he : P.underlying e = some (.int .i64)) (hc : P.cellsOf e = 1) (h : Opn P w t cs) :
    ∃ v xs, cs = [v] ∧ SlF w.heap I v xs ∧ (∀ x ∈ xs, ib64 x) ∧ xs.length ≤ maxLen := by
  obtain ⟨v, xs, h1, h2, h3, h4⟩ := h.rowA (f := fun x => [I x]) (R := ib64) ht hc Nat.zero_lt_one (fun _ => rfl) (fun c hc => Opn.i64 he hc)
  exact ⟨v, xs, h1, h2.one', h3, h4⟩
/-- A row of int, told with its front. -/
def RowI (h : Hp) (x : Value × List Int) : Prop := SlF h I x.1 x.2 ∧ (∀ z ∈ x.2, ib64 z) ∧ x.2.length ≤ maxLen
theorem Opn.introws {e2 : TypeId} (ht : P.underlying t = some (.slice e)) (he : P.underlying e = some (.slice e2)) (he2 : P.underlying e2 = some (.int .i64)) (hc : P.cellsOf e = 1) (hc2 : P.cellsOf e2 = 1) (h : Opn P w t cs) :
    ∃ v xs, cs = [v] ∧ SlF w.heap Prod.fst v xs ∧ (∀ x ∈ xs, RowI w.heap x) ∧ xs.length ≤ maxLen := by
  obtain ⟨v, xs, h1, h2, h3, h4⟩ := h.rowA (f := fun x : Value × List Int => [x.1]) (R := RowI w.heap) ht hc Nat.zero_lt_one (fun _ => rfl) (fun c hc => by
    obtain ⟨v, xs, g1, g2, g3, g4⟩ := Opn.ints he he2 hc2 hc
    exact ⟨(v, xs), g1, g2, g3, g4⟩)
  exact ⟨v, xs, h1, h2.one', h3, h4⟩
theorem arg_ints {v : Value} (ht : P.underlying t = some (.slice e)) (he : P.underlying e = some (.int .i64)) (hc : P.cellsOf e = 1) (hv : ∃ a len cap, v = .slice a len cap) (h : Opn P w t v.cells.toList) :
    ∃ xs, SlF w.heap I v xs ∧ (∀ x ∈ xs, ib64 x) ∧ xs.length ≤ maxLen := by
  obtain ⟨a, len, cap, rfl⟩ := hv
  obtain ⟨v, xs, e1, h2⟩ := h.ints ht he hc
  simp [Value.cells] at e1
  subst e1
  exact ⟨xs, h2⟩
theorem arg_introws {e2 : TypeId} {v : Value} (ht : P.underlying t = some (.slice e)) (he : P.underlying e = some (.slice e2)) (he2 : P.underlying e2 = some (.int .i64)) (hc : P.cellsOf e = 1) (hc2 : P.cellsOf e2 = 1) (hv : ∃ a len cap, v = .slice a len cap) (h : Opn P w t v.cells.toList) :
    ∃ xs, SlF w.heap Prod.fst v xs ∧ (∀ x ∈ xs, RowI w.heap x) ∧ xs.length ≤ maxLen := by
  obtain ⟨a, len, cap, rfl⟩ := hv
  obtain ⟨v, xs, e1, h2⟩ := h.introws ht he he2 hc hc2
  simp [Value.cells] at e1
  subst e1
  exact ⟨xs, h2⟩
/-- A part of a struct. -/
theorem Opn.part {fs : Array Field} {tt : TypeId} {off s : Nat} (ht : P.underlying t = some (.struct fs)) (i : Nat) (hi : (fs[i]?).map (fun f => (f.type, f.offset, P.cellsOf f.type)) = some (tt, off, s)) (h : Opn P w t cs) : Opn P w tt ((cs.drop off).take s) := by
  obtain ⟨-, g2⟩ := h.struct ht
  cases hf : fs[i]? with
  | none => rw [hf] at hi; cases hi
  | some f =>
    rw [hf] at hi
    simp only [Option.map_some, Option.some.injEq, Prod.mk.injEq] at hi
    obtain ⟨rfl, rfl, rfl⟩ := hi
    exact g2 i f hf
theorem Opn.width {fs : Array Field} {s : Nat} (ht : P.underlying t = some (.struct fs)) (hc : P.cellsOf t = s) (h : Opn P w t cs) : cs.length = s := by
  obtain ⟨g1, -⟩ := h.struct ht
  rw [g1, hc]
end
end Go.Den

/- What the listed table reads as when the call begins. No condition. -/
namespace Go.Proofs.YtfgfmempmkjlnaaDoor
set_option linter.unusedVariables false
set_option maxRecDepth 8000
open Go Go.Den Go.RowKit Go.ChangeShapes Go.WideShapes

def laidL : List (String × DataW Unit) := [("math/bits.deBruijn64tab", Rows.laid_math_bits_deBruijn64tab)]
theorem laid_eq : (Rows.laid_math_bits_deBruijn64tab : DataW Unit) = .agg (tzT.map fun b => .lit (.int .u8 ((b : Nat) : Int))) := rfl
theorem gTab : Tryd.prog.globalNamed "math/bits.deBruijn64tab" = some 2 := by kernel_rfl
theorem tTab : (Tryd.prog.globals[2]?).map (·.type) = some 122 := by kernel_rfl
theorem tb_of_laid {W : World} (h : laidMetH Tryd.prog laidL W) : TB W.heap := by
  rw [MakeChecks.laidMetH_plain _ _ _ (by kernel_rfl)] at h
  obtain ⟨ps, ⟨g0, t0, cs0, f0, p0, q0, hg0, ht0, hv0, hd0, hrest⟩, hrest2⟩ := h
  obtain rfl := Option.some.inj (gTab.symm.trans hg0)
  obtain rfl := Option.some.inj (tTab.symm.trans ht0)
  rw [laid_eq] at hd0
  obtain ⟨xs, m1, -, hx1, hlen, hn, hel⟩ := DataW.trod_array Tryd.underlying122 hd0
  have c5 : Tryd.prog.cellsOf 5 = 1 := by kernel_rfl
  simp only [Prod.mk.injEq, DataW.agg.injEq] at hx1
  have key : ∀ j, j < 64 → cs0.toList[j]? = some (.int .u8 ((tzT.getD j 0 : Nat) : Int)) := fun j hj => by
    have hxj : xs[j]? = some xs[j] := List.getElem?_eq_getElem (by omega)
    have h1 := hel j hj
    rw [c5, Nat.mul_one, hxj] at h1
    obtain ⟨k, e1, e2, -⟩ := DataW.trod_int Tryd.underlying5 h1
    have h2 := congrArg (fun l => l[j]?) hx1.1
    simp only [List.getElem?_map, hxj, Option.map_some] at h2
    rw [List.getElem?_eq_getElem (show j < tzT.length from hj), Option.map_some, Option.some.injEq] at h2
    rw [e2] at h2
    simp only [DataW.lit.injEq, Lit.int.injEq, true_and] at h2
    have h3 : (List.drop j cs0.toList)[0]? = some (Value.int .u8 k) := by
      have : ((List.drop j cs0.toList).take 1)[0]? = some (Value.int .u8 k) := by rw [e1]; rfl
      rwa [List.getElem?_take, if_pos (by omega)] at this
    rw [List.getElem?_drop, Nat.add_zero] at h3
    rw [h3, List.getD_eq_getElem?_getD, List.getElem?_eq_getElem (show j < tzT.length from hj), Option.getD_some, h2]
  refine ⟨_, 0, rfl, fun j u hu => ?_⟩
  rw [List.getElem?_map, Option.map_eq_some_iff] at hu
  obtain ⟨b, hb, rfl⟩ := hu
  have hj : j < 64 := (List.getElem?_eq_some_iff.1 hb).1
  have h4 := World.var?_cell hg0 hv0 j
  rw [cell?_cellH] at h4
  rw [Nat.zero_add, h4]
  have h5 := key j hj
  rw [List.getD_eq_getElem?_getD, hb, Option.getD_some] at h5
  simpa using h5

/-- The heap that the program's own start leaves meets the condition. -/
theorem door_met (os : Os) (args : Array Value) : laidMetH Tryd.prog laidL ((World.doorLaid Tryd.prog 400 os).forCall (fun _ _ => 0) ⟨#[], args, []⟩).memory :=
  laidMetH_of_parts3 (fuel := 8) (laidMet_of_run' 8 (by kernel_rfl) (by kernel_rfl)) (by kernel_rfl) (by kernel_rfl)
end Go.Proofs.YtfgfmempmkjlnaaDoor
