/- Vector programs: the walk of a run. No condition. -/
import Derived.Test.YthgpgccmhohfbaaVecG
namespace Go.Proofs.Ythgpgccmhohfbaa
set_option linter.unusedVariables false
open Go Go.Den Go.RowKit

theorem fit_of {V : VecD} {ir : List (Value × List Int)} (h1 : ir.length = V.ins.length) (h2 : ∀ (j : Nat) (x : Value × List Int) (y : InD), ir[j]? = some x → V.ins[j]? = some y → x.2.length = y.sl.length) : fitP V (ir.map (·.2)) := by
  unfold fitP
  apply List.ext_getElem
  · simpa using h1
  intro j g1 g2
  simp only [List.length_map] at g1 g2
  simp only [List.getElem_map]
  exact h2 j _ _ (List.getElem?_eq_getElem g1) (List.getElem?_eq_getElem (by simpa using g2))
theorem not_fit {V : VecD} {ir : List (Value × List Int)} {j : Nat} {x : Value × List Int} {y : InD} (hx : ir[j]? = some x) (hy : V.ins[j]? = some y) (hne : x.2.length ≠ y.sl.length) : ¬ fitP V (ir.map (·.2)) := fun h => by
  unfold fitP at h
  have := congrArg (fun l => l[j]?) h
  simp [hx, hy] at this
  exact hne this

theorem take_set {α : Type} {xs : List α} {i n : Nat} {x z : α} (hx : xs[i]? = some x) (hn : xs.length = n) : (xs.take i ++ List.replicate (n - i) z).set i x = xs.take (i + 1) ++ List.replicate (n - (i + 1)) z := by
  have h1 := (List.getElem?_eq_some_iff.1 hx).1
  rw [List.set_append_right _ _ (by simp; omega), List.length_take, Nat.min_eq_left (by omega), Nat.sub_self, show n - i = (n - (i + 1)) + 1 by omega, List.replicate_succ, List.set_cons_zero, take_snoc hx, List.append_assoc, List.singleton_append]

/-- What a run's rows are, told in plain words. -/
def RunO (h' : Hp) (u : Value) (rows : List (List Int)) : Prop := ∃ out : List (Value × List Int), SlF h' Prod.fst u out ∧ (∀ x ∈ out, SlF h' I x.1 x.2) ∧ out.map (·.2) = rows ∧ (∀ l ∈ rows, l.length ≤ 64) ∧ rows.length ≤ 2048
def told (t : Nat) (kn : List (List Nat)) : List (List Int) := kn.map fun r => r.map fun y => centerm y t

/-- What a run answers. -/
def RunA (V : VecD) (irs : List (List Int)) (t : Nat) (v' : Value) (h' : Hp) : Prop :=
  ∃ e u, RunE V irs t e ∧ v' = .tuple #[u, N e] ∧ (e ≠ 0 → u = .slice none 0 0) ∧ (e = 0 → RunO h' u (told t (runF V irs V.slots.toNat t V.code)))

structure RunB (V : VecD) (ir : List (Value × List Int)) (t : Nat) : Prop where mk ::
  slots : V.slots ≤ 64
  ins : ∀ x ∈ V.ins, x.sl.length ≤ 100
  irb : ∀ x ∈ ir, ∀ z ∈ x.2, ib z
  irl : ∀ x ∈ ir, x.2.length < 4611686018427387904
  irn : ir.length < 4611686018427387904
  plb : ∀ x ∈ V.pls, ∀ z ∈ x.2, ib z
  t : t < 18446744073709551616

theorem Try_ent9 : Ent Try.prog 9 := ent_of Try.func9 (by kernel_rfl) rfl
set_option maxHeartbeats 4000000 in
theorem run_spec (V : VecD) (vN : Value) (ir : List (Value × List Int)) (t : Nat) (h : Hp) (s : VecAt h V) (sl : VecL V) (B : RunB V ir t) (sn : SlF h Prod.fst vN ir) (snr : ∀ x ∈ ir, SlF h I x.1 x.2) :
    CallsH Try.prog 9 [.agg V.cells.toArray, vN, U t] h fun v' h' => Ext h h' ∧ RunA V (ir.map (·.2)) t v' h' := by
  have hirn := B.irn
  have hin := sl.ins
  have htt := B.t
  unfold RunA
  (apply enter Try.func9 rfl Try.ntmps9 rfl)
  refine runJ ?_
  (apply s_box; exact rfl; exact rfl; exact rfl; exact rfl)
  intro p1 h1 x1 e1 b1
  (try dsimp only [Value.cells, List.toList_toArray] at x1)
  refine ⟨(by first | exact trivial | exact Ext.refl _ | assumption | exact Ext.trans (by assumption) (by assumption)), ?_⟩
  have s1 := s.ext e1
  refine runJ ?_
  apply (s_call Try_ent15 rfl rfl rfl)
  refine (check_spec V h1 s1 sl B.slots).mono ?_
  rintro _ h2 ⟨hcd, e2⟩
  refine ⟨(by first | exact trivial | exact trivial), ?_⟩
  rcases hcd with ⟨rfl, hc⟩ | ⟨rfl, hc⟩
  rotate_left
  · refine runJ ?_
    exact fin2 rfl rfl rfl ⟨e1.trans e2, 3, _, .inl ⟨rfl, hc⟩, rfl, fun _ => rfl, fun e => by cases e⟩
  have x2 := x1.ext e2
  have e12 := e1.trans e2
  have s2 := s.ext e12
  refine runJ ?_
  refine s_tcut (σ := Unit) (fun _ => [(1, vN), (2, U t), (3, p1), (22, .bool (decide (t < 2 ∨ 1073741824 < t)))]) (fun _ h' => h2 = h') ?_ ?_
  · (apply s_splitG; exact rfl; exact rfl; exact rfl; exact rfl) <;> intro ht2
    · refine runJ ?_
      apply cut_normal ()
      · exact Sub.cons rfl (Sub.cons rfl (Sub.cons rfl (Sub.consE rfl (dec_t (.inl ht2)) (Sub.nil _))))
      · exact rfl
    · refine runJ ?_
      apply cut_normal ()
      · exact Sub.cons rfl (Sub.cons rfl (Sub.cons rfl (Sub.consE rfl (dec_i (by omega)) (Sub.nil _))))
      · exact rfl
  rintro _ _ rfl
  (apply w_condD; exact rfl; exact rfl) <;> intro ht
  · refine runJ ?_
    exact fin2 rfl rfl rfl ⟨e12, 1, _, .inr (.inl ⟨rfl, hc, ht⟩), rfl, fun _ => rfl, fun e => by cases e⟩
  have l1 := s2.ins
  have sn2 := sn.ext e12
  refine runJ ?_
  (apply w_condD; exact rfl; exact rfl) <;> intro hlen
  · refine runJ ?_
    refine fin2 rfl rfl rfl ⟨e12, 12, _, .inr (.inr (.inl ⟨rfl, hc, ht, fun hf => hlen ?_⟩)), rfl, fun _ => rfl, fun e => by cases e⟩
    have := congrArg List.length hf
    simpa using this
  have hlen : ir.length = V.ins.length := by omega
  refine runJ ?_
  (first | (apply w_seqB; exact rfl; apply w_block; exact rfl) | skip)
  apply (w_loop (σ := Nat) rfl (fun j => [(1, vN), (2, U t), (3, p1), (36, vN), (37, N ir.length), (38, N j)])
    (fun j h' => h2 = h' ∧ j ≤ ir.length ∧ ∀ (i : Nat) (x : Value × List Int) (y : InD), i < j → ir[i]? = some x → V.ins[i]? = some y → x.2.length = y.sl.length) (fun j => ir.length - j) 0)
  · exact (Sub.cons rfl (Sub.cons rfl (Sub.cons rfl (Sub.cons rfl (Sub.cons rfl (Sub.cons rfl (Sub.nil _)))))))
  · exact ⟨rfl, Nat.zero_le _, fun i x y hi => by omega⟩
  rintro j h' ⟨rfl, j1, j2⟩
  refine runJ ?_
  (apply w_condD; exact rfl; exact rfl) <;> intro hj
  · obtain ⟨x, hx⟩ := get_lt hj
    obtain ⟨y, hy⟩ := get_lt (l := V.ins) (j := j) (by omega)
    have sx := (snr x (List.mem_of_getElem? hx)).ext e12
    have sy := s2.inr y (List.mem_of_getElem? hy)
    unfold InD.cells at l1
    refine runJ ?_
    (apply w_condD; exact rfl; exact rfl) <;> intro hne
    · refine runJ ?_
      exact fin2 rfl rfl rfl ⟨e12, 12, _, .inr (.inr (.inl ⟨rfl, hc, ht, not_fit hx hy hne⟩)), rfl, fun _ => rfl, fun e => by cases e⟩
    · refine runJ ?_
      apply again_normal (j + 1)
      · exact (Sub.cons rfl (Sub.cons rfl (Sub.cons rfl (Sub.cons rfl (Sub.cons rfl (Sub.cons rfl (Sub.nil _)))))))
      · refine ⟨rfl, hj, fun i x' y' hi hx' hy' => ?_⟩
        rcases Nat.lt_succ_iff_lt_or_eq.1 hi with hi | rfl
        · exact j2 i x' y' hi hx' hy'
        · rw [hx] at hx'; rw [hy] at hy'; cases hx'; cases hy'; omega
      · omega
  have hfit : fitP V (ir.map (·.2)) := fit_of hlen fun i x y hx hy => j2 i x y (by have := (List.getElem?_eq_some_iff.1 hx).1; omega) hx hy
  obtain ⟨sn0, hsn⟩ : ∃ n : Nat, V.slots = n := ⟨V.slots.toNat, by have := hc.slots; unfold slotsP at this; omega⟩
  refine runJ ?_
  (apply (s_build ([I V.slots, V.vI, V.vP, V.vC, I V.last, V.vO, U t, vN, .slice none 0 0])); exact rfl; exact rfl; exact rfl; (repeat (first | exact CellsAll.nil | (apply CellsAll.cons; (first | exact oneL (by assumption) | exact oneL (SlF.one (by assumption)) | exact oneL (SlF.one (OwnF.sl (by assumption))) | exact oneL (Var.one (by assumption)) | exact rfl)))); exact rfl; exact rfl)
  refine runJ ?_
  (apply s_box; exact rfl; exact rfl; exact rfl; exact rfl)
  intro m h3 m3 e3 b3
  (try dsimp only [Value.cells, List.toList_toArray] at m3)
  refine ⟨(by first | exact trivial | exact Ext.refl _ | assumption | exact Ext.trans (by assumption) (by assumption)), ?_⟩
  rw [hsn] at m3
  have x3 := x2.ext e3
  have l8 := s2.code
  have l8' := l8.ext e3
  refine runJ ?_
  (first | (apply w_seqB; exact rfl; apply w_block; exact rfl) | skip)
  have hs64 : sn0 ≤ 64 := by have := B.slots; omega
  have hs0 : 0 < sn0 := by have := hc.slots; unfold slotsP at this; omega
  have htp : 0 < t := by omega
  have hcl : V.code.length ≤ 2048 := hc.few
  apply (w_loop (σ := Nat × Value × List (Value × List Nat) × Value × List (Value × List Int)) rfl (fun p => [(2, U t), (10, m), (11, p.2.2.2.1), (60, V.vC), (61, N V.code.length), (62, N p.1)])
    (fun p h' => RunI h h' m ⟨sn0, V, t, vN, ir, p.2.1, p.2.2.1⟩ p.2.2.2.1 p.2.2.2.2 ∧ p.1 ≤ V.code.length ∧ p.2.2.1.map (·.2) = runF V (ir.map (·.2)) sn0 t (V.code.take p.1) ∧ p.2.2.2.2.map (·.2) = told t (p.2.2.1.map (·.2)) ∧ ∀ r ∈ p.2.2.1, r.2.length = sn0 ∧ ∀ y ∈ r.2, y < t)
    (fun p => V.code.length - p.1) (0, .slice none 0 0, [], .slice none 0 0, []))
  · exact (Sub.cons rfl (Sub.cons rfl (Sub.cons rfl (Sub.cons rfl (Sub.cons rfl (Sub.cons rfl (Sub.nil _)))))))
  · refine ⟨⟨e12.trans e3, m3, OwnF.nil _ _ _ _, by simp, OwnF.nil _ _ _ _, by simp, ⟨_, b3, e12.1⟩, by rw [b3]; simp [Value.ownBlock], by rw [b3]; simp [Value.ownBlock], .inl rfl, by simp, by simp⟩, Nat.zero_le _, rfl, rfl, by simp⟩
  rintro ⟨j, vK, kn, vO, out⟩ h4 ⟨r1, r2, r3, r4, r5⟩
  dsimp only at r1 r2 r3 r4 r5 ⊢
  refine runJ ?_
  (apply w_condD; exact rfl; exact rfl) <;> intro hjc
  · obtain ⟨x, hx⟩ := get_lt hjc
    have hform := hc.code j x hx
    obtain ⟨op, to, a, b, k, rfl⟩ := form_nats hform
    have l9 := s.code.ext r1.ext
    have hknl : kn.length = j := by have := congrArg List.length r3; rw [List.length_map, runF_len _ _ _ _ _ _ r2] at this; exact this
    have houtl : out.length = j := by have := congrArg List.length r4; simpa [told, hknl] using this
    refine runJ ?_
    (apply s_alloc; exact rfl; exact rfl; exact rfl)
    intro p4 h5 x5 e5 b5
    (try dsimp only [Value.cells, List.toList_toArray] at x5)
    refine ⟨(by first | exact trivial | exact Ext.refl _ | assumption | exact Ext.trans (by assumption) (by assumption)), ?_⟩
    refine runJ ?_
    apply s_storeV (us := Ins.cells ⟨op, to, a, b, k⟩) rfl rfl rfl (OneAll.cons rfl (OneAll.cons rfl (OneAll.cons rfl (OneAll.cons rfl (OneAll.cons rfl OneAll.nil))))) rfl rfl x5 rfl
    intro h6 x6 k6
    have e6 := k6.oldV e5 b5 (Nat.le_refl _)
    have r6 := r1.extend e6
    refine ⟨trivial, ?_⟩
    have R6 : MachR h6 ⟨sn0, V, t, vN, ir, vK, kn⟩ := ⟨hsn, s.ext r6.ext, sn.ext r6.ext, fun x hx => (snr x hx).ext r6.ext, r6.own.sl, r6.knr⟩
    have B6 : MachB ⟨sn0, V, t, vN, ir, vK, kn⟩ := ⟨hs64, htt, B.ins, B.irb, B.plb, fun x hx => ⟨(r5 x hx).1, fun y hy => by have := (r5 x hx).2 y hy; omega⟩⟩
    have hfit' : (ir.map (·.2)).map (·.length) = V.ins.map (·.sl.length) := hfit
    have S6 := step_ok (D := ⟨sn0, V, t, vN, ir, vK, kn⟩) (irs := ir.map (·.2)) (known := kn.map (·.2)) hform hsn hc.pls hc.ins rfl hfit' rfl (by simpa using hknl)
    obtain ⟨row, hrow⟩ : ∃ row, row = stepF V (ir.map (·.2)) sn0 t (kn.map (·.2)) ⟨op, to, a, b, k⟩ := ⟨_, rfl⟩
    have S6' := stepR_ok S6 htp r5
    dsimp only at S6 S6'
    rw [← hrow] at S6 S6'
    refine runJ ?_
    apply (s_call Try_ent16 rfl rfl rfl)
    refine (step_spec m op to a b k row _ h6 r6.var R6 B6 S6).mono ?_
    rintro u h7 ⟨e7, o7⟩
    refine ⟨(by first | exact trivial | exact trivial), ?_⟩
    have r7 := r6.extend e7
    have M7 := r7.var
    unfold MachD.cells at M7
    have u1 : u.oneCell' = true := o7.sl.one
    have hkn24 : (kn.length + 1) * 24 ≤ 140737488355328 := by omega
    refine runJ ?_
    (refine s_app1V (bytes := 24) ((u, row)) r7.own r7.ext rfl rfl rfl rfl rfl rfl rfl rfl rfl (by first | exact rfl | exact congrArg some (congrArg I (by omega))) u1 rfl rfl (fun _ _ => trivial) (by omega) (by simp only [maxLen]; omega) ?_)
    intro v8 h8 o8 e8 k8 b8
    have M8 := M7.only k8 r7.mK
    have v1 : v8.oneCell' = true := o8.sl.one
    have o8s := o8.sl
    refine runJ ?_
    (apply s_storeC; exact rfl; exact rfl; (first | exact rfl | exact SlF.one (by assumption) | exact SlF.one (OwnF.sl (by assumption)) | exact Var.one (by assumption)); exact rfl; exact rfl; exact M8; exact rfl)
    intro h9 x9 k9
    refine ⟨(by first | exact trivial | exact Ext.refl _ | assumption | exact Ext.only (by assumption) _ | exact Only.trans (Ext.only (by assumption) _) (by assumption)), ?_⟩
    have r9 := r6.pushK e7 o7 o8 k8 b8 x9 k9
    have ur9 : SlF h9 U u row := r9.knr (u, row) (by simp [MachD.push])
    have hrl := S6'.1
    refine runJ ?_
    (apply (s_make (f := I) (bytes := 8) ((0 : Int))); (first | exact isK_c | exact isK_t rfl); (first | exact isK_c | exact isK_t rfl); exact rfl; exact rfl; exact rfl; exact rfl; exact rfl; exact rfl; omega; omega; omega)
    intro w h10 o10 e10 b10
    refine ⟨(by first | exact trivial | exact Ext.refl _ | assumption | exact Ext.trans (by assumption) (by assumption)), ?_⟩
    have ur10 := ur9.ext e10
    refine runJ ?_
    (first | (apply w_seqB; exact rfl; apply w_block; exact rfl) | skip)
    apply (w_loop (σ := Nat) rfl (fun i => [(2, U t), (10, m), (11, vO), (15, w), (60, V.vC), (61, N V.code.length), (62, N j), (82, u), (83, N sn0), (84, N i)])
      (fun i h' => Ext h9 h' ∧ OwnF h' h9.size 3 I w ((row.map fun y => centerm y t).take i ++ List.replicate (sn0 - i) 0) ∧ i ≤ sn0) (fun i => sn0 - i) 0)
    · exact Sub.cons rfl (Sub.cons rfl (Sub.cons rfl (Sub.cons rfl (Sub.cons rfl (Sub.cons rfl (Sub.cons rfl (Sub.cons rfl (Sub.consE rfl (congrArg N hrl) (Sub.cons rfl (Sub.nil _))))))))))
    · refine ⟨e10, ?_, Nat.zero_le _⟩
      rw [hrl] at o10
      simpa using o10
    rintro i h11 ⟨e11, o11, i1⟩
    have ur11 := ur9.ext e11
    refine runJ ?_
    (apply w_condD; exact rfl; exact rfl) <;> intro hi
    · obtain ⟨y, hy⟩ := get_lt (l := row) (j := i) (by rw [hrl]; exact hi)
      have hyt := S6'.2 y (List.mem_of_getElem? hy)
      have hol : i < ((row.map fun y => centerm y t).take i ++ List.replicate (sn0 - i) 0).length := by simp; omega
      have o11s := o11.sl
      refine runJ ?_
      apply (s_call Try_ent17 rfl rfl rfl)
      refine (center_spec y t h11 (by omega) htt).mono ?_
      rintro _ _ ⟨rfl, rfl⟩
      refine ⟨(by first | exact trivial | exact Ext.refl _ | assumption | exact Ext.trans (by assumption) (by assumption)), ?_⟩
      refine runJ ?_
      (apply (s_storeF (centerm y t)); exact rfl; exact rfl; exact rfl; exact rfl; exact rfl; exact o11; exact rfl; (first | assumption | omega))
      intro h12 o12 k12
      refine ⟨(by first | exact trivial | exact Ext.refl _ | assumption | exact Ext.trans (by assumption) (by assumption)), ?_⟩
      have e12' := o11.old k12 e11 (Nat.le_refl _)
      rw [take_set (n := sn0) (x := centerm y t) (by simp [hy]) (by simpa using hrl)] at o12
      refine runJ ?_
      apply again_normal (i + 1)
      · exact (Sub.cons rfl (Sub.cons rfl (Sub.cons rfl (Sub.cons rfl (Sub.cons rfl (Sub.cons rfl (Sub.cons rfl (Sub.cons rfl (Sub.cons rfl (Sub.cons rfl (Sub.nil _)))))))))))
      · exact ⟨e12', o12, hi⟩
      · omega
    · have : i = sn0 := by omega
      subst this
      rw [Nat.sub_self, List.replicate_zero, List.append_nil, List.take_of_length_le (by simp [hrl])] at o11
      have r11 := r9.extend e11
      have w1 : w.oneCell' = true := o11.sl.one
      have hout24 : (out.length + 1) * 24 ≤ 140737488355328 := by omega
      refine runJ ?_
      (refine s_app1V (bytes := 24) ((w, row.map fun y => centerm y t)) r11.ownO r11.ext rfl rfl rfl rfl rfl rfl rfl rfl rfl (by first | exact rfl | exact congrArg some (congrArg I (by omega))) w1 rfl rfl (fun _ _ => trivial) (by omega) (by simp only [maxLen]; omega) ?_)
      intro v12 h12 o12 e12' k12 b12
      have r12 := r9.pushO e11 o11 o12 k12 b12
      refine runJ ?_
      apply again_normal (j + 1, v8, kn ++ [(u, row)], v12, out ++ [(w, row.map fun y => centerm y t)])
      · exact (Sub.cons rfl (Sub.cons rfl (Sub.cons rfl (Sub.cons rfl (Sub.cons rfl (Sub.cons rfl (Sub.nil _)))))))
      · refine ⟨r12, hjc, ?_, ?_, ?_⟩
        · rw [runF_snoc _ _ _ _ _ hx, ← r3, List.map_append, hrow]; rfl
        · simp only [List.map_append, r4, told, List.map_cons, List.map_nil]
        · intro r hr
          rcases List.mem_append.1 hr with hr | hr
          · exact r5 r hr
          · simp only [List.mem_singleton] at hr
            subst hr; exact S6'
      · omega
  · refine runJ ?_
    have : j = V.code.length := by omega
    subst this
    rw [List.take_of_length_le (Nat.le_refl _)] at r3
    have hlens : ∀ l ∈ told t (runF V (ir.map (·.2)) V.slots.toNat t V.code), l.length ≤ 64 := by
      intro l hl
      rw [hsn, Int.toNat_natCast, ← r3] at hl
      simp only [told, List.map_map, List.mem_map, Function.comp] at hl
      obtain ⟨r, hr, rfl⟩ := hl
      rw [List.length_map, (r5 r hr).1]; exact hs64
    have hnum : (told t (runF V (ir.map (·.2)) V.slots.toNat t V.code)).length ≤ 2048 := by
      rw [told, List.length_map, hsn, Int.toNat_natCast]
      have := runF_len V (ir.map (·.2)) sn0 t V.code V.code.length (Nat.le_refl _)
      rw [List.take_of_length_le (Nat.le_refl _)] at this
      rw [this]; exact hcl
    exact fin2 rfl rfl rfl ⟨r1.ext, 0, _, .inr (.inr (.inr ⟨rfl, hc, ht, hfit⟩)), rfl, fun e => absurd rfl e, fun _ => ⟨out, r1.ownO.sl, r1.outr, by rw [hsn, r4, r3]; rfl, hlens, hnum⟩⟩
end Go.Proofs.Ythgpgccmhohfbaa
