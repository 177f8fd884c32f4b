/- Vector programs: the law of centered inputs. No condition. -/
import Derived.Test.YthgpgccmhohfbaaVecK
import Derived.Test.YthgpgccmhohfbaaOpenV
namespace Go.Proofs.Ythgpgccmhohfbaa
set_option linter.unusedVariables false
open Go Go.Den Go.RowKit

theorem centerm_bd (a m : Nat) (ha : a < 18446744073709551616) : ib (centerm a m) := by
  unfold centerm ib
  split
  · omega
  · rename_i h
    have := Nat.mod_lt a (show 0 < m by omega)
    split <;> omega
theorem lift_center {a m : Nat} (h0 : ¬ m = 0) (h1 : ¬ 4611686018427387904 < m) (ha : a < m) : liftm (centerm a m) m = a := by
  rw [liftm, if_neg h0, centerm, if_neg (by omega), Nat.mod_eq_of_lt ha]
  split
  · have e : ((a : Int) - (m : Int)) = (a : Int) + (m : Int) * (-1) := by omega
    rw [e, Int.add_mul_emod_self_left, ← Int.natCast_emod, Int.toNat_natCast, Nat.mod_eq_of_lt ha]
  · rw [← Int.natCast_emod, Int.toNat_natCast, Nat.mod_eq_of_lt ha]

def recenter (t : Nat) (z : Int) : Int := centerm (liftm z t) t
theorem recenter_lift {t : Nat} (h0 : 2 ≤ t) (h1 : t ≤ 1073741824) (z : Int) : liftm (recenter t z) t = liftm z t := lift_center (by omega) (by omega) (liftm_lt (by omega))

theorem foldl_put_map {t : Nat} {g : Int → Int} (hg : ∀ z, liftm (g z) t = liftm z t) : ∀ (ps : List (Int × Int)) (o : List Nat), (ps.map fun p => (p.1, g p.2)).foldl (putN t) o = ps.foldl (putN t) o
  | [], o => rfl
  | p :: ps, o => by
    rw [List.map_cons, List.foldl_cons, List.foldl_cons, foldl_put_map hg ps]
    unfold putN
    simp only [hg]
theorem inputN_map {t s : Nat} {g : Int → Int} (hg : ∀ z, liftm (g z) t = liftm z t) (sl l : List Int) : inputN sl (l.map g) s t = inputN sl l s t := by
  unfold inputN
  rw [List.zip_map_right]
  exact foldl_put_map hg (sl.zip l) (List.replicate s 0)
theorem stepF_map {V : VecD} {s t : Nat} {g : Int → Int} (hg : ∀ z, liftm (g z) t = liftm z t) (irs : List (List Int)) (kn : List (List Nat)) (x : Ins) : stepF V (irs.map (·.map g)) s t kn x = stepF V irs s t kn x := by
  unfold stepF
  have : (irs.map (·.map g)).getD x.k.toNat [] = (irs.getD x.k.toNat []).map g := by
    rw [List.getD_eq_getElem?_getD, List.getD_eq_getElem?_getD, List.getElem?_map]
    cases irs[x.k.toNat]? <;> rfl
  rw [this, inputN_map hg]
theorem foldl_congr {α β : Type} {f g : β → α → β} (h : ∀ b a, f b a = g b a) : ∀ (l : List α) (b : β), l.foldl f b = l.foldl g b
  | [], b => rfl
  | a :: l, b => by rw [List.foldl_cons, List.foldl_cons, h, foldl_congr h l]
theorem runF_map {V : VecD} {s t : Nat} {g : Int → Int} (hg : ∀ z, liftm (g z) t = liftm z t) (irs : List (List Int)) (code : List Ins) : runF V (irs.map (·.map g)) s t code = runF V irs s t code := by
  unfold runF
  exact foldl_congr (fun kn x => by rw [stepF_map hg]) _ _
theorem fitP_map {V : VecD} {g : Int → Int} (irs : List (List Int)) : fitP V (irs.map (·.map g)) ↔ fitP V irs := by
  unfold fitP
  rw [List.map_map]
  have : ((fun l : List Int => l.length) ∘ fun l : List Int => l.map g) = fun l => l.length := by funext l; simp
  rw [this]

/-- Rows that grow. -/
structure OutI (h0 h : Hp) (vO : Value) (out : List (Value × List Int)) : Prop where mk ::
  ext : Ext h0 h
  ownO : OwnF h h0.size 25 Prod.fst vO out
  outr : ∀ x ∈ out, SlF h I x.1 x.2
  outb : ∀ x ∈ out, ∀ k, x.1.ownBlock = some k → k < h.size ∧ some k ≠ vO.ownBlock
theorem OutI.extend {h0 h h' : Hp} {vO : Value} {out : List (Value × List Int)} (k : OutI h0 h vO out) (e : Ext h h') : OutI h0 h' vO out :=
  ⟨k.ext.trans e, k.ownO.ext e, fun x hx => (k.outr x hx).ext e, fun x hx j hj => ⟨Nat.lt_of_lt_of_le (k.outb x hx j hj).1 e.1, (k.outb x hx j hj).2⟩⟩
theorem OutI.push {h0 h h2 h3 : Hp} {vO : Value} {out : List (Value × List Int)} (k : OutI h0 h vO out) {u v : Value} {row : List Int} (e2 : Ext h h2) (o2 : OwnF h2 h.size 3 I u row)
    (o3 : OwnF h3 h0.size 25 Prod.fst v (out ++ [(u, row)])) (k3 : Only vO.ownBlock h2 h3) (b3 : v.ownBlock = vO.ownBlock ∨ ∃ b, v.ownBlock = some b ∧ h2.size ≤ b) : OutI h0 h3 v (out ++ [(u, row)]) := by
  have hOlt : ∀ j, vO.ownBlock = some j → h0.size ≤ j ∧ j < h.size := k.ownO.blk
  have hu : ∀ j, u.ownBlock = some j → h.size ≤ j ∧ j < h2.size := o2.blk
  have s2 := e2.1
  have s3 := k3.1
  have vn : ∀ j, j < h2.size → some j ≠ vO.ownBlock → some j ≠ v.ownBlock := fun j hj hne => by
    rcases b3 with b3 | ⟨b, hb, hlt⟩
    · rw [b3]; exact hne
    · rw [hb]; intro e; cases e; omega
  have e3 : Ext h0 h3 := k3.old (k.ext.trans e2) fun j hj => (hOlt j hj).1
  refine ⟨e3, o3, ?_, ?_⟩
  · intro x hx
    rcases List.mem_append.1 hx with hx | hx
    · exact ((k.outr x hx).ext e2).only k3 (ne_of_some fun j hj => (k.outb x hx j hj).2)
    · simp only [List.mem_singleton] at hx
      subst hx
      exact o2.sl.only k3 (ne_of_some fun j hj e => by have := hu j hj; have := hOlt j e.symm; omega)
  · intro x hx j hj
    rcases List.mem_append.1 hx with hx | hx
    · obtain ⟨g1, g2⟩ := k.outb x hx j hj
      exact ⟨by omega, vn j (by omega) g2⟩
    · simp only [List.mem_singleton] at hx
      subst hx
      have := hu j hj
      exact ⟨by omega, vn j (by omega) fun e => by have := hOlt j e.symm; omega⟩

theorem Try_ent4 : Ent Try.prog 4 := ent_of Try.func4 (by kernel_rfl) rfl
set_option maxHeartbeats 1000000 in
theorem vectorModulo_law (V : VecD) (vN : Value) (ir : List (Value × List Int)) (t : Nat) (h : Hp) (s : VecAt h V) (hpb : ∀ x ∈ V.pls, ∀ z ∈ x.2, ib z) (sn : SlF h Prod.fst vN ir) (snr : ∀ x ∈ ir, RowI h x) (htt : t < 18446744073709551616) :
    CallsH Try.prog 4 [.agg V.cells.toArray, vN, U t] h fun v' h' => v' = .bool true ∧ Ext h h' := by
  (apply enter Try.func4 rfl Try.ntmps4 rfl)
  refine runJ ?_
  (apply s_box; exact rfl; exact rfl; exact rfl; exact rfl)
  intro p1 h1 x1 e1 b1
  (try dsimp only [Value.cells, List.toList_toArray] at x1)
  refine ⟨(by first | exact trivial | exact Ext.refl _ | assumption | exact Ext.trans (by assumption) (by assumption)), ?_⟩
  refine runJ ?_
  apply (s_call Try_ent6 rfl rfl rfl)
  refine (fixed_spec h1).mono ?_
  rintro _ h2 ⟨rfl, e2⟩
  refine ⟨(by first | exact trivial | exact trivial), ?_⟩
  have x2 := x1.ext e2
  have e12 := e1.trans e2
  have s2 := s.ext e12
  refine runJ ?_
  apply (s_call Try_ent7 rfl rfl rfl)
  refine (few_spec V h2 s2).mono ?_
  rintro _ h3 ⟨⟨b, rfl, hf⟩, e3⟩
  refine ⟨(by first | exact trivial | exact trivial), ?_⟩
  have e13 := e12.trans e3
  have x3 := x2.ext e3
  have sn3 := sn.ext e13
  refine runJ ?_
  cases b with
  | false =>
    refine runJ ?_
    exact fin1 rfl rfl ⟨rfl, e13⟩
  | true =>
  have hf := hf rfl
  refine runJ ?_
  apply (s_call Try_ent8 rfl rfl rfl)
  refine (fewI_spec vN ir h3 sn3 (fun x hx => (snr x hx).1.ext e13)).mono ?_
  rintro _ _ ⟨⟨b, rfl, hfi⟩, rfl⟩
  refine ⟨(by first | exact trivial | exact trivial), ?_⟩
  refine runJ ?_
  cases b with
  | false =>
    refine runJ ?_
    exact fin1 rfl rfl ⟨rfl, e13⟩
  | true =>
  obtain ⟨hf1, hf2⟩ := hfi rfl
  refine runJ ?_
  apply (w_loop (σ := Nat × Value × List (Value × List Int)) rfl (fun p => [(1, vN), (2, U t), (3, p1), (7, p.2.1), (29, vN), (30, N ir.length), (31, N p.1)])
    (fun p h' => OutI h3 h' p.2.1 p.2.2 ∧ p.1 ≤ ir.length ∧ p.2.2.map (·.2) = ((ir.take p.1).map (·.2)).map (·.map (recenter t))) (fun p => ir.length - p.1) (0, .slice none 0 0, []))
  · exact (Sub.cons rfl (Sub.cons rfl (Sub.cons rfl (Sub.cons rfl (Sub.cons rfl (Sub.cons rfl (Sub.cons rfl (Sub.nil _))))))))
  · exact ⟨⟨Ext.refl _, OwnF.nil _ _ _ _, by simp, by simp⟩, Nat.zero_le _, rfl⟩
  rintro ⟨j, vO, out⟩ h4 ⟨r1, r2, r3⟩
  dsimp only at r1 r2 r3 ⊢
  have x4 := x3.ext r1.ext
  have sn4 := sn3.ext r1.ext
  have houtl : out.length = j := by have := congrArg List.length r3; simpa [Nat.min_eq_left r2] using this
  refine runJ ?_
  (apply w_condD; exact rfl; exact rfl) <;> intro hj
  · obtain ⟨x, hx⟩ := get_lt hj
    have hxm := List.mem_of_getElem? hx
    have lx := (snr x hxm).1.ext (e13.trans r1.ext)
    have hxl := hf2 x hxm
    refine runJ ?_
    (first | (apply w_seqB; exact rfl; apply w_block; exact rfl) | skip)
    apply (w_loop (σ := Nat × Value) rfl (fun p => [(1, vN), (2, U t), (3, p1), (7, vO), (10, p.2), (29, vN), (30, N ir.length), (31, N j), (35, x.1), (36, N x.2.length), (37, N p.1)])
      (fun p h' => Ext h4 h' ∧ OwnF h' h4.size 3 I p.2 ((x.2.take p.1).map (recenter t)) ∧ p.1 ≤ x.2.length) (fun p => x.2.length - p.1) (0, .slice none 0 0))
    · exact (Sub.cons rfl (Sub.cons rfl (Sub.cons rfl (Sub.cons rfl (Sub.cons rfl (Sub.cons rfl (Sub.cons rfl (Sub.cons rfl (Sub.cons rfl (Sub.cons rfl (Sub.cons rfl (Sub.nil _))))))))))))
    · exact ⟨Ext.refl _, OwnF.nil _ _ _ _, Nat.zero_le _⟩
    rintro ⟨i, m⟩ h5 ⟨e5, o5, i1⟩
    dsimp only at e5 o5 i1 ⊢
    have lx5 := lx.ext e5
    refine runJ ?_
    (apply w_condD; exact rfl; exact rfl) <;> intro hi
    · obtain ⟨z, hz⟩ := get_lt hi
      have hzb : ib64 z := (snr x hxm).2.1 z (List.mem_of_getElem? hz)
      refine runJ ?_
      apply (s_call Try_ent13 rfl rfl rfl)
      refine (refLift_spec z t h5 hzb htt).mono ?_
      rintro _ _ ⟨rfl, rfl⟩
      refine ⟨(by first | exact trivial | exact Ext.refl _ | assumption | exact Ext.trans (by assumption) (by assumption)), ?_⟩
      refine runJ ?_
      apply (s_call Try_ent12 rfl rfl rfl)
      refine (refCenter_spec (liftm z t) t h5 (liftm_lt' htt) htt).mono ?_
      rintro _ _ ⟨rfl, rfl⟩
      refine ⟨(by first | exact trivial | exact Ext.refl _ | assumption | exact Ext.trans (by assumption) (by assumption)), ?_⟩
      have hol : ((x.2.take i).map (recenter t)).length ≤ 200 := by simp; omega
      refine runJ ?_
      (refine s_app1 (bytes := 8) (recenter t z) o5 e5 rfl rfl rfl rfl rfl rfl rfl rfl rfl (by first | exact rfl | exact congrArg some (congrArg I (by omega))) (fun _ => rfl) rfl rfl (fun _ _ => trivial) (by omega) (by simp only [maxLen]; omega) ?_)
      intro m' h6 o6 e6 k6 b6
      refine runJ ?_
      apply again_normal (i + 1, m')
      · exact (Sub.cons rfl (Sub.cons rfl (Sub.cons rfl (Sub.cons rfl (Sub.cons rfl (Sub.cons rfl (Sub.cons rfl (Sub.cons rfl (Sub.cons rfl (Sub.cons rfl (Sub.cons rfl (Sub.nil _))))))))))))
      · refine ⟨e6, ?_, hi⟩
        rw [take_snoc hz, List.map_append]; exact o6
      · simp only []; omega
    · have : i = x.2.length := by omega
      subst this
      rw [List.take_of_length_le (Nat.le_refl _)] at o5
      have r5 := r1.extend e5
      have m1 : m.oneCell' = true := o5.sl.one
      have hout24 : (out.length + 1) * 24 ≤ 140737488355328 := by omega
      refine runJ ?_
      (refine s_app1V (bytes := 24) ((m, x.2.map (recenter t))) r5.ownO r5.ext rfl rfl rfl rfl rfl rfl rfl rfl rfl (by first | exact rfl | exact congrArg some (congrArg I (by omega))) m1 rfl rfl (fun _ _ => trivial) (by omega) (by simp only [maxLen]; omega) ?_)
      intro v12 h12 o12 e12' k12 b12
      have r12 := r1.push e5 o5 o12 k12 b12
      refine runJ ?_
      apply again_normal (j + 1, v12, out ++ [(m, x.2.map (recenter t))])
      · exact (Sub.cons rfl (Sub.cons rfl (Sub.cons rfl (Sub.cons rfl (Sub.cons rfl (Sub.cons rfl (Sub.cons rfl (Sub.nil _))))))))
      · refine ⟨r12, hj, ?_⟩
        rw [take_snoc hx, List.map_append, List.map_append, List.map_append, r3]; rfl
      · simp only []; omega
  have : j = ir.length := by omega
  subst this
  rw [List.take_of_length_le (Nat.le_refl _)] at r3
  have e14 := e13.trans r1.ext
  have s4 := s.ext e14
  have snr4 : ∀ x ∈ ir, SlF h4 I x.1 x.2 := fun x hx => (snr x hx).1.ext e14
  have B4 : RunB V ir t := ⟨hf.slots, hf.inr, fun x hx => (snr x hx).2.1, fun x hx => by have := hf2 x hx; omega, by omega, hpb, htt⟩
  have F1 := run_spec V vN ir t h4 s4 hf.l B4 sn4 snr4
  refine runJ ?_
  refine s_tcut (σ := Unit) (fun _ => [(1, vN), (2, U t), (3, p1), (7, vO), (60, .bool (decide (t < 2 ∨ 1073741824 < t)))]) (fun _ h' => h4 = h') ?_ ?_
  · (apply s_splitG; exact rfl; exact rfl; exact rfl; exact rfl) <;> intro ht2
    · refine runJ ?_
      apply cut_normal ()
      · exact Sub.cons rfl (Sub.cons rfl (Sub.cons rfl (Sub.cons rfl (Sub.consE rfl (dec_t (.inl ht2)) (Sub.nil _)))))
      · exact rfl
    · refine runJ ?_
      apply cut_normal ()
      · exact Sub.cons rfl (Sub.cons rfl (Sub.cons rfl (Sub.cons rfl (Sub.consE rfl (dec_i (by omega)) (Sub.nil _)))))
      · exact rfl
  rintro _ _ rfl
  (apply w_condD; exact rfl; exact rfl) <;> intro ht
  · refine runJ ?_
    apply (s_call Try_ent9 rfl rfl rfl)
    refine (F1).mono ?_
    rintro _ h8 ⟨e8, e, u, hE, rfl, -, hO⟩
    refine ⟨(by first | exact trivial | exact trivial), ?_⟩
    have he : e ≠ 0 := by
      rintro rfl
      unfold RunE at hE
      simp at hE
      omega
    refine runJ ?_
    exact fin1 rfl rfl ⟨(dec_t he).symm, e14.trans e8⟩
  refine runJ ?_
  apply (s_call Try_ent9 rfl rfl rfl)
  refine (F1).mono ?_
  rintro _ h8 ⟨e8, e, u, hE, rfl, hN, hO⟩
  refine ⟨(by first | exact trivial | exact trivial), ?_⟩
  have r8 := r1.extend e8
  have x8 := x4.ext e8
  have hirs : out.map (·.2) = (ir.map (·.2)).map (·.map (recenter t)) := r3
  have hmem2 : ∀ l ∈ out.map (·.2), ∃ x ∈ ir, l = x.2.map (recenter t) := fun l hl => by
    rw [hirs] at hl
    simp only [List.map_map, List.mem_map, Function.comp] at hl
    obtain ⟨x, hx, rfl⟩ := hl
    exact ⟨x, hx, rfl⟩
  have B8 : RunB V out t := ⟨hf.slots, hf.inr, fun y hy z hz => by
      obtain ⟨x, hx, e⟩ := hmem2 y.2 (List.mem_map.2 ⟨y, hy, rfl⟩)
      rw [e] at hz
      obtain ⟨z', -, rfl⟩ := List.mem_map.1 hz
      exact centerm_bd _ _ (liftm_lt' htt), fun y hy => by
      obtain ⟨x, hx, e⟩ := hmem2 y.2 (List.mem_map.2 ⟨y, hy, rfl⟩)
      rw [e]; have := hf2 x hx; simp; omega, by omega, hpb, htt⟩
  have F2 := run_spec V vO out t h8 (s4.ext e8) hf.l B8 r8.ownO.sl r8.outr
  refine runJ ?_
  apply (s_call Try_ent9 rfl rfl rfl)
  refine (F2).mono ?_
  rintro _ h9 ⟨e9, e', u', hE', rfl, hN', hO'⟩
  refine ⟨(by first | exact trivial | exact trivial), ?_⟩
  have hg := fun z => recenter_lift (t := t) (by omega) (by omega) z
  rw [hirs] at hE' hO'
  have hee : e = e' := by
    refine hE.same ?_
    unfold RunE at hE' ⊢
    rwa [fitP_map] at hE'
  subst hee
  rw [runF_map hg] at hO'
  have e19 := (e14.trans e8).trans e9
  refine runJ ?_
  (apply s_splitG; exact rfl; exact rfl; exact rfl; exact rfl)
  rotate_left
  · intro hn; exact absurd rfl hn
  intro _
  obtain ⟨rows, q1, q2, q3, q4, q5⟩ : RunO h9 u ((if e = 0 then told t (runF V (ir.map (·.2)) V.slots.toNat t V.code) else [])) := by
    split
    · obtain ⟨o, q1, q2, q3⟩ := hO ‹_›
      exact ⟨o, q1.ext e9, fun x hx => (q2 x hx).ext e9, q3⟩
    · rw [hN ‹_›]; exact ⟨[], SlF.nil _ _, by simp, rfl, by simp, by simp⟩
  obtain ⟨rows', q1', q2', q3', q4', q5'⟩ : RunO h9 u' ((if e = 0 then told t (runF V (ir.map (·.2)) V.slots.toNat t V.code) else [])) := by
    split
    · exact hO' ‹_›
    · rw [hN' ‹_›]; exact ⟨[], SlF.nil _ _, by simp, rfl, by simp, by simp⟩
  generalize (if e = 0 then told t (runF V (ir.map (·.2)) V.slots.toNat t V.code) else []) = R at q3 q4 q5 q3' q4' q5'
  subst q3
  refine runJ ?_
  apply (s_call Try_ent11 rfl rfl rfl)
  refine (sameRows_spec u u' rows rows' h9 q1 q1' q2 q2' (by rw [List.length_map] at q5; omega) (by rw [← q3', List.length_map] at q5'; omega) (fun x hx => by have := q4 x.2 (List.mem_map.2 ⟨x, hx, rfl⟩); omega)).mono ?_
  rintro _ _ ⟨rfl, rfl⟩
  refine ⟨(by first | exact trivial | exact Ext.refl _ | assumption | exact Ext.trans (by assumption) (by assumption)), ?_⟩
  refine runJ ?_
  exact fin1 rfl rfl ⟨(dec_t q3'.symm).symm, e19⟩
end Go.Proofs.Ythgpgccmhohfbaa
