/- Vector programs: the reference's run, and the law that compares. No condition. -/
import Derived.Test.YthgpgccmhohfbaaVecP
namespace Go.Proofs.Ythgpgccmhohfbaa
set_option linter.unusedVariables false
open Go Go.Den Go.RowKit

theorem Try_ent10 : Ent Try.prog 10 := ent_of Try.func10 (by kernel_rfl) rfl
set_option maxHeartbeats 4000000 in
theorem refRun_spec (V : VecD) (vN : Value) (ir : List (Value × List Int)) (t : Nat) (h : Hp) (s : VecAt h V) (sl : VecL V) (B : RunB V ir t) (sn : SlF h Prod.fst vN ir) (snr : ∀ x ∈ ir, SlF h I x.1 x.2) :
    CallsH Try.prog 10 [.agg V.cells.toArray, vN, U t] h fun v' h' => Ext h h' ∧ RunA V (ir.map (·.2)) t v' h' := by
  have hirn := B.irn
  have hin := sl.ins
  have htt := B.t
  unfold RunA
  (apply enter Try.func10 rfl Try.ntmps10 rfl)
  refine runJ ?_
  (apply s_box; exact rfl; exact rfl; exact rfl; exact rfl)
  intro p1 h1 x1 e1 b1
  (try dsimp only [Value.cells, List.toList_toArray] at x1)
  refine ⟨(by first | exact trivial | exact Ext.refl _ | assumption | exact Ext.trans (by assumption) (by assumption)), ?_⟩
  have s1 := s.ext e1
  refine runJ ?_
  apply (s_call Try_ent18 rfl rfl rfl)
  refine (refCheck_spec V h1 s1 sl B.slots).mono ?_
  rintro _ h2 ⟨hcd, e2⟩
  refine ⟨(by first | exact trivial | exact trivial), ?_⟩
  rcases hcd with ⟨rfl, hc⟩ | ⟨rfl, hc⟩
  rotate_left
  · refine runJ ?_
    exact fin2 rfl rfl rfl ⟨e1.trans e2, 3, _, .inl ⟨rfl, hc⟩, rfl, fun _ => rfl, fun e => by cases e⟩
  have x2 := x1.ext e2
  have e12 := e1.trans e2
  have s2 := s.ext e12
  refine runJ ?_
  refine s_tcut (σ := Unit) (fun _ => [(1, vN), (2, U t), (3, p1), (26, .bool (decide (t < 2 ∨ 1073741824 < t)))]) (fun _ h' => h2 = h') ?_ ?_
  · (apply s_splitG; exact rfl; exact rfl; exact rfl; exact rfl) <;> intro ht2
    · refine runJ ?_
      apply cut_normal ()
      · exact Sub.cons rfl (Sub.cons rfl (Sub.cons rfl (Sub.consE rfl (dec_t (.inl ht2)) (Sub.nil _))))
      · exact rfl
    · refine runJ ?_
      apply cut_normal ()
      · exact Sub.cons rfl (Sub.cons rfl (Sub.cons rfl (Sub.consE rfl (dec_i (by omega)) (Sub.nil _))))
      · exact rfl
  rintro _ _ rfl
  (apply w_condD; exact rfl; exact rfl) <;> intro ht
  · refine runJ ?_
    exact fin2 rfl rfl rfl ⟨e12, 1, _, .inr (.inl ⟨rfl, hc, ht⟩), rfl, fun _ => rfl, fun e => by cases e⟩
  have l1 := s2.ins
  have sn2 := sn.ext e12
  refine runJ ?_
  (apply w_condD; exact rfl; exact rfl) <;> intro hlen
  · refine runJ ?_
    refine fin2 rfl rfl rfl ⟨e12, 12, _, .inr (.inr (.inl ⟨rfl, hc, ht, fun hf => hlen ?_⟩)), rfl, fun _ => rfl, fun e => by cases e⟩
    have := congrArg List.length hf
    simpa using this
  have hlen : ir.length = V.ins.length := by omega
  refine runJ ?_
  (first | (apply w_seqB; exact rfl; apply w_block; exact rfl) | skip)
  apply (w_loop (σ := Nat) rfl (fun j => [(1, vN), (2, U t), (3, p1), (33, vN), (34, N ir.length), (35, N j)])
    (fun j h' => h2 = h' ∧ j ≤ ir.length ∧ ∀ (i : Nat) (x : Value × List Int) (y : InD), i < j → ir[i]? = some x → V.ins[i]? = some y → x.2.length = y.sl.length) (fun j => ir.length - j) 0)
  · exact (Sub.cons rfl (Sub.cons rfl (Sub.cons rfl (Sub.cons rfl (Sub.cons rfl (Sub.cons rfl (Sub.nil _)))))))
  · exact ⟨rfl, Nat.zero_le _, fun i x y hi => by omega⟩
  rintro j h' ⟨rfl, j1, j2⟩
  refine runJ ?_
  (apply w_condD; exact rfl; exact rfl) <;> intro hj
  · obtain ⟨x, hx⟩ := get_lt hj
    obtain ⟨y, hy⟩ := get_lt (l := V.ins) (j := j) (by omega)
    have sx := (snr x (List.mem_of_getElem? hx)).ext e12
    have sy := s2.inr y (List.mem_of_getElem? hy)
    unfold InD.cells at l1
    refine runJ ?_
    (apply w_condD; exact rfl; exact rfl) <;> intro hne
    · refine runJ ?_
      exact fin2 rfl rfl rfl ⟨e12, 12, _, .inr (.inr (.inl ⟨rfl, hc, ht, not_fit hx hy hne⟩)), rfl, fun _ => rfl, fun e => by cases e⟩
    · refine runJ ?_
      apply again_normal (j + 1)
      · exact (Sub.cons rfl (Sub.cons rfl (Sub.cons rfl (Sub.cons rfl (Sub.cons rfl (Sub.cons rfl (Sub.nil _)))))))
      · refine ⟨rfl, hj, fun i x' y' hi hx' hy' => ?_⟩
        rcases Nat.lt_succ_iff_lt_or_eq.1 hi with hi | rfl
        · exact j2 i x' y' hi hx' hy'
        · rw [hx] at hx'; rw [hy] at hy'; cases hx'; cases hy'; omega
      · omega
  have hfit : fitP V (ir.map (·.2)) := fit_of hlen fun i x y hx hy => j2 i x y (by have := (List.getElem?_eq_some_iff.1 hx).1; omega) hx hy
  obtain ⟨sn0, hsn⟩ : ∃ n : Nat, V.slots = n := ⟨V.slots.toNat, by have := hc.slots; unfold slotsP at this; omega⟩
  have hs64 : sn0 ≤ 64 := by have := B.slots; omega
  have hs0 : 0 < sn0 := by have := hc.slots; unfold slotsP at this; omega
  have htp : 0 < t := by omega
  have hcl : V.code.length ≤ 2048 := hc.few
  have l8 := s2.code
  unfold VecD.cells at x2
  rw [hsn] at x2
  refine runJ ?_
  (first | (apply w_seqB; exact rfl; apply w_block; exact rfl) | skip)
  apply (w_loop (σ := Nat × Value × List (Value × List Int) × List (List Nat)) rfl (fun p => [(1, vN), (2, U t), (3, p1), (11, p.2.1), (52, V.vC), (53, N V.code.length), (54, N p.1)])
    (fun p h' => OutI h2 h' p.2.1 p.2.2.1 ∧ p.1 ≤ V.code.length ∧ p.2.2.2 = runF V (ir.map (·.2)) sn0 t (V.code.take p.1) ∧ KnT sn0 t p.2.2.2 p.2.2.1)
    (fun p => V.code.length - p.1) (0, .slice none 0 0, [], []))
  · exact (Sub.cons rfl (Sub.cons rfl (Sub.cons rfl (Sub.cons rfl (Sub.cons rfl (Sub.cons rfl (Sub.cons rfl (Sub.nil _))))))))
  · exact ⟨⟨Ext.refl _, OwnF.nil _ _ _ _, by simp, by simp⟩, Nat.zero_le _, rfl, ⟨by simp, rfl⟩⟩
  rintro ⟨j, vO, out, kn⟩ h4 ⟨r1, r2, r3, r5⟩
  dsimp only at r1 r2 r3 r5 ⊢
  have e14 := e12.trans r1.ext
  have x4 := x2.ext r1.ext
  refine runJ ?_
  (apply w_condD; exact rfl; exact rfl) <;> intro hjc
  · obtain ⟨x, hx⟩ := get_lt hjc
    have hform := hc.code j x hx
    obtain ⟨op, to, a, b, k, rfl⟩ := form_nats hform
    have l9 := s.code.ext e14
    have hknl : kn.length = j := by rw [r3, runF_len _ _ _ _ _ _ r2]
    have houtl : out.length = j := by have := congrArg List.length r5.tl; simpa [told, hknl] using this
    refine runJ ?_
    (apply s_alloc; exact rfl; exact rfl; exact rfl)
    intro p4 h5 x5 e5 b5
    (try dsimp only [Value.cells, List.toList_toArray] at x5)
    refine ⟨(by first | exact trivial | exact Ext.refl _ | assumption | exact Ext.trans (by assumption) (by assumption)), ?_⟩
    refine runJ ?_
    apply s_storeV (us := Ins.cells ⟨op, to, a, b, k⟩) rfl rfl rfl (OneAll.cons rfl (OneAll.cons rfl (OneAll.cons rfl (OneAll.cons rfl (OneAll.cons rfl OneAll.nil))))) rfl rfl x5 rfl
    intro h6 x6 k6
    have e6 := k6.oldV e5 b5 (Nat.le_refl _)
    have r6 := r1.extend e6
    refine ⟨trivial, ?_⟩
    have x46 := x4.ext e6
    have hD : (kn.map fun r => ((.bool false : Value), r)).map (·.2) = kn := by rw [List.map_map]; exact List.map_id kn
    have hfit' : (ir.map (·.2)).map (·.length) = V.ins.map (·.sl.length) := hfit
    have S6 := step_ok (D := ⟨sn0, V, t, vN, ir, .bool false, kn.map fun r => (.bool false, r)⟩) (irs := ir.map (·.2)) (known := kn) hform hsn hc.pls hc.ins rfl hfit' hD hknl
    have S6' := stepR_ok S6 htp (by
      intro r hr
      obtain ⟨q, hq, rfl⟩ := List.mem_map.1 hr
      exact r5.len q hq)
    obtain ⟨row, hrow⟩ : ∃ row, row = stepF V (ir.map (·.2)) sn0 t kn ⟨op, to, a, b, k⟩ := ⟨_, rfl⟩
    dsimp only at S6 S6'
    rw [← hrow] at S6 S6'
    have hrl := S6'.1
    refine runJ ?_
    (apply (s_make (f := I) (bytes := 8) ((0 : Int))); (first | exact isK_c | exact isK_t rfl); (first | exact isK_c | exact isK_t rfl); exact rfl; exact rfl; exact rfl; exact rfl; exact rfl; exact rfl; omega; omega; omega)
    intro w h10 o10 e10 b10
    refine ⟨(by first | exact trivial | exact Ext.refl _ | assumption | exact Ext.trans (by assumption) (by assumption)), ?_⟩
    refine runJ ?_
    (first | (apply w_seqB; exact rfl; apply w_block; exact rfl) | skip)
    apply (w_loop (σ := Nat) rfl (fun i => [(1, vN), (2, U t), (3, p1), (11, vO), (13, p4), (14, w), (52, V.vC), (53, N V.code.length), (54, N j), (61, w), (62, N sn0), (63, N i)])
      (fun i h' => Ext h6 h' ∧ OwnF h' h6.size 3 I w ((row.map fun y => centerm y t).take i ++ List.replicate (sn0 - i) 0) ∧ i ≤ sn0) (fun i => sn0 - i) 0)
    · exact Sub.cons rfl (Sub.cons rfl (Sub.cons rfl (Sub.cons rfl (Sub.cons rfl (Sub.cons rfl (Sub.cons rfl (Sub.cons rfl (Sub.cons rfl (Sub.cons rfl (Sub.consE rfl (congrArg N (by simp)) (Sub.cons rfl (Sub.nil _))))))))))))
    · refine ⟨e10, ?_, Nat.zero_le _⟩
      simpa using o10
    rintro i h11 ⟨e11, o11, i1⟩
    have x11 := x46.ext e11
    have p11 := x6.ext e11
    refine runJ ?_
    (apply w_condD; exact rfl; exact rfl) <;> intro hi
    · have e16 := e14.trans (e6.trans e11)
      have A := at_spec op to a b k i row ⟨sn0, V, t, vN, ir, .bool false, kn.map fun r => (.bool false, r)⟩ vO out h11 (s.ext e16) hsn hs64 (r6.extend e11).ownO.sl (r6.extend e11).outr (sn.ext e16) (fun x hx => (snr x hx).ext e16)
        (by dsimp only; rw [hD]; exact r5) (by dsimp only; omega) (by dsimp only; omega) B.irb B.plb B.ins (by dsimp only; rw [← hsn]; exact hc.ins) hi
        (by
          intro h1 h2
          dsimp only
          rw [List.length_map, hknl]
          unfold formP at hform
          dsimp only at hform
          omega)
        (by
          rintro rfl
          dsimp only
          unfold formP at hform
          dsimp only at hform
          omega) S6
      unfold VecD.cells at A
      dsimp only at A
      rw [hsn] at A
      have o11s := o11.sl
      refine runJ ?_
      apply (s_call Try_ent19 rfl rfl rfl)
      refine (A).mono ?_
      rintro _ h12 ⟨e12', y, rfl, hy, hy64⟩
      refine ⟨(by first | exact trivial | exact trivial), ?_⟩
      have o12 := o11.ext e12'
      have e12'' := e11.trans e12'
      have hol : i < ((row.map fun y => centerm y t).take i ++ List.replicate (sn0 - i) 0).length := by simp; omega
      have o12s := o12.sl
      refine runJ ?_
      apply (s_call Try_ent12 rfl rfl rfl)
      refine (refCenter_spec y t h12 hy64 htt).mono ?_
      rintro _ _ ⟨rfl, rfl⟩
      refine ⟨(by first | exact trivial | exact Ext.refl _ | assumption | exact Ext.trans (by assumption) (by assumption)), ?_⟩
      refine runJ ?_
      (apply (s_storeF (centerm y t)); exact rfl; exact rfl; exact rfl; exact rfl; exact rfl; exact o12; exact rfl; (first | assumption | omega))
      intro h13 o13 k13
      refine ⟨(by first | exact trivial | exact Ext.refl _ | assumption | exact Ext.trans (by assumption) (by assumption)), ?_⟩
      have e13 := o12.old k13 e12'' (Nat.le_refl _)
      rw [take_set (n := sn0) (x := centerm y t) (by simp [hy]) (by simpa using hrl)] at o13
      refine runJ ?_
      apply again_normal (i + 1)
      · exact (Sub.cons rfl (Sub.cons rfl (Sub.cons rfl (Sub.cons rfl (Sub.cons rfl (Sub.cons rfl (Sub.cons rfl (Sub.cons rfl (Sub.cons rfl (Sub.cons rfl (Sub.cons rfl (Sub.cons rfl (Sub.nil _)))))))))))))
      · exact ⟨e13, o13, hi⟩
      · omega
    · have : i = sn0 := by omega
      subst this
      rw [Nat.sub_self, List.replicate_zero, List.append_nil, List.take_of_length_le (by simp [hrl])] at o11
      have r11 := r6.extend e11
      have w1 : w.oneCell' = true := o11.sl.one
      have hout24 : (out.length + 1) * 24 ≤ 140737488355328 := by omega
      refine runJ ?_
      (refine s_app1V (bytes := 24) ((w, row.map fun y => centerm y t)) r11.ownO r11.ext rfl rfl rfl rfl rfl rfl rfl rfl rfl (by first | exact rfl | exact congrArg some (congrArg I (by omega))) w1 rfl rfl (fun _ _ => trivial) (by omega) (by simp only [maxLen]; omega) ?_)
      intro v12 h12 o12 e12' k12 b12
      have r12 := r6.push e11 o11 o12 k12 b12
      refine runJ ?_
      apply again_normal (j + 1, v12, out ++ [(w, row.map fun y => centerm y t)], kn ++ [row])
      · exact (Sub.cons rfl (Sub.cons rfl (Sub.cons rfl (Sub.cons rfl (Sub.cons rfl (Sub.cons rfl (Sub.cons rfl (Sub.nil _))))))))
      · refine ⟨r12, hjc, ?_, ?_, ?_⟩
        · rw [runF_snoc _ _ _ _ _ hx, ← r3, hrow]
        · intro r hr
          rcases List.mem_append.1 hr with hr | hr
          · exact r5.len r hr
          · simp only [List.mem_singleton] at hr
            subst hr; exact S6'
        · have := r5.tl
          simp only [List.map_append, this, told, List.map_cons, List.map_nil]
      · omega
  · refine runJ ?_
    have : j = V.code.length := by omega
    subst this
    rw [List.take_of_length_le (Nat.le_refl _)] at r3
    have hO : out.map (·.2) = told t (runF V (ir.map (·.2)) V.slots.toNat t V.code) := by rw [r5.tl, r3, hsn]; rfl
    have hlens : ∀ l ∈ told t (runF V (ir.map (·.2)) V.slots.toNat t V.code), l.length ≤ 64 := by
      intro l hl
      rw [hsn, Int.toNat_natCast, ← r3] at hl
      simp only [told, List.mem_map] at hl
      obtain ⟨r, hr, rfl⟩ := hl
      rw [List.length_map, (r5.len r hr).1]; exact hs64
    have hnum : (told t (runF V (ir.map (·.2)) V.slots.toNat t V.code)).length ≤ 2048 := by
      rw [told, List.length_map, hsn, Int.toNat_natCast]
      have := runF_len V (ir.map (·.2)) sn0 t V.code V.code.length (Nat.le_refl _)
      rw [List.take_of_length_le (Nat.le_refl _)] at this
      rw [this]; exact hcl
    exact fin2 rfl rfl rfl ⟨e14, 0, _, .inr (.inr (.inr ⟨rfl, hc, ht, hfit⟩)), rfl, fun e => absurd rfl e, fun _ => ⟨out, r1.ownO.sl, r1.outr, hO, hlens, hnum⟩⟩

theorem Try_ent3 : Ent Try.prog 3 := ent_of Try.func3 (by kernel_rfl) rfl
set_option maxHeartbeats 1000000 in
theorem vectorRuns_law (V : VecD) (vN : Value) (ir : List (Value × List Int)) (t : Nat) (h : Hp) (s : VecAt h V) (hpb : ∀ x ∈ V.pls, ∀ z ∈ x.2, ib z) (sn : SlF h Prod.fst vN ir) (snr : ∀ x ∈ ir, RowI h x) (htt : t < 18446744073709551616) :
    CallsH Try.prog 3 [.agg V.cells.toArray, vN, U t] h fun v' h' => v' = .bool true ∧ Ext h h' := by
  (apply enter Try.func3 rfl Try.ntmps3 rfl)
  refine runJ ?_
  (apply s_box; exact rfl; exact rfl; exact rfl; exact rfl)
  intro p1 h1 x1 e1 b1
  (try dsimp only [Value.cells, List.toList_toArray] at x1)
  refine ⟨(by first | exact trivial | exact Ext.refl _ | assumption | exact Ext.trans (by assumption) (by assumption)), ?_⟩
  refine runJ ?_
  apply (s_call Try_ent6 rfl rfl rfl)
  refine (fixed_spec h1).mono ?_
  rintro _ h2 ⟨rfl, e2⟩
  refine ⟨(by first | exact trivial | exact trivial), ?_⟩
  have x2 := x1.ext e2
  have e12 := e1.trans e2
  have s2 := s.ext e12
  refine runJ ?_
  apply (s_call Try_ent7 rfl rfl rfl)
  refine (few_spec V h2 s2).mono ?_
  rintro _ h3 ⟨⟨b, rfl, hf⟩, e3⟩
  refine ⟨(by first | exact trivial | exact trivial), ?_⟩
  have e13 := e12.trans e3
  have x3 := x2.ext e3
  have sn3 := sn.ext e13
  refine runJ ?_
  cases b with
  | false =>
    refine runJ ?_
    exact fin1 rfl rfl ⟨rfl, e13⟩
  | true =>
  have hf := hf rfl
  refine runJ ?_
  apply (s_call Try_ent8 rfl rfl rfl)
  refine (fewI_spec vN ir h3 sn3 (fun x hx => (snr x hx).1.ext e13)).mono ?_
  rintro _ _ ⟨⟨b, rfl, hfi⟩, rfl⟩
  refine ⟨(by first | exact trivial | exact trivial), ?_⟩
  refine runJ ?_
  cases b with
  | false =>
    refine runJ ?_
    exact fin1 rfl rfl ⟨rfl, e13⟩
  | true =>
  obtain ⟨hf1, hf2⟩ := hfi rfl
  have B : RunB V ir t := ⟨hf.slots, hf.inr, fun x hx => (snr x hx).2.1, fun x hx => by have := hf2 x hx; omega, by omega, hpb, htt⟩
  have F1 := run_spec V vN ir t h3 (s.ext e13) hf.l B sn3 (fun x hx => (snr x hx).1.ext e13)
  refine runJ ?_
  apply (s_call Try_ent9 rfl rfl rfl)
  refine (F1).mono ?_
  rintro _ h8 ⟨e8, e, u, hE, rfl, hN, hO⟩
  refine ⟨(by first | exact trivial | exact trivial), ?_⟩
  have x8 := x3.ext e8
  have e18 := e13.trans e8
  have F2 := refRun_spec V vN ir t h8 (s.ext e18) hf.l B (sn.ext e18) (fun x hx => (snr x hx).1.ext e18)
  refine runJ ?_
  apply (s_call Try_ent10 rfl rfl rfl)
  refine (F2).mono ?_
  rintro _ h9 ⟨e9, e', u', hE', rfl, hN', hO'⟩
  refine ⟨(by first | exact trivial | exact trivial), ?_⟩
  have hee : e = e' := hE.same hE'
  subst hee
  have e19 := e18.trans e9
  refine runJ ?_
  (apply s_splitG; exact rfl; exact rfl; exact rfl; exact rfl)
  rotate_left
  · intro hn; exact absurd rfl hn
  intro _
  obtain ⟨rows, q1, q2, q3, q4, q5⟩ : RunO h9 u ((if e = 0 then told t (runF V (ir.map (·.2)) V.slots.toNat t V.code) else [])) := by
    split
    · obtain ⟨o, q1, q2, q3⟩ := hO ‹_›
      exact ⟨o, q1.ext e9, fun x hx => (q2 x hx).ext e9, q3⟩
    · rw [hN ‹_›]; exact ⟨[], SlF.nil _ _, by simp, rfl, by simp, by simp⟩
  obtain ⟨rows', q1', q2', q3', q4', q5'⟩ : RunO h9 u' ((if e = 0 then told t (runF V (ir.map (·.2)) V.slots.toNat t V.code) else [])) := by
    split
    · exact hO' ‹_›
    · rw [hN' ‹_›]; exact ⟨[], SlF.nil _ _, by simp, rfl, by simp, by simp⟩
  generalize (if e = 0 then told t (runF V (ir.map (·.2)) V.slots.toNat t V.code) else []) = R at q3 q4 q5 q3' q4' q5'
  subst q3
  refine runJ ?_
  apply (s_call Try_ent11 rfl rfl rfl)
  refine (sameRows_spec u u' rows rows' h9 q1 q1' q2 q2' (by rw [List.length_map] at q5; omega) (by rw [← q3', List.length_map] at q5'; omega) (fun x hx => by have := q4 x.2 (List.mem_map.2 ⟨x, hx, rfl⟩); omega)).mono ?_
  rintro _ _ ⟨rfl, rfl⟩
  refine ⟨(by first | exact trivial | exact Ext.refl _ | assumption | exact Ext.trans (by assumption) (by assumption)), ?_⟩
  refine runJ ?_
  exact fin1 rfl rfl ⟨(dec_t q3'.symm).symm, e19⟩
end Go.Proofs.Ythgpgccmhohfbaa
