/- Vector programs: the machine's input and its step. No condition. -/
import Derived.Test.YthgpgccmhohfbaaVecD
namespace Go.Proofs.Ythgpgccmhohfbaa
set_option linter.unusedVariables false
open Go Go.Den Go.RowKit

def putN (t : Nat) (o : List Nat) (p : Int × Int) : List Nat := o.set p.1.toNat (liftm p.2 t)
def inputN (sl l : List Int) (s t : Nat) : List Nat := (sl.zip l).foldl (putN t) (List.replicate s 0)
theorem foldl_put_len (t : Nat) : ∀ (ps : List (Int × Int)) (o : List Nat), (ps.foldl (putN t) o).length = o.length
  | [], o => rfl
  | p :: ps, o => by rw [List.foldl_cons, foldl_put_len t ps]; simp [putN]
theorem foldl_snoc {α β : Type} {f : β → α → β} {xs : List α} {j : Nat} {x : α} (h : xs[j]? = some x) (b : β) : f ((xs.take j).foldl f b) x = (xs.take (j + 1)).foldl f b := by
  rw [take_snoc h, List.foldl_append]; rfl

theorem Try_ent25 : Ent Try.prog 25 := ent_of Try.func25 (by kernel_rfl) rfl
theorem input_spec (m : Value) (op to a b kk : Nat) (x0 : InD) (r : Value × List Int) (D : MachD) (h : Hp) (M : Var h m 50 D.cells) (R : MachR h D) (B : MachB D)
    (hi : D.V.ins[kk]? = some x0) (hr : D.ir[kk]? = some r) (hl : r.2.length = x0.sl.length) (hp : ∀ z ∈ x0.sl, 0 ≤ z ∧ z < (D.s : Int)) :
    CallsH Try.prog 25 [m, .agg #[N op, N to, N a, N b, N kk]] h fun v' h' => Ext h h' ∧ OwnF h' h.size 28 U v' (inputN x0.sl r.2 D.s D.t) := by
  have hmem := List.mem_of_getElem? hi
  have hmer := List.mem_of_getElem? hr
  have hs := B.s
  have htt := B.t
  have hln := B.ins x0 hmem
  have hirp : 0 < D.ir.length := by have := (List.getElem?_eq_some_iff.1 hr).1; omega
  unfold MachD.cells at M
  (apply enter Try.func25 rfl Try.ntmps25 rfl)
  refine runJ ?_
  (apply s_box; exact rfl; exact rfl; exact rfl; exact rfl)
  intro p h1 x1 e1 b1
  (try dsimp only [Value.cells, List.toList_toArray] at x1)
  refine ⟨(by first | exact trivial | exact Ext.refl _ | assumption | exact Ext.trans (by assumption) (by assumption)), ?_⟩
  have M1 := M.ext e1
  have R1 := R.ext e1
  refine runJ ?_
  (apply (s_make (f := U) (bytes := 8) (0)); (first | exact isK_c | exact isK_t rfl); (first | exact isK_c | exact isK_t rfl); exact rfl; exact rfl; exact rfl; exact rfl; exact rfl; exact rfl; omega; omega; omega)
  intro u h2 o2 e2 b2
  refine ⟨(by first | exact trivial | exact Ext.refl _ | assumption | exact Ext.trans (by assumption) (by assumption)), ?_⟩
  have M2 := M1.ext e2
  have R2 := R1.ext e2
  have x2 := x1.ext e2
  have l1 := R2.v.ins
  have l2 := R2.v.inr x0 hmem
  have l3 := R2.ir
  have l4 := R2.irr r hmer
  have nm := M1.neq (u := u) b2 (Nat.le_refl _)
  have nx := x1.neq (u := u) b2 (Nat.le_refl _)
  have n3 := R1.ir.neq (u := u) hirp b2 (Nat.le_refl _)
  unfold InD.cells at l1
  refine runJ ?_
  (first | (apply w_seqB; exact rfl; apply w_block; exact rfl) | skip)
  apply (w_loop (σ := Nat) rfl (fun j => [(0, m), (3, p), (5, u), (23, x0.v), (24, N x0.sl.length), (25, N j)])
    (fun j h' => Ext h1 h' ∧ OwnF h' h1.size 28 U u (((x0.sl.zip r.2).take j).foldl (putN D.t) (List.replicate D.s 0)) ∧ j ≤ x0.sl.length) (fun j => x0.sl.length - j) 0)
  · exact (Sub.cons rfl (Sub.cons rfl (Sub.cons rfl (Sub.cons rfl (Sub.cons rfl (Sub.cons rfl (Sub.nil _)))))))
  · exact ⟨e2, by simpa using o2, Nat.zero_le _⟩
  rintro j h3 ⟨e3, o3, j3⟩
  have M3 := M1.ext e3
  have x3 := x1.ext e3
  have R3 := R1.ext e3
  have q2 := R3.v.inr x0 hmem
  have q3 := R3.ir
  have q4 := R3.irr r hmer
  refine runJ ?_
  (apply w_condD; exact rfl; exact rfl) <;> intro hj
  · obtain ⟨z, hz⟩ := get_lt hj
    obtain ⟨y, hy⟩ := get_lt (l := r.2) (j := j) (by omega)
    have hzy : (x0.sl.zip r.2)[j]? = some (z, y) := by simp [List.getElem?_zip_eq_some, hz, hy]
    obtain ⟨hz0, hz1⟩ := hp z (List.mem_of_getElem? hz)
    obtain ⟨zn, rfl⟩ : ∃ zn : Nat, z = zn := ⟨z.toNat, by omega⟩
    have hyb := B.irb r hmer y (List.mem_of_getElem? hy)
    have o3s := o3.sl
    have n4 := (R1.irr r hmer).neq (u := u) (by omega) b2 (Nat.le_refl _)
    have hzl : zn < (((x0.sl.zip r.2).take j).foldl (putN D.t) (List.replicate D.s 0)).length := by rw [foldl_put_len]; simp; omega
    refine runJN ?_
    (apply (r_drawnO (u.ownBlock)); exact rfl; exact mixed; kernel_rfl)
    refine runJ ?_
    apply (s_call Try_ent38 rfl rfl rfl)
    refine (lift_spec y D.t h3 hyb htt).mono ?_
    rintro _ _ ⟨rfl, rfl⟩
    refine ⟨Only.refl _ _, ?_⟩
    refine runJ ?_
    (apply (s_storeF (liftm y D.t)); exact rfl; exact rfl; exact rfl; exact rfl; exact rfl; exact o3; exact rfl; (first | assumption | omega))
    intro h4 o4 k4
    refine ⟨(by first | exact k4 | exact trivial | exact Ext.refl _ | assumption | exact Ext.trans (by assumption) (by assumption)), ?_⟩
    have e4 := o3.old k4 e3 (Nat.le_refl _)
    have hf := foldl_snoc (f := putN D.t) hzy (List.replicate D.s 0)
    unfold putN at hf
    simp only [Int.toNat_natCast] at hf
    unfold putN at o4
    rw [hf] at o4
    refine runJ ?_
    apply again_normal (j + 1)
    · exact (Sub.cons rfl (Sub.cons rfl (Sub.cons rfl (Sub.cons rfl (Sub.cons rfl (Sub.cons rfl (Sub.nil _)))))))
    · exact ⟨e4, o4, hj⟩
    · omega
  · refine runJ ?_
    refine fin1 rfl rfl ⟨e1.trans e3, ?_⟩
    rw [List.take_of_length_le (by simp; omega)] at o3
    exact o3.base e1.1

/-- What a step makes. -/
inductive StepR (D : MachD) (op a b kk : Nat) : List Nat → Prop where
  | input (x0 : InD) (r : Value × List Int) (ho : op = 1) (hi : D.V.ins[kk]? = some x0) (hr : D.ir[kk]? = some r) (hl : r.2.length = x0.sl.length) (hp : ∀ z ∈ x0.sl, 0 ≤ z ∧ z < (D.s : Int)) : StepR D op a b kk (inputN x0.sl r.2 D.s D.t)
  | const (pl : Value × List Int) (ho : op = 2) (hk : D.V.pls[kk]? = some pl) (hl : pl.2.length ≤ D.s) : StepR D op a b kk (rowN pl.2 D.s D.t)
  | turn (r : Value × List Nat) (ho : op = 8) (hk : D.kn[a]? = some r) (hkk : kk < D.s) : StepR D op a b kk (r.2.drop kk ++ r.2.take kk)
  | add (ra rb : Value × List Nat) (ho : op = 3) (ha : D.kn[a]? = some ra) (hb : D.kn[b]? = some rb) : StepR D op a b kk (List.zipWith (addm · · D.t) ra.2 rb.2)
  | mul (ra rb : Value × List Nat) (ho : op = 6) (ha : D.kn[a]? = some ra) (hb : D.kn[b]? = some rb) : StepR D op a b kk (List.zipWith (mulm · · D.t) ra.2 rb.2)
  | addP (ra : Value × List Nat) (pl : Value × List Int) (ho : op = 4) (ha : D.kn[a]? = some ra) (hk : D.V.pls[kk]? = some pl) (hl : pl.2.length ≤ D.s) : StepR D op a b kk (List.zipWith (addm · · D.t) ra.2 (rowN pl.2 D.s D.t))
  | mulP (ra : Value × List Nat) (pl : Value × List Int) (ho : op = 5) (ha : D.kn[a]? = some ra) (hk : D.V.pls[kk]? = some pl) (hl : pl.2.length ≤ D.s) : StepR D op a b kk (List.zipWith (mulm · · D.t) ra.2 (rowN pl.2 D.s D.t))

theorem rowN_lt {l : List Int} {s t : Nat} (ht : t < 18446744073709551616) : ∀ y ∈ rowN l s t, y < 18446744073709551616 := fun y hy => by
  rcases List.mem_append.1 hy with hy | hy
  · obtain ⟨z, -, rfl⟩ := List.mem_map.1 hy
    exact liftm_lt' ht
  · rw [(List.mem_replicate.1 hy).2]; omega

theorem Try_ent16 : Ent Try.prog 16 := ent_of Try.func16 (by kernel_rfl) rfl
set_option maxHeartbeats 2000000 in
theorem step_spec (m : Value) (op to a b kk : Nat) (out : List Nat) (D : MachD) (h : Hp) (M : Var h m 50 D.cells) (R : MachR h D) (B : MachB D) (S : StepR D op a b kk out) :
    CallsH Try.prog 16 [m, .agg #[N op, N to, N a, N b, N kk]] h fun v' h' => Ext h h' ∧ OwnF h' h.size 28 U v' out := by
  have M0 := M
  have htt := B.t
  have cAdd : ∀ a b h, a < 18446744073709551616 → b < 18446744073709551616 → CallsH Try.prog 23 [U a, U b, U D.t] h fun v h' => v = U (addm a b D.t) ∧ h = h' := fun a b h ha hb => add_spec a b D.t h ha hb htt
  have cMul : ∀ a b h, a < 18446744073709551616 → b < 18446744073709551616 → CallsH Try.prog 28 [U a, U b, U D.t] h fun v h' => v = U (mulm a b D.t) ∧ h = h' := fun a b h ha hb => mul_spec a b D.t h ha hb htt
  unfold MachD.cells at M
  rcases S with ⟨x0, r, rfl, hi, hr, hl, hp⟩ | ⟨pl, rfl, hk, hl⟩ | ⟨r, rfl, hk, hkk⟩ | ⟨ra, rb, rfl, ha, hb⟩ | ⟨ra, rb, rfl, ha, hb⟩ | ⟨ra, pl, rfl, ha, hk, hl⟩ | ⟨ra, pl, rfl, ha, hk, hl⟩
  · (apply enter Try.func16 rfl Try.ntmps16 rfl)
    refine runJ ?_
    (apply s_box; exact rfl; exact rfl; exact rfl; exact rfl)
    intro p h1 x1 e1 b1
    (try dsimp only [Value.cells, List.toList_toArray] at x1)
    refine ⟨(by first | exact trivial | exact Ext.refl _ | assumption | exact Ext.trans (by assumption) (by assumption)), ?_⟩
    have M1 := M0.ext e1
    have R1 := R.ext e1
    refine runJ ?_
    apply (s_call Try_ent25 rfl rfl rfl)
    refine (input_spec m 1 to a b kk x0 r D h1 M1 R1 B hi hr hl hp).mono ?_
    rintro u h2 ⟨e2, o2⟩
    refine ⟨(by first | exact trivial | exact e2), ?_⟩
    refine runJ ?_
    exact fin1 rfl rfl ⟨e1.trans e2, o2.base e1.1⟩
  · (apply enter Try.func16 rfl Try.ntmps16 rfl)
    refine runJ ?_
    (apply s_box; exact rfl; exact rfl; exact rfl; exact rfl)
    intro p h1 x1 e1 b1
    (try dsimp only [Value.cells, List.toList_toArray] at x1)
    refine ⟨(by first | exact trivial | exact Ext.refl _ | assumption | exact Ext.trans (by assumption) (by assumption)), ?_⟩
    have M1 := M0.ext e1
    have R1 := R.ext e1
    refine runJ ?_
    apply (s_call Try_ent24 rfl rfl rfl)
    refine (plain_spec m 2 to a b kk pl D h1 M1 R1 B hk hl).mono ?_
    rintro u h2 ⟨e2, o2⟩
    refine ⟨(by first | exact trivial | exact e2), ?_⟩
    refine runJ ?_
    exact fin1 rfl rfl ⟨e1.trans e2, o2.base e1.1⟩
  · (apply enter Try.func16 rfl Try.ntmps16 rfl)
    refine runJ ?_
    (apply s_box; exact rfl; exact rfl; exact rfl; exact rfl)
    intro p h1 x1 e1 b1
    (try dsimp only [Value.cells, List.toList_toArray] at x1)
    refine ⟨(by first | exact trivial | exact Ext.refl _ | assumption | exact Ext.trans (by assumption) (by assumption)), ?_⟩
    have M1 := M0.ext e1
    have R1 := R.ext e1
    refine runJ ?_
    apply (s_call Try_ent26 rfl rfl rfl)
    refine (turn_spec m 8 to a b kk r D h1 M1 R1 B hk hkk).mono ?_
    rintro u h2 ⟨e2, o2⟩
    refine ⟨(by first | exact trivial | exact e2), ?_⟩
    refine runJ ?_
    exact fin1 rfl rfl ⟨e1.trans e2, o2.base e1.1⟩
  · (apply enter Try.func16 rfl Try.ntmps16 rfl)
    refine runJ ?_
    (apply s_box; exact rfl; exact rfl; exact rfl; exact rfl)
    intro p h1 x1 e1 b1
    (try dsimp only [Value.cells, List.toList_toArray] at x1)
    refine ⟨(by first | exact trivial | exact Ext.refl _ | assumption | exact Ext.trans (by assumption) (by assumption)), ?_⟩
    have M1 := M0.ext e1
    have R1 := R.ext e1
    refine runJ ?_
    have M1' := M1
    unfold MachD.cells at M1'
    have l1 := R1.kn
    have hma := List.mem_of_getElem? ha
    have l2 := R1.knr ra hma
    refine runJ ?_
    refine s_callV rfl Try_ent27 rfl rfl rfl ?_
    refine (second_spec m 3 to a b kk rb D h1 M1 R1 hb).mono ?_
    rintro v h2 ⟨e2, o2⟩
    refine ⟨e2, ?_⟩
    refine runJ ?_
    apply (s_call Try_ent29 rfl rfl rfl)
    refine (pair_spec m ra.1 v ra.2 rb.2 23 _ D h2 (M1.ext e2) B (l2.ext e2) o2 (B.kn ra hma).1 (B.kn rb (List.mem_of_getElem? hb)).1 (B.kn ra hma).2 (B.kn rb (List.mem_of_getElem? hb)).2 Try_ent23 cAdd).mono ?_
    rintro u h3 ⟨e3, o3⟩
    refine ⟨(by first | exact trivial | exact (e2.trans e3)), ?_⟩
    refine runJ ?_
    exact fin1 rfl rfl ⟨(e1.trans e2).trans e3, o3.base (Nat.le_trans e1.1 e2.1)⟩
  · (apply enter Try.func16 rfl Try.ntmps16 rfl)
    refine runJ ?_
    (apply s_box; exact rfl; exact rfl; exact rfl; exact rfl)
    intro p h1 x1 e1 b1
    (try dsimp only [Value.cells, List.toList_toArray] at x1)
    refine ⟨(by first | exact trivial | exact Ext.refl _ | assumption | exact Ext.trans (by assumption) (by assumption)), ?_⟩
    have M1 := M0.ext e1
    have R1 := R.ext e1
    refine runJ ?_
    have M1' := M1
    unfold MachD.cells at M1'
    have l1 := R1.kn
    have hma := List.mem_of_getElem? ha
    have l2 := R1.knr ra hma
    refine runJ ?_
    refine s_callV rfl Try_ent27 rfl rfl rfl ?_
    refine (second_spec m 6 to a b kk rb D h1 M1 R1 hb).mono ?_
    rintro v h2 ⟨e2, o2⟩
    refine ⟨e2, ?_⟩
    refine runJ ?_
    apply (s_call Try_ent29 rfl rfl rfl)
    refine (pair_spec m ra.1 v ra.2 rb.2 28 _ D h2 (M1.ext e2) B (l2.ext e2) o2 (B.kn ra hma).1 (B.kn rb (List.mem_of_getElem? hb)).1 (B.kn ra hma).2 (B.kn rb (List.mem_of_getElem? hb)).2 Try_ent28 cMul).mono ?_
    rintro u h3 ⟨e3, o3⟩
    refine ⟨(by first | exact trivial | exact (e2.trans e3)), ?_⟩
    refine runJ ?_
    exact fin1 rfl rfl ⟨(e1.trans e2).trans e3, o3.base (Nat.le_trans e1.1 e2.1)⟩
  · (apply enter Try.func16 rfl Try.ntmps16 rfl)
    refine runJ ?_
    (apply s_box; exact rfl; exact rfl; exact rfl; exact rfl)
    intro p h1 x1 e1 b1
    (try dsimp only [Value.cells, List.toList_toArray] at x1)
    refine ⟨(by first | exact trivial | exact Ext.refl _ | assumption | exact Ext.trans (by assumption) (by assumption)), ?_⟩
    have M1 := M0.ext e1
    have R1 := R.ext e1
    refine runJ ?_
    have M1' := M1
    unfold MachD.cells at M1'
    have l1 := R1.kn
    have hma := List.mem_of_getElem? ha
    have l2 := R1.knr ra hma
    refine runJ ?_
    refine s_callV rfl Try_ent24 rfl rfl rfl ?_
    refine (plain_spec m 4 to a b kk pl D h1 M1 R1 B hk hl).mono ?_
    rintro v h2 ⟨e2, o2⟩
    refine ⟨e2, ?_⟩
    refine runJ ?_
    apply (s_call Try_ent29 rfl rfl rfl)
    refine (pair_spec m ra.1 v ra.2 (rowN pl.2 D.s D.t) 23 _ D h2 (M1.ext e2) B (l2.ext e2) o2.sl (B.kn ra hma).1 (rowN_len hl) (B.kn ra hma).2 (rowN_lt htt) Try_ent23 cAdd).mono ?_
    rintro u h3 ⟨e3, o3⟩
    refine ⟨(by first | exact trivial | exact (e2.trans e3)), ?_⟩
    refine runJ ?_
    exact fin1 rfl rfl ⟨(e1.trans e2).trans e3, o3.base (Nat.le_trans e1.1 e2.1)⟩
  · (apply enter Try.func16 rfl Try.ntmps16 rfl)
    refine runJ ?_
    (apply s_box; exact rfl; exact rfl; exact rfl; exact rfl)
    intro p h1 x1 e1 b1
    (try dsimp only [Value.cells, List.toList_toArray] at x1)
    refine ⟨(by first | exact trivial | exact Ext.refl _ | assumption | exact Ext.trans (by assumption) (by assumption)), ?_⟩
    have M1 := M0.ext e1
    have R1 := R.ext e1
    refine runJ ?_
    have M1' := M1
    unfold MachD.cells at M1'
    have l1 := R1.kn
    have hma := List.mem_of_getElem? ha
    have l2 := R1.knr ra hma
    refine runJ ?_
    refine s_callV rfl Try_ent24 rfl rfl rfl ?_
    refine (plain_spec m 5 to a b kk pl D h1 M1 R1 B hk hl).mono ?_
    rintro v h2 ⟨e2, o2⟩
    refine ⟨e2, ?_⟩
    refine runJ ?_
    apply (s_call Try_ent29 rfl rfl rfl)
    refine (pair_spec m ra.1 v ra.2 (rowN pl.2 D.s D.t) 28 _ D h2 (M1.ext e2) B (l2.ext e2) o2.sl (B.kn ra hma).1 (rowN_len hl) (B.kn ra hma).2 (rowN_lt htt) Try_ent28 cMul).mono ?_
    rintro u h3 ⟨e3, o3⟩
    refine ⟨(by first | exact trivial | exact (e2.trans e3)), ?_⟩
    refine runJ ?_
    exact fin1 rfl rfl ⟨(e1.trans e2).trans e3, o3.base (Nat.le_trans e1.1 e2.1)⟩
end Go.Proofs.Ythgpgccmhohfbaa
