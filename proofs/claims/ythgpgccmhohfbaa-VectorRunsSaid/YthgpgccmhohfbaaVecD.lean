/- Vector programs: the machine's methods. No condition. -/
import Derived.Test.YthgpgccmhohfbaaVecC
import Derived.Test.YthgpgccmhohfbaaWordB
namespace Go.Proofs.Ythgpgccmhohfbaa
set_option linter.unusedVariables false
open Go Go.Den Go.RowKit

def ib (z : Int) : Prop := -9223372036854775808 ≤ z ∧ z < 9223372036854775808

/-- What a machine has. -/
structure MachD where
  s : Nat
  V : VecD
  t : Nat
  vN : Value
  ir : List (Value × List Int)
  vK : Value
  kn : List (Value × List Nat)
abbrev MachD.cells (D : MachD) : List Value := [N D.s, D.V.vI, D.V.vP, D.V.vC, I D.V.last, D.V.vO, U D.t, D.vN, D.vK]
structure MachR (h : Hp) (D : MachD) : Prop where mk ::
  slots : D.V.slots = D.s
  v : VecAt h D.V
  ir : SlF h Prod.fst D.vN D.ir
  irr : ∀ x ∈ D.ir, SlF h I x.1 x.2
  kn : SlF h Prod.fst D.vK D.kn
  knr : ∀ x ∈ D.kn, SlF h U x.1 x.2
theorem MachR.ext {h h' : Hp} {D : MachD} (k : MachR h D) (e : Ext h h') : MachR h' D :=
  ⟨k.slots, k.v.ext e, k.ir.ext e, fun x hx => (k.irr x hx).ext e, k.kn.ext e, fun x hx => (k.knr x hx).ext e⟩
/-- Bounds. -/
structure MachB (D : MachD) : Prop where mk ::
  s : D.s ≤ 64
  t : D.t < 18446744073709551616
  ins : ∀ x ∈ D.V.ins, x.sl.length ≤ 100
  irb : ∀ x ∈ D.ir, ∀ z ∈ x.2, ib z
  plb : ∀ x ∈ D.V.pls, ∀ z ∈ x.2, ib z
  kn : ∀ x ∈ D.kn, x.2.length = D.s ∧ ∀ y ∈ x.2, y < 18446744073709551616

theorem U1 (a : Nat) : (U a).oneCell' = true := rfl

theorem liftm_lt' {v : Int} {t : Nat} (ht : t < 18446744073709551616) : liftm v t < 18446744073709551616 := by
  unfold liftm
  split
  · omega
  · rename_i h
    have := Int.emod_lt_of_pos v (b := (t : Int)) (by omega)
    have := Int.emod_nonneg v (b := (t : Int)) (by omega)
    omega

def rowN (l : List Int) (s t : Nat) : List Nat := l.map (liftm · t) ++ List.replicate (s - l.length) 0
theorem rowN_len {l : List Int} {s t : Nat} (h : l.length ≤ s) : (rowN l s t).length = s := by simp [rowN]; omega

theorem row_set {l : List Int} {s t j : Nat} {x : Int} (hj : l[j]? = some x) (hl : l.length ≤ s) :
    ((l.take j).map (liftm · t) ++ List.replicate (s - j) 0).set j (liftm x t) = (l.take (j + 1)).map (liftm · t) ++ List.replicate (s - (j + 1)) 0 := by
  have h1 := (List.getElem?_eq_some_iff.1 hj).1
  rw [List.set_append_right _ _ (by simp; omega), List.length_map, List.length_take, Nat.min_eq_left (by omega), Nat.sub_self, show s - j = (s - (j + 1)) + 1 by omega, List.replicate_succ, List.set_cons_zero, take_snoc hj, List.map_append]
  simp

theorem Try_ent37 : Ent Try.prog 37 := ent_of Try.func37 (by kernel_rfl) rfl
theorem row_spec (m v : Value) (l : List Int) (D : MachD) (h : Hp) (M : Var h m 50 D.cells) (B : MachB D) (k : SlF h I v l) (hl : l.length ≤ D.s) (hb : ∀ z ∈ l, ib z) :
    CallsH Try.prog 37 [m, v] h fun v' h' => Ext h h' ∧ OwnF h' h.size 28 U v' (rowN l D.s D.t) := by
  have hs := B.s
  have htt := B.t
  unfold MachD.cells at M
  (apply enter Try.func37 rfl Try.ntmps37 rfl)
  refine runJ ?_
  (apply (s_make (f := U) (bytes := 8) (0)); (first | exact isK_c | exact isK_t rfl); (first | exact isK_c | exact isK_t rfl); exact rfl; exact rfl; exact rfl; exact rfl; exact rfl; exact rfl; omega; omega; omega)
  intro u h1 o1 e1 b1
  refine ⟨(by first | exact trivial | exact Ext.refl _ | assumption | exact Ext.trans (by assumption) (by assumption)), ?_⟩
  have k1 := k.ext e1
  have M1 := M.ext e1
  refine runJ ?_
  (first | (apply w_seqB; exact rfl; apply w_block; exact rfl) | skip)
  apply (w_loop (σ := Nat) rfl (fun j => [(0, m), (5, u), (14, v), (15, N l.length), (16, N j)])
    (fun j h' => Ext h h' ∧ OwnF h' h.size 28 U u ((l.take j).map (liftm · D.t) ++ List.replicate (D.s - j) 0) ∧ j ≤ l.length) (fun j => l.length - j) 0)
  · exact (Sub.cons rfl (Sub.cons rfl (Sub.cons rfl (Sub.cons rfl (Sub.cons rfl (Sub.nil _))))))
  · exact ⟨e1, by simpa using o1, Nat.zero_le _⟩
  rintro j h2 ⟨e2, o2, j2⟩
  have k2 := k.ext e2
  have M2 := M.ext e2
  refine runJ ?_
  (apply w_condD; exact rfl; exact rfl) <;> intro hj
  · obtain ⟨x, hx⟩ := get_lt hj
    have hib := hb x (List.mem_of_getElem? hx)
    refine runJ ?_
    apply (s_call Try_ent38 rfl rfl rfl)
    refine (lift_spec x D.t h2 hib htt).mono ?_
    rintro _ _ ⟨rfl, rfl⟩
    refine ⟨(by first | exact trivial | exact Ext.refl _ | assumption | exact Ext.trans (by assumption) (by assumption)), ?_⟩
    have o2s := o2.sl
    have hjl : j < ((l.take j).map (liftm · D.t) ++ List.replicate (D.s - j) 0).length := by simp; omega
    refine runJ ?_
    (apply (s_storeF (liftm x D.t)); exact rfl; exact rfl; exact rfl; exact rfl; exact rfl; exact o2; exact rfl; (first | assumption | omega))
    intro h3 o3 k3
    refine ⟨(by first | exact trivial | exact Ext.refl _ | assumption | exact Ext.trans (by assumption) (by assumption)), ?_⟩
    have e3 := o2.old k3 e2 (Nat.le_refl _)
    rw [row_set hx hl] at o3
    refine runJ ?_
    apply again_normal (j + 1)
    · exact (Sub.cons rfl (Sub.cons rfl (Sub.cons rfl (Sub.cons rfl (Sub.cons rfl (Sub.nil _))))))
    · exact ⟨e3, o3, hj⟩
    · omega
  · refine runJ ?_
    refine fin1 rfl rfl ⟨e2, ?_⟩
    have : j = l.length := by omega
    subst this
    rwa [List.take_of_length_le (Nat.le_refl _)] at o2

theorem Try_ent24 : Ent Try.prog 24 := ent_of Try.func24 (by kernel_rfl) rfl
theorem plain_spec (m : Value) (op to a b kk : Nat) (pl : Value × List Int) (D : MachD) (h : Hp) (M : Var h m 50 D.cells) (R : MachR h D) (B : MachB D) (hk : D.V.pls[kk]? = some pl) (hl : pl.2.length ≤ D.s) :
    CallsH Try.prog 24 [m, .agg #[N op, N to, N a, N b, N kk]] h fun v' h' => Ext h h' ∧ OwnF h' h.size 28 U v' (rowN pl.2 D.s D.t) := by
  have hmem := List.mem_of_getElem? hk
  have M0 := M
  unfold MachD.cells at M
  (apply enter Try.func24 rfl Try.ntmps24 rfl)
  refine runJ ?_
  (apply s_box; exact rfl; exact rfl; exact rfl; exact rfl)
  intro p h1 x1 e1 b1
  (try dsimp only [Value.cells, List.toList_toArray] at x1)
  refine ⟨(by first | exact trivial | exact Ext.refl _ | assumption | exact Ext.trans (by assumption) (by assumption)), ?_⟩
  have M1 := M.ext e1
  have R1 := R.ext e1
  have l1 := R1.v.pls
  have l2 := R1.v.plr pl hmem
  refine runJ ?_
  apply (s_call Try_ent37 rfl rfl rfl)
  refine (row_spec m pl.1 pl.2 D h1 (M0.ext e1) B l2 hl (B.plb pl hmem)).mono ?_
  rintro u h2 ⟨e2, o2⟩
  refine ⟨(by first | exact trivial | exact e2), ?_⟩
  refine runJ ?_
  exact fin1 rfl rfl ⟨e1.trans e2, o2.base e1.1⟩

theorem Try_ent27 : Ent Try.prog 27 := ent_of Try.func27 (by kernel_rfl) rfl
theorem second_spec (m : Value) (op to a b kk : Nat) (r : Value × List Nat) (D : MachD) (h : Hp) (M : Var h m 50 D.cells) (R : MachR h D) (hk : D.kn[b]? = some r) :
    CallsH Try.prog 27 [m, .agg #[N op, N to, N a, N b, N kk]] h fun v' h' => Ext h h' ∧ SlF h' U v' r.2 := by
  have hmem := List.mem_of_getElem? hk
  unfold MachD.cells at M
  (apply enter Try.func27 rfl Try.ntmps27 rfl)
  refine runJ ?_
  (apply s_box; exact rfl; exact rfl; exact rfl; exact rfl)
  intro p h1 x1 e1 b1
  (try dsimp only [Value.cells, List.toList_toArray] at x1)
  refine ⟨(by first | exact trivial | exact Ext.refl _ | assumption | exact Ext.trans (by assumption) (by assumption)), ?_⟩
  have M1 := M.ext e1
  have R1 := R.ext e1
  have l1 := R1.kn
  have l2 := R1.knr r hmem
  refine runJ ?_
  exact fin1 rfl rfl ⟨e1, l2⟩

theorem Try_ent39 : Ent Try.prog 39 := ent_of Try.func39 (by kernel_rfl) rfl
theorem clone_spec (v : Value) (xs : List Nat) (h : Hp) (s : SlF h U v xs) (hl : xs.length < 1000000) :
    CallsH Try.prog 39 [v] h fun v' h' => Ext h h' ∧ OwnF h' h.size 28 U v' xs := by
  (apply enter Try.func39 rfl Try.ntmps39 rfl)
  refine runJ ?_
  (apply w_cond; exact rfl; exact rfl) <;> intro hn
  · obtain ⟨rfl, rfl⟩ := s.nilE hn
    refine runJ ?_
    exact fin1 rfl rfl ⟨Ext.refl _, OwnF.nil _ _ _ _⟩
  · refine runJ ?_
    (apply (s_litF (f := U) [] (fun _ => rfl)); exact rfl; exact rfl; exact rfl; exact rfl; exact rfl; exact rfl; exact rfl; exact rfl; omega)
    intro w h1 o1 e1 b1
    refine ⟨(by first | exact trivial | exact Ext.refl _ | assumption | exact Ext.trans (by assumption) (by assumption)), ?_⟩
    have s1 := s.ext e1
    refine runJ ?_
    (apply (s_appendF (bytes := 8)); exact rfl; exact rfl; exact rfl; exact rfl; exact rfl; exact rfl; exact rfl; exact o1; exact s1; exact fun _ => rfl; (first | exact Nat.le_refl _ | exact ext_size (by assumption) | omega); ((try simp only [maxLen, List.length_nil, List.length_append]); omega); ((try simp only [List.length_nil, List.length_append]); omega))
    intro w2 h2 o2 k2 b2
    refine ⟨(by first | exact trivial | exact Ext.refl _ | assumption | exact Ext.trans (by assumption) (by assumption)), ?_⟩
    refine runJ ?_
    exact fin1 rfl rfl ⟨k2.old e1 fun j hj => by rw [b1] at hj; cases hj; exact Nat.le_refl _, o2⟩

theorem Try_ent26 : Ent Try.prog 26 := ent_of Try.func26 (by kernel_rfl) rfl
theorem turn_spec (m : Value) (op to a b kk : Nat) (r : Value × List Nat) (D : MachD) (h : Hp) (M : Var h m 50 D.cells) (R : MachR h D) (B : MachB D) (hk : D.kn[a]? = some r) (hkk : kk < D.s) :
    CallsH Try.prog 26 [m, .agg #[N op, N to, N a, N b, N kk]] h fun v' h' => Ext h h' ∧ OwnF h' h.size 28 U v' (r.2.drop kk ++ r.2.take kk) := by
  have hmem := List.mem_of_getElem? hk
  have hlen := (B.kn r hmem).1
  have hs := B.s
  unfold MachD.cells at M
  (apply enter Try.func26 rfl Try.ntmps26 rfl)
  refine runJ ?_
  (apply s_box; exact rfl; exact rfl; exact rfl; exact rfl)
  intro p h1 x1 e1 b1
  (try dsimp only [Value.cells, List.toList_toArray] at x1)
  refine ⟨(by first | exact trivial | exact Ext.refl _ | assumption | exact Ext.trans (by assumption) (by assumption)), ?_⟩
  have M1 := M.ext e1
  have R1 := R.ext e1
  have l1 := R1.kn
  have l2 := R1.knr r hmem
  have hkl : kk ≤ r.2.length := by omega
  have c1 := l2.cut (lo := kk) (hi := r.2.length) hkl (Nat.le_refl _)
  have c2 := l2.cut (lo := 0) (hi := kk) (Nat.zero_le _) hkl
  rw [List.take_of_length_le (by simp)] at c1
  rw [List.drop_zero, Nat.sub_zero] at c2
  refine runJ ?_
  apply (s_call Try_ent39 rfl rfl rfl)
  refine (clone_spec _ (r.2.drop kk) h1 c1 (by simp; omega)).mono ?_
  rintro u h2 ⟨e2, o2⟩
  refine ⟨(by first | exact trivial | exact e2), ?_⟩
  have c3 := c2.ext e2
  have hln : (r.2.drop kk).length + (r.2.take kk).length ≤ 64 := by simp; omega
  refine runJ ?_
  (apply (s_appendF (bytes := 8)); exact rfl; exact rfl; exact rfl; exact rfl; exact rfl; exact rfl; exact rfl; exact o2; exact c3; exact fun _ => rfl; (first | exact Nat.le_refl _ | exact ext_size (by assumption) | omega); ((try simp only [maxLen, List.length_nil, List.length_append]); omega); ((try simp only [List.length_nil, List.length_append]); omega))
  intro u3 h3 o3 k3 b3
  refine ⟨(by first | exact (o2.old k3 e2 (Nat.le_refl _)) | exact trivial | exact Ext.refl _ | assumption | exact Ext.trans (by assumption) (by assumption)), ?_⟩
  refine runJ ?_
  exact fin1 rfl rfl ⟨e1.trans (o2.old k3 e2 (Nat.le_refl _)), o3.base e1.1⟩

theorem zip_set {g : Nat → Nat → Nat} {xs ys : List Nat} {j n a b : Nat} (ha : xs[j]? = some a) (hb : ys[j]? = some b) (hn : xs.length = n) :
    ((List.zipWith g xs ys).take j ++ List.replicate (n - j) 0).set j (g a b) = (List.zipWith g xs ys).take (j + 1) ++ List.replicate (n - (j + 1)) 0 := by
  have h1 := (List.getElem?_eq_some_iff.1 ha).1
  have h2 := (List.getElem?_eq_some_iff.1 hb).1
  have h3 : (List.zipWith g xs ys)[j]? = some (g a b) := by simp [List.getElem?_zipWith, ha, hb]
  rw [List.set_append_right _ _ (by simp; omega), List.length_take, List.length_zipWith, Nat.min_eq_left (by omega), Nat.sub_self, show n - j = (n - (j + 1)) + 1 by omega, List.replicate_succ, List.set_cons_zero, take_snoc h3, List.append_assoc, List.singleton_append]

theorem Try_ent29 : Ent Try.prog 29 := ent_of Try.func29 (by kernel_rfl) rfl
theorem pair_spec (m va vb : Value) (xs ys : List Nat) (F : FuncId) (g : Nat → Nat → Nat) (D : MachD) (h : Hp) (M : Var h m 50 D.cells) (B : MachB D) (ha : SlF h U va xs) (hb : SlF h U vb ys) (hx : xs.length = D.s) (hy : ys.length = D.s)
    (hxb : ∀ y ∈ xs, y < 18446744073709551616) (hyb : ∀ y ∈ ys, y < 18446744073709551616) (hF : Ent Try.prog F) (hG : ∀ a b h, a < 18446744073709551616 → b < 18446744073709551616 → CallsH Try.prog F [U a, U b, U D.t] h fun v h' => v = U (g a b) ∧ h = h') :
    CallsH Try.prog 29 [m, va, vb, .func (.func F) #[] #[]] h fun v' h' => Ext h h' ∧ OwnF h' h.size 28 U v' (List.zipWith g xs ys) := by
  have hs := B.s
  have htt := B.t
  unfold MachD.cells at M
  (apply enter Try.func29 rfl Try.ntmps29 rfl)
  refine runJ ?_
  (apply (s_make (f := U) (bytes := 8) (0)); (first | exact isK_c | exact isK_t rfl); (first | exact isK_c | exact isK_t rfl); exact rfl; exact rfl; exact rfl; exact rfl; exact rfl; exact rfl; omega; omega; omega)
  intro u h1 o1 e1 b1
  refine ⟨(by first | exact trivial | exact Ext.refl _ | assumption | exact Ext.trans (by assumption) (by assumption)), ?_⟩
  have a1 := ha.ext e1
  have b1' := hb.ext e1
  have M1 := M.ext e1
  have us := o1.sl
  refine runJ ?_
  (first | (apply w_seqB; exact rfl; apply w_block; exact rfl) | skip)
  have lrep : (List.replicate xs.length 0).length = xs.length := by simp
  apply (w_loop (σ := Nat) rfl (fun j => [(0, m), (1, va), (2, vb), (3, .func (.func F) #[] #[]), (9, u), (15, N D.s), (16, N j)])
    (fun j h' => Ext h h' ∧ OwnF h' h.size 28 U u ((List.zipWith g xs ys).take j ++ List.replicate (D.s - j) 0) ∧ j ≤ D.s) (fun j => D.s - j) 0)
  · exact Sub.cons rfl (Sub.cons rfl (Sub.cons rfl (Sub.cons rfl (Sub.cons rfl (Sub.consE rfl (congrArg N (by simpa using hx)) (Sub.cons rfl (Sub.nil _)))))))
  · refine ⟨e1, ?_, Nat.zero_le _⟩
    rw [hx] at o1
    simpa using o1
  rintro j h2 ⟨e2, o2, j2⟩
  have a2 := ha.ext e2
  have b2 := hb.ext e2
  have M2 := M.ext e2
  refine runJ ?_
  (apply w_condD; exact rfl; exact rfl) <;> intro hj
  · obtain ⟨x, hxj⟩ := get_lt (l := xs) (j := j) (by omega)
    obtain ⟨y, hyj⟩ := get_lt (l := ys) (j := j) (by omega)
    have hx64 := hxb x (List.mem_of_getElem? hxj)
    have hy64 := hyb y (List.mem_of_getElem? hyj)
    have hjl : j < ((List.zipWith g xs ys).take j ++ List.replicate (D.s - j) 0).length := by simp; omega
    have o2s := o2.sl
    have na := ha.neq (u := u) (by omega) b1 (Nat.le_refl _)
    have nb := hb.neq (u := u) (by omega) b1 (Nat.le_refl _)
    have nm := M.neq (u := u) b1 (Nat.le_refl _)
    refine runJN ?_
    (apply (r_drawnO (u.ownBlock)); exact rfl; exact mixed; kernel_rfl)
    refine runJ ?_
    refine s_callV rfl hF rfl rfl rfl ?_
    refine (hG x y h2 hx64 hy64).mono ?_
    rintro _ _ ⟨rfl, rfl⟩
    refine ⟨Only.refl _ _, ?_⟩
    refine runJ ?_
    (apply (s_storeF (g x y)); exact rfl; exact rfl; exact rfl; exact rfl; exact rfl; exact o2; exact rfl; (first | assumption | omega))
    intro h3 o3 k3
    refine ⟨(by first | exact k3 | exact trivial | exact Ext.refl _ | assumption | exact Ext.trans (by assumption) (by assumption)), ?_⟩
    have e3 := o2.old k3 e2 (Nat.le_refl _)
    rw [zip_set hxj hyj hx] at o3
    refine runJ ?_
    apply again_normal (j + 1)
    · exact (Sub.cons rfl (Sub.cons rfl (Sub.cons rfl (Sub.cons rfl (Sub.cons rfl (Sub.cons rfl (Sub.cons rfl (Sub.nil _))))))))
    · exact ⟨e3, o3, hj⟩
    · omega
  · refine runJ ?_
    refine fin1 rfl rfl ⟨e2, ?_⟩
    have : j = D.s := by omega
    subst this
    rw [Nat.sub_self, List.replicate_zero, List.append_nil, List.take_of_length_le (by simp; omega)] at o2
    exact o2
end Go.Proofs.Ythgpgccmhohfbaa
