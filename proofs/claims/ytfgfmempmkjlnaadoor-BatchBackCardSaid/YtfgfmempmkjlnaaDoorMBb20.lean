/- Texts RngF to BatB of this work, joined: each says in its own head what it proves, and of which condition. -/
import Derived.Test.YtfgfmempmkjlnaaDoorMBb19
/- Package ring: what there is without a ring. No condition. -/
namespace Go.Proofs.YtfgfmempmkjlnaaDoor
set_option linter.unusedVariables false
set_option maxRecDepth 8000
open Go Go.Den Go.RowKit Go.Mth Go.Dig

theorem Tryd_ent61 : Ent Tryd.prog 61 := ent_of Tryd.func61 (by kernel_rfl) rfl
theorem each_nil (va vb f : Value) (h : Hp) : CallsH Tryd.prog 61 [.pointer none, .agg #[va], .agg #[vb], f] h fun v' h' => v' = .tuple #[.agg #[.slice none 0 0], N 1] ∧ Ext h h' := by
  (apply enter Tryd.func61 rfl Tryd.ntmps61 rfl)
  refine runJ ?_
  (apply s_box; exact rfl; exact rfl; exact rfl; exact rfl)
  intro p5 h1 x1 e1 b1
  (try dsimp only [Value.cells, List.toList_toArray] at x1)
  refine ⟨(by first | exact trivial | exact Ext.refl _ | assumption | exact Ext.trans (by assumption) (by assumption)), ?_⟩
  refine runJ ?_
  (apply s_box; exact rfl; exact rfl; exact rfl; exact rfl)
  intro p6 h2 x2 e2 b2
  (try dsimp only [Value.cells, List.toList_toArray] at x2)
  refine ⟨(by first | exact trivial | exact Ext.refl _ | assumption | exact Ext.trans (by assumption) (by assumption)), ?_⟩
  have y1 := x1.ext e2
  have e12 := e1.trans e2
  refine runJ ?_
  (apply s_alloc; exact rfl; exact rfl; exact rfl)
  intro p8 h3 x3 e3 b3
  (try dsimp only [Value.cells, List.toList_toArray] at x3)
  refine ⟨(by first | exact trivial | exact Ext.refl _ | assumption | exact Ext.trans (by assumption) (by assumption)), ?_⟩
  have z1 := y1.ext e3
  have z2 := x2.ext e3
  have e13 := e12.trans e3
  refine runJ ?_
  apply (s_call Tryd_ent65 rfl rfl rfl)
  refine (pair_nil va vb h3).mono ?_
  rintro _ h4 ⟨rfl, e4⟩
  refine ⟨(by first | exact trivial | exact trivial), ?_⟩
  have w3 := x3.ext e4
  refine runJ ?_
  (apply (s_build ([.slice none 0 0])); exact rfl; exact rfl; exact rfl; (repeat (first | exact CellsAll.nil | (apply CellsAll.cons; (first | exact oneL (by assumption) | exact oneL (SlF.one (by assumption)) | exact oneL (SlF.one (OwnF.sl (by assumption))) | exact oneL (Var.one (by assumption)) | exact rfl)))); exact rfl; exact rfl)
  refine runJ ?_
  (apply s_storeV; exact rfl; exact rfl; exact rfl; (repeat (first | exact OneAll.nil | (apply OneAll.cons; (first | exact rfl | exact SlF.one (by assumption) | exact SlF.one (OwnF.sl (by assumption)) | exact Var.one (by assumption))))); exact rfl; exact rfl; exact w3; exact rfl)
  intro h5 x5 k5
  (try dsimp only [Value.cells, List.toList_toArray] at x5)
  refine ⟨(by first | exact trivial | exact Ext.refl _ | assumption | exact Ext.only (by assumption) _ | exact Only.trans (Ext.only (by assumption) _) (by assumption)), ?_⟩
  have x5 : Var h5 p8 54 [.slice none 0 0] := x5
  have e5 : Ext h h5 := k5.oldV (e13.trans e4) b3 e12.1
  refine runJ ?_
  exact finCT rfl rfl rfl x5 rfl rfl ⟨rfl, e5⟩

theorem rmul_nil (va vb : Value) (h : Hp) : CallsH Tryd.prog 40 [.pointer none, .agg #[va], .agg #[vb]] h fun v' h' => v' = .tuple #[.agg #[.slice none 0 0], N 1] ∧ Ext h h' := by
  (apply enter Tryd.func40 rfl Tryd.ntmps40 rfl)
  refine runJ ?_
  (apply s_box; exact rfl; exact rfl; exact rfl; exact rfl)
  intro p5 h1 x1 e1 b1
  (try dsimp only [Value.cells, List.toList_toArray] at x1)
  refine ⟨(by first | exact trivial | exact Ext.refl _ | assumption | exact Ext.trans (by assumption) (by assumption)), ?_⟩
  refine runJ ?_
  (apply s_box; exact rfl; exact rfl; exact rfl; exact rfl)
  intro p6 h2 x2 e2 b2
  (try dsimp only [Value.cells, List.toList_toArray] at x2)
  refine ⟨(by first | exact trivial | exact Ext.refl _ | assumption | exact Ext.trans (by assumption) (by assumption)), ?_⟩
  have y1 := x1.ext e2
  have e12 := e1.trans e2
  refine runJ ?_
  (apply s_alloc; exact rfl; exact rfl; exact rfl)
  intro p8 h3 x3 e3 b3
  (try dsimp only [Value.cells, List.toList_toArray] at x3)
  refine ⟨(by first | exact trivial | exact Ext.refl _ | assumption | exact Ext.trans (by assumption) (by assumption)), ?_⟩
  have z1 := y1.ext e3
  have z2 := x2.ext e3
  have e13 := e12.trans e3
  refine runJ ?_
  apply (s_call Tryd_ent65 rfl rfl rfl)
  refine (pair_nil va vb h3).mono ?_
  rintro _ h4 ⟨rfl, e4⟩
  refine ⟨(by first | exact trivial | exact trivial), ?_⟩
  have w3 := x3.ext e4
  refine runJ ?_
  (apply (s_build ([.slice none 0 0])); exact rfl; exact rfl; exact rfl; (repeat (first | exact CellsAll.nil | (apply CellsAll.cons; (first | exact oneL (by assumption) | exact oneL (SlF.one (by assumption)) | exact oneL (SlF.one (OwnF.sl (by assumption))) | exact oneL (Var.one (by assumption)) | exact rfl)))); exact rfl; exact rfl)
  refine runJ ?_
  (apply s_storeV; exact rfl; exact rfl; exact rfl; (repeat (first | exact OneAll.nil | (apply OneAll.cons; (first | exact rfl | exact SlF.one (by assumption) | exact SlF.one (OwnF.sl (by assumption)) | exact Var.one (by assumption))))); exact rfl; exact rfl; exact w3; exact rfl)
  intro h5 x5 k5
  (try dsimp only [Value.cells, List.toList_toArray] at x5)
  refine ⟨(by first | exact trivial | exact Ext.refl _ | assumption | exact Ext.only (by assumption) _ | exact Only.trans (Ext.only (by assumption) _) (by assumption)), ?_⟩
  have x5 : Var h5 p8 54 [.slice none 0 0] := x5
  have e5 : Ext h h5 := k5.oldV (e13.trans e4) b3 e12.1
  refine runJ ?_
  exact finCT rfl rfl rfl x5 rfl rfl ⟨rfl, e5⟩

theorem Tryd_ent37 : Ent Tryd.prog 37 := ent_of Tryd.func37 (by kernel_rfl) rfl
theorem radd_nil (va vb : Value) (h : Hp) : CallsH Tryd.prog 37 [.pointer none, .agg #[va], .agg #[vb]] h fun v' h' => v' = .tuple #[.agg #[.slice none 0 0], N 1] ∧ Ext h h' := by
  (apply enter Tryd.func37 rfl Tryd.ntmps37 rfl)
  refine runJ ?_
  (apply s_box; exact rfl; exact rfl; exact rfl; exact rfl)
  intro p5 h1 x1 e1 b1
  (try dsimp only [Value.cells, List.toList_toArray] at x1)
  refine ⟨(by first | exact trivial | exact Ext.refl _ | assumption | exact Ext.trans (by assumption) (by assumption)), ?_⟩
  refine runJ ?_
  (apply s_box; exact rfl; exact rfl; exact rfl; exact rfl)
  intro p6 h2 x2 e2 b2
  (try dsimp only [Value.cells, List.toList_toArray] at x2)
  refine ⟨(by first | exact trivial | exact Ext.refl _ | assumption | exact Ext.trans (by assumption) (by assumption)), ?_⟩
  have y1 := x1.ext e2
  have e12 := e1.trans e2
  refine runJ ?_
  (apply s_alloc; exact rfl; exact rfl; exact rfl)
  intro p8 h3 x3 e3 b3
  (try dsimp only [Value.cells, List.toList_toArray] at x3)
  refine ⟨(by first | exact trivial | exact Ext.refl _ | assumption | exact Ext.trans (by assumption) (by assumption)), ?_⟩
  have z1 := y1.ext e3
  have z2 := x2.ext e3
  have e13 := e12.trans e3
  refine runJ ?_
  apply (s_call Tryd_ent61 rfl rfl rfl)
  refine (each_nil va vb _ h3).mono ?_
  rintro _ h4 ⟨rfl, e4⟩
  refine ⟨(by first | exact trivial | exact trivial), ?_⟩
  have w3 := x3.ext e4
  refine runJ ?_
  (apply s_storeV; exact rfl; exact rfl; exact rfl; (repeat (first | exact OneAll.nil | (apply OneAll.cons; (first | exact rfl | exact SlF.one (by assumption) | exact SlF.one (OwnF.sl (by assumption)) | exact Var.one (by assumption))))); exact rfl; exact rfl; exact w3; exact rfl)
  intro h5 x5 k5
  (try dsimp only [Value.cells, List.toList_toArray] at x5)
  refine ⟨(by first | exact trivial | exact Ext.refl _ | assumption | exact Ext.only (by assumption) _ | exact Only.trans (Ext.only (by assumption) _) (by assumption)), ?_⟩
  have x5 : Var h5 p8 54 [.slice none 0 0] := x5
  have e5 : Ext h h5 := k5.oldV (e13.trans e4) b3 e12.1
  refine runJ ?_
  exact finCT rfl rfl rfl x5 rfl rfl ⟨rfl, e5⟩

theorem Tryd_ent38 : Ent Tryd.prog 38 := ent_of Tryd.func38 (by kernel_rfl) rfl
theorem rsub_nil (va vb : Value) (h : Hp) : CallsH Tryd.prog 38 [.pointer none, .agg #[va], .agg #[vb]] h fun v' h' => v' = .tuple #[.agg #[.slice none 0 0], N 1] ∧ Ext h h' := by
  (apply enter Tryd.func38 rfl Tryd.ntmps38 rfl)
  refine runJ ?_
  (apply s_box; exact rfl; exact rfl; exact rfl; exact rfl)
  intro p5 h1 x1 e1 b1
  (try dsimp only [Value.cells, List.toList_toArray] at x1)
  refine ⟨(by first | exact trivial | exact Ext.refl _ | assumption | exact Ext.trans (by assumption) (by assumption)), ?_⟩
  refine runJ ?_
  (apply s_box; exact rfl; exact rfl; exact rfl; exact rfl)
  intro p6 h2 x2 e2 b2
  (try dsimp only [Value.cells, List.toList_toArray] at x2)
  refine ⟨(by first | exact trivial | exact Ext.refl _ | assumption | exact Ext.trans (by assumption) (by assumption)), ?_⟩
  have y1 := x1.ext e2
  have e12 := e1.trans e2
  refine runJ ?_
  (apply s_alloc; exact rfl; exact rfl; exact rfl)
  intro p8 h3 x3 e3 b3
  (try dsimp only [Value.cells, List.toList_toArray] at x3)
  refine ⟨(by first | exact trivial | exact Ext.refl _ | assumption | exact Ext.trans (by assumption) (by assumption)), ?_⟩
  have z1 := y1.ext e3
  have z2 := x2.ext e3
  have e13 := e12.trans e3
  refine runJ ?_
  apply (s_call Tryd_ent61 rfl rfl rfl)
  refine (each_nil va vb _ h3).mono ?_
  rintro _ h4 ⟨rfl, e4⟩
  refine ⟨(by first | exact trivial | exact trivial), ?_⟩
  have w3 := x3.ext e4
  refine runJ ?_
  (apply s_storeV; exact rfl; exact rfl; exact rfl; (repeat (first | exact OneAll.nil | (apply OneAll.cons; (first | exact rfl | exact SlF.one (by assumption) | exact SlF.one (OwnF.sl (by assumption)) | exact Var.one (by assumption))))); exact rfl; exact rfl; exact w3; exact rfl)
  intro h5 x5 k5
  (try dsimp only [Value.cells, List.toList_toArray] at x5)
  refine ⟨(by first | exact trivial | exact Ext.refl _ | assumption | exact Ext.only (by assumption) _ | exact Only.trans (Ext.only (by assumption) _) (by assumption)), ?_⟩
  have x5 : Var h5 p8 54 [.slice none 0 0] := x5
  have e5 : Ext h h5 := k5.oldV (e13.trans e4) b3 e12.1
  refine runJ ?_
  exact finCT rfl rfl rfl x5 rfl rfl ⟨rfl, e5⟩

theorem Tryd_ent39 : Ent Tryd.prog 39 := ent_of Tryd.func39 (by kernel_rfl) rfl
theorem rneg_nil (va : Value) (h : Hp) : CallsH Tryd.prog 39 [.pointer none, .agg #[va]] h fun v' h' => v' = .tuple #[.agg #[.slice none 0 0], N 1] ∧ Ext h h' := by
  (apply enter Tryd.func39 rfl Tryd.ntmps39 rfl)
  refine runJ ?_
  (apply s_box; exact rfl; exact rfl; exact rfl; exact rfl)
  intro p5 h1 x1 e1 b1
  (try dsimp only [Value.cells, List.toList_toArray] at x1)
  refine ⟨(by first | exact trivial | exact Ext.refl _ | assumption | exact Ext.trans (by assumption) (by assumption)), ?_⟩
  refine runJ ?_
  (apply s_alloc; exact rfl; exact rfl; exact rfl)
  intro p8 h3 x3 e3 b3
  (try dsimp only [Value.cells, List.toList_toArray] at x3)
  refine ⟨(by first | exact trivial | exact Ext.refl _ | assumption | exact Ext.trans (by assumption) (by assumption)), ?_⟩
  have z1 := x1.ext e3
  have e13 := e1.trans e3
  refine runJ ?_
  apply (s_call Tryd_ent61 rfl rfl rfl)
  refine (each_nil va va _ h3).mono ?_
  rintro _ h4 ⟨rfl, e4⟩
  refine ⟨(by first | exact trivial | exact trivial), ?_⟩
  have w3 := x3.ext e4
  refine runJ ?_
  (apply s_storeV; exact rfl; exact rfl; exact rfl; (repeat (first | exact OneAll.nil | (apply OneAll.cons; (first | exact rfl | exact SlF.one (by assumption) | exact SlF.one (OwnF.sl (by assumption)) | exact Var.one (by assumption))))); exact rfl; exact rfl; exact w3; exact rfl)
  intro h5 x5 k5
  (try dsimp only [Value.cells, List.toList_toArray] at x5)
  refine ⟨(by first | exact trivial | exact Ext.refl _ | assumption | exact Ext.only (by assumption) _ | exact Only.trans (Ext.only (by assumption) _) (by assumption)), ?_⟩
  have x5 : Var h5 p8 54 [.slice none 0 0] := x5
  have e5 : Ext h h5 := k5.oldV (e13.trans e4) b3 e1.1
  refine runJ ?_
  exact finCT rfl rfl rfl x5 rfl rfl ⟨rfl, e5⟩

theorem Tryd_ent42 : Ent Tryd.prog 42 := ent_of Tryd.func42 (by kernel_rfl) rfl
theorem drop_nil (va : Value) (k : Int) (h : Hp) : CallsH Tryd.prog 42 [.pointer none, .agg #[va], I k] h fun v' h' => v' = .tuple #[.agg #[.slice none 0 0], N 1] ∧ Ext h h' := by
  (apply enter Tryd.func42 rfl Tryd.ntmps42 rfl)
  refine runJ ?_
  (apply s_box; exact rfl; exact rfl; exact rfl; exact rfl)
  intro p5 h1 x1 e1 b1
  (try dsimp only [Value.cells, List.toList_toArray] at x1)
  refine ⟨(by first | exact trivial | exact Ext.refl _ | assumption | exact Ext.trans (by assumption) (by assumption)), ?_⟩
  refine runJ ?_
  (apply s_alloc; exact rfl; exact rfl; exact rfl)
  intro p8 h3 x3 e3 b3
  (try dsimp only [Value.cells, List.toList_toArray] at x3)
  refine ⟨(by first | exact trivial | exact Ext.refl _ | assumption | exact Ext.trans (by assumption) (by assumption)), ?_⟩
  have z1 := x1.ext e3
  have e13 := e1.trans e3
  refine runJ ?_
  apply (s_call Tryd_ent36 rfl rfl rfl)
  refine (level_nil va h3).mono ?_
  rintro _ h4 ⟨rfl, e4⟩
  refine ⟨(by first | exact trivial | exact trivial), ?_⟩
  have w3 := x3.ext e4
  refine runJ ?_
  (apply (s_build ([.slice none 0 0])); exact rfl; exact rfl; exact rfl; (repeat (first | exact CellsAll.nil | (apply CellsAll.cons; (first | exact oneL (by assumption) | exact oneL (SlF.one (by assumption)) | exact oneL (SlF.one (OwnF.sl (by assumption))) | exact oneL (Var.one (by assumption)) | exact rfl)))); exact rfl; exact rfl)
  refine runJ ?_
  (apply s_storeV; exact rfl; exact rfl; exact rfl; (repeat (first | exact OneAll.nil | (apply OneAll.cons; (first | exact rfl | exact SlF.one (by assumption) | exact SlF.one (OwnF.sl (by assumption)) | exact Var.one (by assumption))))); exact rfl; exact rfl; exact w3; exact rfl)
  intro h5 x5 k5
  (try dsimp only [Value.cells, List.toList_toArray] at x5)
  refine ⟨(by first | exact trivial | exact Ext.refl _ | assumption | exact Ext.only (by assumption) _ | exact Only.trans (Ext.only (by assumption) _) (by assumption)), ?_⟩
  have x5 : Var h5 p8 54 [.slice none 0 0] := x5
  have e5 : Ext h h5 := k5.oldV (e13.trans e4) b3 e1.1
  refine runJ ?_
  exact finCT rfl rfl rfl x5 rfl rfl ⟨rfl, e5⟩

theorem rlift_nil (k : Int) (h : Hp) : CallsH Tryd.prog 43 [.pointer none, .slice none 0 0, I k] h fun v' h' => v' = .tuple #[.agg #[.slice none 0 0], N 1] ∧ Ext h h' := by
  (apply enter Tryd.func43 rfl Tryd.ntmps43 rfl)
  refine runJ ?_
  (apply s_alloc; exact rfl; exact rfl; exact rfl)
  intro p8 h3 x3 e3 b3
  (try dsimp only [Value.cells, List.toList_toArray] at x3)
  refine ⟨(by first | exact trivial | exact Ext.refl _ | assumption | exact Ext.trans (by assumption) (by assumption)), ?_⟩
  refine runJ ?_
  (apply (s_build ([.slice none 0 0])); exact rfl; exact rfl; exact rfl; (repeat (first | exact CellsAll.nil | (apply CellsAll.cons; (first | exact oneL (by assumption) | exact oneL (SlF.one (by assumption)) | exact oneL (SlF.one (OwnF.sl (by assumption))) | exact oneL (Var.one (by assumption)) | exact rfl)))); exact rfl; exact rfl)
  refine runJ ?_
  (apply s_storeV; exact rfl; exact rfl; exact rfl; (repeat (first | exact OneAll.nil | (apply OneAll.cons; (first | exact rfl | exact SlF.one (by assumption) | exact SlF.one (OwnF.sl (by assumption)) | exact Var.one (by assumption))))); exact rfl; exact rfl; exact x3; exact rfl)
  intro h5 x5 k5
  (try dsimp only [Value.cells, List.toList_toArray] at x5)
  refine ⟨(by first | exact trivial | exact Ext.refl _ | assumption | exact Ext.only (by assumption) _ | exact Only.trans (Ext.only (by assumption) _) (by assumption)), ?_⟩
  have x5 : Var h5 p8 54 [.slice none 0 0] := x5
  have e5 : Ext h h5 := k5.oldV e3 b3 (Nat.le_refl _)
  refine runJ ?_
  exact finCT rfl rfl rfl x5 rfl rfl ⟨rfl, e5⟩

theorem Tryd_ent58 : Ent Tryd.prog 58 := ent_of Tryd.func58 (by kernel_rfl) rfl
theorem same5_spec (va vb : Value) (xs ys : List (Value × List Nat)) (h : Hp) (sa : PolAt h va xs) (sb : PolAt h vb ys) (hab : xs.length = ys.length) (he : ∀ (i : Nat) (x y : Value × List Nat), xs[i]? = some x → ys[i]? = some y → x.2 = y.2) (hl : xs.length < 1000) (hx : ∀ x ∈ xs, x.2.length < 1000000) :
    CallsH Tryd.prog 58 [.agg #[va], .agg #[vb]] h fun v' h' => v' = .bool true ∧ Ext h h' := by
  (apply enter Tryd.func58 rfl Tryd.ntmps58 rfl)
  refine runJ ?_
  (apply s_box; exact rfl; exact rfl; exact rfl; exact rfl)
  intro p2 h1 x1 e1 b1
  (try dsimp only [Value.cells, List.toList_toArray] at x1)
  refine ⟨(by first | exact trivial | exact Ext.refl _ | assumption | exact Ext.trans (by assumption) (by assumption)), ?_⟩
  refine runJ ?_
  (apply s_box; exact rfl; exact rfl; exact rfl; exact rfl)
  intro p3 h2 x2 e2 b2
  (try dsimp only [Value.cells, List.toList_toArray] at x2)
  refine ⟨(by first | exact trivial | exact Ext.refl _ | assumption | exact Ext.trans (by assumption) (by assumption)), ?_⟩
  have y1 := x1.ext e2
  have e12 := e1.trans e2
  have sa2 := (sa.ext e12).row
  have sb2 := (sb.ext e12).row
  have ela := (sa.ext e12).el
  have elb := (sb.ext e12).el
  refine runJ ?_
  (apply w_condF; exact rfl; exact rfl; exact (show ¬ xs.length ≠ ys.length by omega))
  refine runJ ?_
  (first | (apply w_seqB; exact rfl; apply w_block; exact rfl) | skip)
  apply (w_loop (σ := Nat) rfl (fun j => [(2, p2), (3, p3), (15, N xs.length), (16, N j)])
    (fun j h' => h2 = h' ∧ j ≤ xs.length) (fun j => xs.length - j) 0)
  · exact (Sub.cons rfl (Sub.cons rfl (Sub.cons rfl (Sub.cons rfl (Sub.nil _)))))
  · exact ⟨rfl, Nat.zero_le _⟩
  rintro j h' ⟨rfl, j1⟩
  refine runJ ?_
  (apply w_condD; exact rfl; exact rfl) <;> intro hj
  · obtain ⟨x, hxj⟩ := get_lt hj
    obtain ⟨y, hyj⟩ := get_lt (l := ys) (j := j) (by omega)
    have sx := ela x (List.mem_of_getElem? hxj)
    have sy := elb y (List.mem_of_getElem? hyj)
    have hxl := hx x (List.mem_of_getElem? hxj)
    have exy := he j x y hxj hyj
    obtain ⟨vx, ws⟩ := x
    obtain ⟨vy, us⟩ := y
    dsimp only at sx sy exy hxl ⊢
    subst exy
    have hS := sameU9_spec vx vy ws ws h2 sx sy (by omega) (by omega)
    rw [decide_eq_true (rfl : ws = ws)] at hS
    refine runJ ?_
    apply (s_call Tryd_ent17 rfl rfl rfl)
    refine (hS).mono ?_
    rintro _ _ ⟨rfl, rfl⟩
    refine ⟨(by first | exact trivial | exact Ext.refl _), ?_⟩
    refine runJ ?_
    apply again_normal (j + 1)
    · exact (Sub.cons rfl (Sub.cons rfl (Sub.cons rfl (Sub.cons rfl (Sub.nil _)))))
    · exact ⟨rfl, hj⟩
    · omega
  · refine runJ ?_
    exact fin1 rfl rfl ⟨rfl, e12⟩
end Go.Proofs.YtfgfmempmkjlnaaDoor

/- Package ring: the fixed calls. Condition: the table of math/bits reads as it is laid. -/
namespace Go.Proofs.YtfgfmempmkjlnaaDoor
set_option linter.unusedVariables false
set_option maxRecDepth 8000
open Go Go.Den Go.RowKit Go.Mth Go.Dig

theorem two_of {α : Type} {l : List α} (h : l.length = 2) : ∃ a b, l = [a, b] := by
  rcases l with _ | ⟨a, _ | ⟨b, _ | ⟨c, l⟩⟩⟩ <;> simp at h
  exact ⟨a, b, rfl⟩
theorem root13 {r : Nat} (h : RootR 13 4 r) : r = 5 := by
  obtain ⟨hr, w, hw, hp, ⟨j, hj, rfl⟩, hall⟩ := h
  have h0 := hall 0 (by decide)
  have h1 := hall 1 (by decide)
  have key : ∀ w, w < 13 → powm w (4 / 2) 13 = 13 - 1 → ∀ j, j < 4 / 2 → w ^ (2 * j + 1) % 13 ≤ w ^ (2 * 0 + 1) % 13 → w ^ (2 * j + 1) % 13 ≤ w ^ (2 * 1 + 1) % 13 → w ^ (2 * j + 1) % 13 = 5 := by decide
  exact key w hw hp j hj h0 h1
theorem isB13 : isB 13 = true := by decide +kernel
theorem qok5 : QOk 1 5 := ⟨by decide, by decide, by decide, isB5, 2, by decide, by decide, by decide⟩
theorem qok13 : QOk 1 13 := ⟨by decide, by decide, by decide, isB13, 2, by decide, by decide, by decide⟩
theorem mul5 {t : Tbl} {rs : List Nat} (K : TblOk t) (hL : t.L = 1) (hq : t.q = 5) (hR : RootR t.q 4 t.w) (P : Prd t [0, 1] [0, 1] rs) : rs = [4, 0] := by
  obtain ⟨L, q, w, u, p, vr, vu⟩ := t
  dsimp only at hL hq hR
  subst hL hq
  have hw := root5 hR
  subst hw
  exact prd_eq K P (by dsimp only; decide) (by
    intro k hk
    rcases (show k = 0 ∨ k = 1 by change k < 2 at hk; omega) with rfl | rfl <;> exact cgd (by dsimp only; decide))
theorem mul13 {t : Tbl} {rs : List Nat} (K : TblOk t) (hL : t.L = 1) (hq : t.q = 13) (hR : RootR t.q 4 t.w) (P : Prd t [0, 1] [0, 1] rs) : rs = [12, 0] := by
  obtain ⟨L, q, w, u, p, vr, vu⟩ := t
  dsimp only at hL hq hR
  subst hL hq
  have hw := root13 hR
  subst hw
  exact prd_eq K P (by dsimp only; decide) (by
    intro k hk
    rcases (show k = 0 ∨ k = 1 by change k < 2 at hk; omega) with rfl | rfl <;> exact cgd (by dsimp only; decide))

theorem same_two {u0 u1 v0 v1 : Value} {a b : List Nat} : ∀ (i : Nat) (x y : Value × List Nat), [(u0, a), (u1, b)][i]? = some x → [(v0, a), (v1, b)][i]? = some y → x.2 = y.2 := by
  intro i x y hx hy
  rcases i with _ | _ | i
  · cases hx; cases hy; rfl
  · cases hx; cases hy; rfl
  · cases hx
theorem short_two {u0 u1 : Value} {a b : List Nat} (ha : a.length < 1000000) (hb : b.length < 1000000) : ∀ x ∈ [(u0, a), (u1, b)], x.2.length < 1000000 := by
  intro x hx
  simp only [List.mem_cons, List.not_mem_nil, or_false] at hx
  rcases hx with rfl | rfl
  · exact ha
  · exact hb

theorem Tryd_ent35 : Ent Tryd.prog 35 := ent_of Tryd.func35 (by kernel_rfl) rfl
set_option maxHeartbeats 2000000 in
theorem fixed05_spec (h : Hp) (T : TB h) : CallsH Tryd.prog 35 [] h fun v' h' => v' = .bool true ∧ Ext h h' := by
  (apply enter Tryd.func35 rfl Tryd.ntmps35 rfl)
  refine runJ ?_
  (apply (s_litF (f := U) [5, 13] (fun _ => rfl)); exact rfl; exact rfl; exact rfl; exact rfl; exact rfl; exact rfl; exact rfl; exact rfl; omega)
  intro w1 h1 o1 e1 b1
  refine ⟨(by first | exact trivial | exact Ext.refl _ | assumption | exact Ext.trans (by assumption) (by assumption)), ?_⟩
  have NW := ringNew_spec 1 w1 [5, 13] h1 (T.ext e1) o1.sl (by decide) (by decide) (by intro q hq; simp only [List.mem_cons, List.not_mem_nil, or_false] at hq; rcases hq with rfl | rfl; exact qok5; exact qok13) (by decide) (by decide) (by decide)
  refine runJ ?_
  apply (s_call Tryd_ent57 rfl rfl rfl)
  refine (NW).mono ?_
  rintro _ h2 ⟨e2, g, R, rfl, A, K, hL, hqs⟩
  refine ⟨(by first | exact trivial | exact trivial), ?_⟩
  refine runJ ?_
  (apply (s_litF (f := I) [0, 1] (fun _ => rfl)); exact rfl; exact rfl; exact rfl; exact rfl; exact rfl; exact rfl; exact rfl; exact rfl; omega)
  intro w3 h3 o3 e3 b3
  refine ⟨(by first | exact trivial | exact Ext.refl _ | assumption | exact Ext.trans (by assumption) (by assumption)), ?_⟩
  have LF := ringLift_spec g w3 R [0, 1] 1 h3 K (A.ext e3) o3.sl (by intro x hx; simp only [List.mem_cons, List.not_mem_nil, or_false] at hx; omega) (by rw [hL]; rfl) (by rw [hqs]; decide)
  rw [hqs] at LF
  refine runJ ?_
  apply (s_call Tryd_ent43 rfl rfl rfl)
  refine (LF).mono ?_
  rintro _ h4 ⟨e4, vr, rows, p, rfl, S4, m4⟩
  refine ⟨(by first | exact trivial | exact trivial), ?_⟩
  obtain ⟨⟨v0, a0⟩, ⟨v1, a1⟩, rfl⟩ := two_of (l := rows) (by have := congrArg List.length m4; rw [List.length_map] at this; exact this)
  have m4 : [a0, a1] = [[0, 1], [0, 1]] := m4
  obtain rfl : a0 = [0, 1] := (List.cons.inj m4).1
  obtain rfl : a1 = [0, 1] := (List.cons.inj (List.cons.inj m4).2).1
  have S4 := S4.pol
  have A4 := (A.ext e3).ext e4
  have PO : PolOk R [(v0, [0, 1]), (v1, [0, 1])] := ⟨Nat.zero_lt_succ _, by rw [hqs]; exact Nat.le_refl 2, by
    intro i q x hx hq
    rw [hqs] at hq
    rw [hL]
    rcases i with _ | _ | i
    · cases hx; cases hq; exact (by decide : Fit (2 ^ 1) 5 [0, 1])
    · cases hx; cases hq; exact (by decide : Fit (2 ^ 1) 13 [0, 1])
    · cases hx⟩
  obtain ⟨⟨g0, t0⟩, ⟨g1, t1⟩, hts⟩ := two_of (l := R.ts) (by have := congrArg List.length K.map; rw [List.length_map, hqs] at this; exact this)
  have hmap := K.map
  rw [hts, hqs] at hmap
  have hmap : [t0.q, t1.q] = [5, 13] := hmap
  have hq0 : t0.q = 5 := (List.cons.inj hmap).1
  have hq1 : t1.q = 13 := (List.cons.inj (List.cons.inj hmap).2).1
  have k0 := K.ok (g0, t0) (by rw [hts]; simp)
  have k1 := K.ok (g1, t1) (by rw [hts]; simp)
  have i0 : R.ts[0]? = some (g0, t0) := by rw [hts]; rfl
  have i1 : R.ts[1]? = some (g1, t1) := by rw [hts]; rfl
  refine runJ ?_
  (apply s_alloc; exact rfl; exact rfl; exact rfl)
  intro p3 h5 x5 e5 b5
  (try dsimp only [Value.cells, List.toList_toArray] at x5)
  refine ⟨(by first | exact trivial | exact Ext.refl _ | assumption | exact Ext.trans (by assumption) (by assumption)), ?_⟩
  refine runJ ?_
  (apply s_storeV; exact rfl; exact rfl; exact rfl; exact (OneAll.cons (S4).row.one OneAll.nil : OneAll [vr]); exact rfl; exact rfl; exact x5; exact rfl)
  intro h6 x6 k6
  refine ⟨trivial, ?_⟩
  have x6 : Var h6 p3 54 [vr] := x6
  have e6 : Ext h4 h6 := k6.oldV e5 b5 (Nat.le_refl _)
  have A6 := A4.ext e6
  have S6 := S4.ext e6
  refine runJ ?_
  apply (s_call Tryd_ent40 rfl rfl rfl)
  refine (ringMul_spec g vr vr R _ _ h6 K A6 S6 S6 PO PO rfl).mono ?_
  rintro _ h7 ⟨e7, vm, mr, pm, rfl, S7, l7, P7⟩
  refine ⟨(by first | exact trivial | exact trivial), ?_⟩
  obtain ⟨⟨u0, a0⟩, ⟨u1, a1⟩, rfl⟩ := two_of (l := mr) l7
  obtain rfl : a0 = [4, 0] := mul5 k0.1 (k0.2.1.trans hL) hq0 (by have := k0.2.2; rw [hL] at this; exact this) (P7 0 _ _ _ _ rfl rfl i0 rfl)
  obtain rfl : a1 = [12, 0] := mul13 k1.1 (k1.2.1.trans hL) hq1 (by have := k1.2.2; rw [hL] at this; exact this) (P7 1 _ _ _ _ rfl rfl i1 rfl)
  have S7 := S7.pol
  have x7 := x6.ext e7
  refine runJ ?_
  (apply s_alloc; exact rfl; exact rfl; exact rfl)
  intro p5 h8 x8 e8 b8
  (try dsimp only [Value.cells, List.toList_toArray] at x8)
  refine ⟨(by first | exact trivial | exact Ext.refl _ | assumption | exact Ext.trans (by assumption) (by assumption)), ?_⟩
  refine runJ ?_
  (apply s_storeV; exact rfl; exact rfl; exact rfl; exact (OneAll.cons (S7).row.one OneAll.nil : OneAll [vm]); exact rfl; exact rfl; exact x8; exact rfl)
  intro h9 x9 k9
  refine ⟨trivial, ?_⟩
  have x9 : Var h9 p5 54 [vm] := x9
  have e9 : Ext h7 h9 := k9.oldV e8 b8 (Nat.le_refl _)
  have y9 := x7.ext e9
  have A9 := (A6.ext e7).ext e9
  have S9 := (S6.ext e7).ext e9
  refine runJ ?_
  apply (s_call Tryd_ent41 rfl rfl rfl)
  refine (turn_spec g vr R _ 3 h9 K A9 S9 PO (by decide) (by decide)).mono ?_
  rintro _ h10 ⟨e10, vt, tr, pt, rfl, S10, l10, P10⟩
  refine ⟨(by first | exact trivial | exact trivial), ?_⟩
  obtain ⟨⟨y0, c0⟩, ⟨y1, c1⟩, rfl⟩ := two_of (l := tr) l10
  obtain rfl : c0 = [0, 4] := (P10 0 5 _ _ rfl (by rw [hqs]; rfl) rfl).trans (by rw [hL]; exact (by decide : turnL (2 ^ 1) 5 3 [0, 1] = [0, 4]))
  obtain rfl : c1 = [0, 12] := (P10 1 13 _ _ rfl (by rw [hqs]; rfl) rfl).trans (by rw [hL]; exact (by decide : turnL (2 ^ 1) 13 3 [0, 1] = [0, 12]))
  have S10 := S10.pol
  have x10 := x9.ext e10
  refine runJ ?_
  (apply s_alloc; exact rfl; exact rfl; exact rfl)
  intro p7 h11 x11 e11 b11
  (try dsimp only [Value.cells, List.toList_toArray] at x11)
  refine ⟨(by first | exact trivial | exact Ext.refl _ | assumption | exact Ext.trans (by assumption) (by assumption)), ?_⟩
  refine runJ ?_
  (apply s_storeV; exact rfl; exact rfl; exact rfl; exact (OneAll.cons (S10).row.one OneAll.nil : OneAll [vt]); exact rfl; exact rfl; exact x11; exact rfl)
  intro h12 x12 k12
  refine ⟨trivial, ?_⟩
  have x12 : Var h12 p7 54 [vt] := x12
  have e12 : Ext h10 h12 := k12.oldV e11 b11 (Nat.le_refl _)
  have y12 := x10.ext e12
  refine runJ ?_
  (apply (s_litF (f := U) [4, 0] (fun _ => rfl)); exact rfl; exact rfl; exact rfl; exact rfl; exact rfl; exact rfl; exact rfl; exact rfl; omega)
  intro w13 h13 o13 e13 b13
  refine ⟨(by first | exact trivial | exact Ext.refl _ | assumption | exact Ext.trans (by assumption) (by assumption)), ?_⟩
  refine runJ ?_
  (apply (s_litF (f := U) [12, 0] (fun _ => rfl)); exact rfl; exact rfl; exact rfl; exact rfl; exact rfl; exact rfl; exact rfl; exact rfl; omega)
  intro w14 h14 o14 e14 b14
  refine ⟨(by first | exact trivial | exact Ext.refl _ | assumption | exact Ext.trans (by assumption) (by assumption)), ?_⟩
  have q13 := o13.sl.ext e14
  have o14s := o14.sl
  refine runJ ?_
  (apply (s_lit (f := Prod.fst) (vs := [w13, w14]) [(w13, [4, 0]), (w14, [12, 0])]); exact rfl; exact rfl; exact rfl; exact rfl; exact rfl; exact rfl; exact OneAll.all (OneAll.cons q13.one (OneAll.cons o14s.one OneAll.nil)); exact rfl; exact rfl; exact rfl; omega)
  intro w15 h15 o15 e15 b15
  refine ⟨(by first | exact trivial | exact Ext.refl _ | assumption | exact Ext.trans (by assumption) (by assumption)), ?_⟩
  have x15 := (y12.ext e13).ext (e14.trans e15)
  have z15 := (((x10.ext e12).ext e13).ext (e14.trans e15))
  have y15 := (((y12.ext e13).ext e14).ext e15)
  have p15 : PolAt h15 w15 [(w13, [4, 0]), (w14, [12, 0])] := ⟨o15.sl, by
    intro x hx
    simp only [List.mem_cons, List.not_mem_nil, or_false] at hx
    rcases hx with rfl | rfl
    · exact q13.ext e15
    · exact o14s.ext e15⟩
  have S7' := S7.ext (((((e9.trans e10).trans e12).trans e13).trans e14).trans e15)
  refine runJ ?_
  (apply (s_build ([w15])); exact rfl; exact rfl; exact rfl; (repeat (first | exact CellsAll.nil | (apply CellsAll.cons; (first | exact oneL (by assumption) | exact oneL (SlF.one (by assumption)) | exact oneL (SlF.one (OwnF.sl (by assumption))) | exact oneL (Var.one (by assumption)) | exact rfl)))); exact rfl; exact rfl)
  refine runJ ?_
  apply (s_call Tryd_ent58 rfl rfl rfl)
  refine (same5_spec vm w15 _ _ h15 S7' p15 rfl same_two (Nat.lt_of_lt_of_le (Nat.lt_succ_self 2) (by decide)) (short_two (by decide) (by decide))).mono ?_
  rintro _ h16 ⟨rfl, e16⟩
  refine ⟨(by first | exact trivial | exact trivial), ?_⟩
  have z16 := x12.ext (((e13.trans e14).trans e15).trans e16)
  refine runJ ?_
  (apply (s_litF (f := U) [0, 4] (fun _ => rfl)); exact rfl; exact rfl; exact rfl; exact rfl; exact rfl; exact rfl; exact rfl; exact rfl; omega)
  intro w17 h17 o17 e17 b17
  refine ⟨(by first | exact trivial | exact Ext.refl _ | assumption | exact Ext.trans (by assumption) (by assumption)), ?_⟩
  refine runJ ?_
  (apply (s_litF (f := U) [0, 12] (fun _ => rfl)); exact rfl; exact rfl; exact rfl; exact rfl; exact rfl; exact rfl; exact rfl; exact rfl; omega)
  intro w18 h18 o18 e18 b18
  refine ⟨(by first | exact trivial | exact Ext.refl _ | assumption | exact Ext.trans (by assumption) (by assumption)), ?_⟩
  have q17 := o17.sl.ext e18
  have o18s := o18.sl
  refine runJ ?_
  (apply (s_lit (f := Prod.fst) (vs := [w17, w18]) [(w17, [0, 4]), (w18, [0, 12])]); exact rfl; exact rfl; exact rfl; exact rfl; exact rfl; exact rfl; exact OneAll.all (OneAll.cons q17.one (OneAll.cons o18s.one OneAll.nil)); exact rfl; exact rfl; exact rfl; omega)
  intro w19 h19 o19 e19 b19
  refine ⟨(by first | exact trivial | exact Ext.refl _ | assumption | exact Ext.trans (by assumption) (by assumption)), ?_⟩
  have p19 : PolAt h19 w19 [(w17, [0, 4]), (w18, [0, 12])] := ⟨o19.sl, by
    intro x hx
    simp only [List.mem_cons, List.not_mem_nil, or_false] at hx
    rcases hx with rfl | rfl
    · exact q17.ext e19
    · exact o18s.ext e19⟩
  have E19 := ((((((e12.trans e13).trans e14).trans e15).trans e16).trans e17).trans e18).trans e19
  have S10' := S10.ext E19
  refine runJ ?_
  (apply (s_build ([w19])); exact rfl; exact rfl; exact rfl; (repeat (first | exact CellsAll.nil | (apply CellsAll.cons; (first | exact oneL (by assumption) | exact oneL (SlF.one (by assumption)) | exact oneL (SlF.one (OwnF.sl (by assumption))) | exact oneL (Var.one (by assumption)) | exact rfl)))); exact rfl; exact rfl)
  refine runJ ?_
  apply (s_call Tryd_ent58 rfl rfl rfl)
  refine (same5_spec vt w19 _ _ h19 S10' p19 rfl same_two (Nat.lt_of_lt_of_le (Nat.lt_succ_self 2) (by decide)) (short_two (by decide) (by decide))).mono ?_
  rintro _ h20 ⟨rfl, e20⟩
  refine ⟨(by first | exact trivial | exact trivial), ?_⟩
  refine runJ ?_
  exact fin1 rfl rfl ⟨rfl, (((((((e1.trans e2).trans e3).trans e4).trans e6).trans e7).trans e9).trans e10).trans (E19.trans e20)⟩
end Go.Proofs.YtfgfmempmkjlnaaDoor

/- Package batch: no batch at all; the powers that move slots. No condition. -/
namespace Go.Proofs.YtfgfmempmkjlnaaDoor
set_option linter.unusedVariables false
set_option maxRecDepth 8000
open Go Go.Den Go.RowKit Go.Mth Go.Dig

theorem Tryd_ent24 : Ent Tryd.prog 24 := ent_of Tryd.func24 (by kernel_rfl) rfl
theorem pack_nil (vv : Value) (h : Hp) : CallsH Tryd.prog 24 [.pointer none, vv] h fun v' h' => v' = .tuple #[.slice none 0 0, N 1] ∧ h = h' := by
  (apply enter Tryd.func24 rfl Tryd.ntmps24 rfl)
  refine runJ ?_
  exact fin2 rfl rfl rfl ⟨rfl, rfl⟩
theorem Tryd_ent25 : Ent Tryd.prog 25 := ent_of Tryd.func25 (by kernel_rfl) rfl
theorem unpack_nil (vv : Value) (h : Hp) : CallsH Tryd.prog 25 [.pointer none, vv] h fun v' h' => v' = .tuple #[.slice none 0 0, N 1] ∧ h = h' := by
  (apply enter Tryd.func25 rfl Tryd.ntmps25 rfl)
  refine runJ ?_
  exact fin2 rfl rfl rfl ⟨rfl, rfl⟩
theorem Tryd_ent30 : Ent Tryd.prog 30 := ent_of Tryd.func30 (by kernel_rfl) rfl
theorem power_nil (k : Int) (h : Hp) : CallsH Tryd.prog 30 [.pointer none, I k] h fun v' h' => v' = N 0 ∧ h = h' := by
  (apply enter Tryd.func30 rfl Tryd.ntmps30 rfl)
  refine runJ ?_
  exact fin1 rfl rfl ⟨rfl, rfl⟩

/-- The power of X that so many steps make. -/
def pow3 (n k : Nat) : Nat := 3 ^ k % (2 * n)
set_option maxHeartbeats 1000000 in
theorem power_spec (g vt vp : Value) (L t : Nat) (k : Int) (h : Hp) (G : Var h g 86 [N (2 ^ L), N (2 ^ L / 2), U t, vt, vp]) (hL : 1 ≤ L) (hL2 : L ≤ 12) (hk : -9223372036854775808 ≤ k ∧ k < 9223372036854775808) :
    CallsH Tryd.prog 30 [g, I k] h fun v' h' => v' = N (pow3 (2 ^ L) (k.emod ((2 ^ L / 2 : Nat) : Int)).toNat) ∧ h = h' := by
  have hn : 2 ≤ 2 ^ L ∧ 2 ^ L ≤ 4096 := ⟨Nat.pow_le_pow_right (n := 2) (by omega) hL, Nat.pow_le_pow_right (n := 2) (by omega) hL2⟩
  have hM : ∀ a : Nat, a &&& (2 * 2 ^ L - 1) = a % (2 * 2 ^ L) := fun a => by
    rw [show 2 * 2 ^ L = 2 ^ (L + 1) by rw [Nat.pow_succ, Nat.mul_comm]]; exact Nat.and_two_pow_sub_one_eq_mod _ _
  generalize 2 ^ L = n at *
  obtain ⟨s, hs⟩ : ∃ s, s = n / 2 := ⟨_, rfl⟩
  rw [← hs] at G ⊢
  have hs1 : 1 ≤ s := by omega
  obtain ⟨gb, hgp, -⟩ := id G
  obtain ⟨e, he, hes, htm⟩ : ∃ e : Nat, (k.emod (s : Int)).toNat = e ∧ e < s ∧ (k.tmod (s : Int) = e ∨ k.tmod (s : Int) = (e : Int) - s) := by
    have h1 := Int.emod_nonneg k (show (s : Int) ≠ 0 by omega)
    have h2 := Int.emod_lt_of_pos k (show (0 : Int) < s by omega)
    have h3 := Int.tmod_eq_emod (a := k) (b := s)
    refine ⟨(k.emod (s : Int)).toNat, rfl, ?_, ?_⟩
    · change (k % (s : Int)).toNat < s
      omega
    · change k.tmod (s : Int) = ((k % (s : Int)).toNat : Int) ∨ k.tmod (s : Int) = ((k % (s : Int)).toNat : Int) - s
      rw [h3]
      split <;> omega
  rw [he]
  (apply enter Tryd.func30 rfl Tryd.ntmps30 rfl)
  refine runJ ?_
  refine s_remI (b := (s : Int)) rfl rfl rfl (by omega) ?_
  generalize k.tmod (s : Int) = tm at *
  have hp0 : 1 = pow3 n 0 := by unfold pow3; rw [Nat.pow_zero, Nat.mod_eq_of_lt (by omega)]
  have hps : ∀ j, pow3 n j < 2 * n ∧ pow3 n j * 3 &&& (2 * n - 1) = pow3 n (j + 1) := fun j => by
    refine ⟨Nat.mod_lt _ (by omega), ?_⟩
    rw [hM]
    unfold pow3
    rw [Nat.pow_succ, Nat.mod_mul_mod]
  refine runJ ?_
  (apply w_condD; exact rfl; exact rfl) <;> intro hc
  · refine runJ ?_
    (apply w_know (t := 22) (u := N (e)) rfl (congrArg I (by omega)))
    (first | (apply w_seqB; exact rfl; apply w_block; exact rfl) | skip)
    apply (w_loop (σ := Nat) rfl (fun j => [(0, g), (5, N (pow3 n j)), (22, N e), (23, N j)]) (fun j h' => h = h' ∧ j ≤ e) (fun j => e - j) 0)
    · rw [← hp0]; exact (Sub.cons rfl (Sub.cons rfl (Sub.cons rfl (Sub.cons rfl (Sub.nil _)))))
    · exact ⟨rfl, Nat.zero_le _⟩
    rintro j h' ⟨rfl, j1⟩
    have hpj := (hps j).1
    have hpn := (hps j).2
    refine runJ ?_
    (apply w_condD; exact rfl; exact rfl) <;> intro hj
    · refine runJ ?_
      rw [hpn]
      refine runJ ?_
      apply again_normal (j + 1)
      · exact (Sub.cons rfl (Sub.cons rfl (Sub.cons rfl (Sub.cons rfl (Sub.nil _)))))
      · exact ⟨rfl, hj⟩
      · omega
    · obtain rfl : j = e := by omega
      refine runJ ?_
      exact fin1 rfl rfl ⟨rfl, rfl⟩
  · refine runJ ?_
    (apply w_know (t := 22) (u := N (e)) rfl (congrArg I (by omega)))
    (first | (apply w_seqB; exact rfl; apply w_block; exact rfl) | skip)
    apply (w_loop (σ := Nat) rfl (fun j => [(0, g), (5, N (pow3 n j)), (22, N e), (23, N j)]) (fun j h' => h = h' ∧ j ≤ e) (fun j => e - j) 0)
    · rw [← hp0]; exact (Sub.cons rfl (Sub.cons rfl (Sub.cons rfl (Sub.cons rfl (Sub.nil _)))))
    · exact ⟨rfl, Nat.zero_le _⟩
    rintro j h' ⟨rfl, j1⟩
    have hpj := (hps j).1
    have hpn := (hps j).2
    refine runJ ?_
    (apply w_condD; exact rfl; exact rfl) <;> intro hj
    · refine runJ ?_
      rw [hpn]
      refine runJ ?_
      apply again_normal (j + 1)
      · exact (Sub.cons rfl (Sub.cons rfl (Sub.cons rfl (Sub.cons rfl (Sub.nil _)))))
      · exact ⟨rfl, hj⟩
      · omega
    · obtain rfl : j = e := by omega
      refine runJ ?_
      exact fin1 rfl rfl ⟨rfl, rfl⟩
end Go.Proofs.YtfgfmempmkjlnaaDoor

/- Package batch: a row is packed. No condition. -/
namespace Go.Proofs.YtfgfmempmkjlnaaDoor
set_option linter.unusedVariables false
set_option maxRecDepth 8000
open Go Go.Den Go.RowKit Go.Mth Go.Dig

theorem cells_neq {h : Hp} {p w u : Value} {cs : List Value} {k : Nat} (s : Cells h p (u :: cs)) (hw : w.ownBlock = some k) (hk : h.size ≤ k) : pblk p ≠ w.ownBlock := fun e => by
  obtain ⟨b, o, rfl, hc⟩ := s
  have := cellH_lt (hc 0 u rfl)
  rw [hw] at e
  have e : some b = some k := e
  cases e; omega

/-- What a batch holds. -/
structure BatD where
  L : Nat
  t : Nat
  vt : Value
  T : Tbl
  vp : Value
  ps : List (Nat × Nat)
def pr2 (x : Nat × Nat) : List Value := [N x.1, N x.2]
structure BatAt (h : Hp) (g : Value) (B : BatD) : Prop where mk ::
  var : Var h g 86 [N (2 ^ B.L), N (2 ^ B.L / 2), U B.t, B.vt, B.vp]
  tab : TblAt h B.vt B.T
  pl : SlA h pr2 2 B.vp B.ps
theorem BatAt.ext {h h' : Hp} {g : Value} {B : BatD} (s : BatAt h g B) (e : Ext h h') : BatAt h' g B := ⟨s.var.ext e, s.tab.ext e, s.pl.ext e⟩
/-- Where the value of a slot, and that beneath it, stand. -/
def place (n i : Nat) : Nat × Nat := ((pow3 n i - 1) / 2, (2 * n - pow3 n i - 1) / 2)
structure BatOk (B : BatD) : Prop where mk ::
  l1 : 1 ≤ B.L
  l9 : B.L ≤ 9
  tl : B.T.L = B.L
  tq : B.T.q = B.t
  ok : TblOk B.T
  root : RootR B.t (2 ^ (B.L + 1)) B.T.w
  ps : B.ps = (List.range (2 ^ B.L / 2)).map (place (2 ^ B.L))
/-- The values of a row, each laid in its two places. -/
def layF (n t : Nat) : List Int → List Nat
  | xs => (xs.zipIdx).foldl (fun ys x => (ys.set (place n x.2).1 (liftm x.1 t)).set (place n x.2).2 (liftm x.1 t)) (List.replicate n 0)
theorem layF_snoc (n t : Nat) (xs : List Int) (x : Int) : layF n t (xs ++ [x]) = ((layF n t xs).set (place n xs.length).1 (liftm x t)).set (place n xs.length).2 (liftm x t) := by
  unfold layF
  dsimp only
  rw [List.zipIdx_append, List.foldl_append]
  simp
theorem layF_len (n t : Nat) (xs : List Int) : (layF n t xs).length = n := by
  unfold layF
  dsimp only
  suffices H : ∀ (l : List (Int × Nat)) (ys : List Nat), ys.length = n → (l.foldl (fun ys x => (ys.set (place n x.2).1 (liftm x.1 t)).set (place n x.2).2 (liftm x.1 t)) ys).length = n from H _ _ (by simp)
  intro l
  induction l with
  | nil => intro ys h; exact h
  | cons a l ih => intro ys h; rw [List.foldl_cons]; exact ih _ (by simp [h])
theorem liftm_lt9 {v : Int} {t : Nat} (ht : 0 < t) : liftm v t < t := by
  unfold liftm
  rw [if_neg (by omega)]
  have h1 := Int.emod_nonneg v (show (t : Int) ≠ 0 by omega)
  have h2 := Int.emod_lt_of_pos v (show (0 : Int) < t by omega)
  omega
theorem layF_lt {n t : Nat} (ht : 0 < t) (xs : List Int) : ∀ x ∈ layF n t xs, x < t := by
  unfold layF
  dsimp only
  suffices H : ∀ (l : List (Int × Nat)) (ys : List Nat), (∀ y ∈ ys, y < t) → ∀ y ∈ (l.foldl (fun ys x => (ys.set (place n x.2).1 (liftm x.1 t)).set (place n x.2).2 (liftm x.1 t)) ys), y < t from H _ _ (by intro y hy; have := (List.mem_replicate.1 hy).2; omega)
  intro l
  induction l with
  | nil => intro ys h; exact h
  | cons a l ih =>
    intro ys h
    rw [List.foldl_cons]
    refine ih _ fun y hy => ?_
    rcases List.mem_or_eq_of_mem_set hy with hy | rfl
    · rcases List.mem_or_eq_of_mem_set hy with hy | rfl
      · exact h y hy
      · exact liftm_lt9 ht
    · exact liftm_lt9 ht
theorem place_lt {n : Nat} (hn : 0 < n) (i : Nat) : (place n i).1 < n ∧ (place n i).2 < n := by
  have : pow3 n i < 2 * n := Nat.mod_lt _ (by omega)
  unfold place
  constructor <;> dsimp only <;> omega

set_option maxHeartbeats 1000000 in
theorem pack_spec (g vv : Value) (B : BatD) (xs : List Int) (h : Hp) (K : BatOk B) (A : BatAt h g B) (s : SlF h I vv xs) (hx : ∀ x ∈ xs, -9223372036854775808 ≤ x ∧ x < 9223372036854775808) (hl : xs.length ≤ 2 ^ B.L / 2) :
    CallsH Tryd.prog 24 [g, vv] h fun v' h' => Ext h h' ∧ ∃ r rs, v' = .tuple #[r, N 0] ∧ OwnF h' h.size 24 U r rs ∧ Bck B.T (layF (2 ^ B.L) B.t xs) rs := by
  have hn : 2 ≤ 2 ^ B.L ∧ 2 ^ B.L ≤ 512 := ⟨Nat.pow_le_pow_right (n := 2) (by omega) K.l1, Nat.pow_le_pow_right (n := 2) (by omega) K.l9⟩
  have G := A.var
  have pl := A.pl
  have hps := K.ps
  have hq61 := K.ok.q61
  have hq1 := K.ok.q1
  have htq := K.tq
  have htl := K.tl
  have Tb := A.tab
  have Tk := K.ok
  obtain ⟨L, t, vt, T, vp, ps⟩ := B
  dsimp only at G pl hps hn hl htq htl Tb Tk hq61 hq1 ⊢
  rw [htq] at hq61 hq1
  have hBk := fun va xs h => back_spec vt va T xs h Tk
  rw [htl, htq] at hBk
  generalize hnn : 2 ^ L = n at *
  obtain ⟨gb, hgp, -⟩ := id G
  (apply enter Tryd.func24 rfl Tryd.ntmps24 rfl)
  refine runJ ?_
  rw [decide_eq_false (show ¬ n / 2 < xs.length by omega)]
  refine runJ ?_
  (apply (s_make (f := U) (bytes := 8) (0)); (first | exact isK_c | exact isK_t rfl); (first | exact isK_c | exact isK_t rfl); exact rfl; exact rfl; exact rfl; exact rfl; exact rfl; exact rfl; omega; omega; omega)
  intro w1 h1 o1 e1 b1
  refine ⟨(by first | exact trivial | exact Ext.refl _ | assumption | exact Ext.trans (by assumption) (by assumption)), ?_⟩
  have s1 := s.ext e1
  have ng := G.neq (u := w1) b1 (Nat.le_refl _)
  have hpn : ps.length = n / 2 := by rw [hps]; simp
  refine runJ ?_
  (first | (apply w_seqB; exact rfl; apply w_block; exact rfl) | skip)
  apply (w_loop (σ := Nat) rfl (fun j => [(0, g), (1, vv), (6, w1), (26, vv), (27, N xs.length), (28, N j)])
    (fun j h' => Ext h h' ∧ j ≤ xs.length ∧ OwnF h' h.size 24 U w1 (layF n t (xs.take j))) (fun j => xs.length - j) 0)
  · exact (Sub.cons rfl (Sub.cons rfl (Sub.cons rfl (Sub.cons rfl (Sub.cons rfl (Sub.cons rfl (Sub.nil _)))))))
  · exact ⟨e1, Nat.zero_le _, o1⟩
  clear o1 s1
  rintro j h2 ⟨e2, j1, o2⟩
  have s2 := s.ext e2
  have G2 := G.ext e2
  have p2 := pl.ext e2
  refine runJ ?_
  (apply w_condD; exact rfl; exact rfl) <;> intro hj
  · obtain ⟨x, hxj⟩ := get_lt hj
    have hxb := hx x (List.mem_of_getElem? hxj)
    obtain ⟨y, hyj⟩ := get_lt (l := ps) (j := j) (by omega)
    have hy : y = place n j := by
      rw [hps, List.getElem?_map, List.getElem?_range (by omega)] at hyj
      exact (Option.some.inj hyj).symm
    have hlt := place_lt (n := n) (by omega) j
    rw [← hy] at hlt
    have hlen := layF_len n t (xs.take j)
    have hcl := (pl.cells hyj)
    have hnc := cells_neq (w := w1) hcl b1 (Nat.le_refl _)
    have hl1 : y.1 < (layF n t (xs.take j)).length := by omega
    have hl2 : y.2 < ((layF n t (xs.take j)).set y.1 (liftm x t)).length := by rw [List.length_set]; omega
    refine runJ ?_
    apply (s_call Tryd_ent55 rfl rfl rfl)
    refine (lift_spec x t h2 hxb (by omega)).mono ?_
    rintro _ _ ⟨rfl, rfl⟩
    refine ⟨(by first | exact trivial | exact Ext.refl _ | assumption | exact Ext.trans (by assumption) (by assumption)), ?_⟩
    refine runJN ?_
    (apply (r_drawnO (w1.ownBlock)); exact rfl; exact mixed; kernel_rfl)
    refine runJ ?_
    refine s_indexArr (p := ptrAt vp (j * 2)) (j := 0) rfl hcl.ptr isK_c rfl rfl rfl (by decide) ?_
    have hc2 := hcl.ext e2
    have hcp : isPtr (ptrAt vp (j * 2)) = true := hcl.ptr
    generalize hpj : ptrAt vp (j * 2) = pj at *
    refine runJ ?_
    refine s_indexArr (p := pj) (j := 1) (congrArg some hpj) hcp isK_c rfl rfl rfl (by decide) ?_
    refine runJ ?_
    (apply (s_storeF (liftm x t)); exact rfl; exact rfl; exact rfl; exact rfl; exact rfl; exact o2; exact rfl; (first | assumption | omega))
    intro h3 o3 k3
    refine ⟨(by first | exact k3 | exact trivial | exact Ext.refl _ | assumption | exact Ext.trans (by assumption) (by assumption)), ?_⟩
    refine runJ ?_
    (apply (s_storeF (liftm x t)); exact rfl; exact rfl; exact rfl; exact rfl; exact rfl; exact o3; exact rfl; (first | assumption | omega))
    intro h4 o4 k4
    refine ⟨(by first | exact (k3.trans k4) | exact trivial | exact Ext.refl _ | assumption | exact Ext.trans (by assumption) (by assumption)), ?_⟩
    have e4 := o2.old (k3.trans k4) e2 (Nat.le_refl _)
    have hlj : (xs.take j).length = j := by rw [List.length_take]; omega
    refine runJ ?_
    apply again_normal (j + 1)
    · exact (Sub.cons rfl (Sub.cons rfl (Sub.cons rfl (Sub.cons rfl (Sub.cons rfl (Sub.cons rfl (Sub.nil _)))))))
    · refine ⟨e4, hj, ?_⟩
      rw [take_snoc hxj, layF_snoc, hlj, ← hy]
      exact o4
    · omega
  · obtain rfl : j = xs.length := by omega
    rw [List.take_length] at o2
    have T2 := Tb.ext e2
    have o2s := o2.sl
    have hfit : Fit n t (layF n t xs) := ⟨layF_len n t xs, layF_lt (by omega) xs⟩
    refine runJ ?_
    apply (s_call Tryd_ent16 rfl rfl rfl)
    refine (hBk w1 _ h2 T2 o2s hfit).mono ?_
    rintro _ h3 ⟨e3, r3, ys, rfl, o3, B3⟩
    refine ⟨(by first | exact trivial | exact trivial), ?_⟩
    refine runJ ?_
    exact fin2 rfl rfl rfl ⟨e2.trans e3, r3, ys, rfl, o3.base e2.1, B3⟩
end Go.Proofs.YtfgfmempmkjlnaaDoor
