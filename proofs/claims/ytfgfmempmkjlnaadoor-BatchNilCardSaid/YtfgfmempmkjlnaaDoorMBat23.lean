/- Texts BatD to OpenT of this work, joined: each says in its own head what it proves, and of which condition. -/
import Derived.Test.YtfgfmempmkjlnaaDoorMBat22
import Derived.ProofKit
import Derived.OpenShut
import Derived.ShutString
import Derived.ChangeOld
import Derived.Below
import Derived.Test.YtfgfmempmkjlnaaDoorRows
import Derived.LaidMore
import Derived.LaidLaws
import Derived.MakeChecks
/- Package batch: the fixed calls; the law BatchNil. Condition: the table of math/bits reads as it is laid. -/
namespace Go.Proofs.YtfgfmempmkjlnaaDoor
set_option linter.unusedVariables false
set_option maxRecDepth 8000
open Go Go.Den Go.RowKit Go.Mth Go.Dig

theorem root17 {r : Nat} (h : RootR 17 16 r) : r = 3 := by
  obtain ⟨hr, w, hw, hp, ⟨j, hj, rfl⟩, hall⟩ := h
  have key : ∀ w, w < 17 → powm w (16 / 2) 17 = 17 - 1 → ∀ j, j < 16 / 2 → (∀ i, i < 16 / 2 → w ^ (2 * j + 1) % 17 ≤ w ^ (2 * i + 1) % 17) → w ^ (2 * j + 1) % 17 = 3 := by decide +kernel
  exact key w hw hp j hj hall
theorem isB17 : isB 17 = true := by decide +kernel
theorem qok17 : QOk 3 17 := ⟨by decide, by decide, by decide, isB17, 3, by decide, by decide, by decide⟩
theorem par17 (w : Value) : parP ⟨8, 17, w, [97], 1⟩ := (by decide +kernel : parP ⟨8, 17, .bool false, [97], 1⟩)
theorem pack17 {B : BatD} {rs : List Nat} (K : BatOk B) (hL : B.L = 3) (ht : B.t = 17) (h : Bck B.T (layF (2 ^ B.L) B.t [1, 1, 1, 1]) rs) : rs = [1, 0, 0, 0, 0, 0, 0, 0] := by
  have hR := K.root
  have hTL := K.tl
  have hTq := K.tq
  have hK := K.ok
  rw [hL, ht] at hR h
  rw [hL] at hTL
  rw [ht] at hTq
  have hw := root17 hR
  rw [show layF (2 ^ 3) 17 [1, 1, 1, 1] = [1, 1, 1, 1, 1, 1, 1, 1] by decide +kernel] at h
  obtain ⟨L, t, vt, T, vp, ps⟩ := B
  obtain ⟨L', q, w, u, p, vr, vu⟩ := T
  dsimp only at hTL hTq hw h hK
  subst hTL hTq hw
  refine val_bck hK (by dsimp only; decide) ⟨by dsimp only; decide, fun k hk => ?_⟩ h
  rcases (show k = 0 ∨ k = 1 ∨ k = 2 ∨ k = 3 ∨ k = 4 ∨ k = 5 ∨ k = 6 ∨ k = 7 by change k < 8 at hk; omega) with rfl | rfl | rfl | rfl | rfl | rfl | rfl | rfl <;> exact cgd (by dsimp only; decide +kernel)

theorem Tryd_ent21 : Ent Tryd.prog 21 := ent_of Tryd.func21 (by kernel_rfl) rfl
set_option maxHeartbeats 1000000 in
theorem fixed09_spec (h : Hp) (TB0 : TB h) : CallsH Tryd.prog 21 [] h fun v' h' => v' = .bool true ∧ Ext h h' := by
  have PN := fun w h T A => batchNew_spec ⟨8, 17, w, [97], 1⟩ 3 h T A (par17 w) rfl (by decide) (by decide) qok17
  unfold ParD.cells at PN
  dsimp only at PN
  (apply enter Tryd.func21 rfl Tryd.ntmps21 rfl)
  refine runJ ?_
  (apply (s_litF (f := U) [97] (fun _ => rfl)); exact rfl; exact rfl; exact rfl; exact rfl; exact rfl; exact rfl; exact rfl; exact rfl; omega)
  intro w1 h1 o1 e1 b1
  refine ⟨(by first | exact trivial | exact Ext.refl _ | assumption | exact Ext.trans (by assumption) (by assumption)), ?_⟩
  refine runJ ?_
  (apply (s_build ([I 8, U 17, w1, I 1])); exact rfl; exact rfl; exact rfl; (repeat (first | exact CellsAll.nil | (apply CellsAll.cons; (first | exact oneL (by assumption) | exact oneL (SlF.one (by assumption)) | exact oneL (SlF.one (OwnF.sl (by assumption))) | exact oneL (Var.one (by assumption)) | exact rfl)))); exact rfl; exact rfl)
  refine runJ ?_
  apply (s_call Tryd_ent23 rfl rfl rfl)
  refine (PN w1 h1 (TB0.ext e1) ⟨o1.sl, by intro x hx; simp only [List.mem_singleton] at hx; omega, (by decide : 17 < 18446744073709551616), (by decide : 1 ≤ 4611686018427387904)⟩).mono ?_
  rintro _ h2 ⟨e2, g, B, rfl, A, K, hL, ht⟩
  refine ⟨(by first | exact trivial | exact trivial), ?_⟩
  refine runJ ?_
  (apply (s_litF (f := I) [1, 1, 1, 1] (fun _ => rfl)); exact rfl; exact rfl; exact rfl; exact rfl; exact rfl; exact rfl; exact rfl; exact rfl; omega)
  intro w3 h3 o3 e3 b3
  refine ⟨(by first | exact trivial | exact Ext.refl _ | assumption | exact Ext.trans (by assumption) (by assumption)), ?_⟩
  refine runJ ?_
  apply (s_call Tryd_ent24 rfl rfl rfl)
  refine (pack_spec g w3 B _ h3 K (A.ext e3) o3.sl (by intro x hx; simp only [List.mem_cons, List.not_mem_nil, or_false] at hx; omega) (by rw [hL]; decide)).mono ?_
  rintro _ h4 ⟨e4, r4, rs, rfl, o4, P4⟩
  refine ⟨(by first | exact trivial | exact trivial), ?_⟩
  obtain rfl := pack17 K hL ht P4
  have G4 := ((A.ext e3).ext e4).var
  have P1 := power_spec g B.vt B.vp B.L B.t 1 h4 G4 K.l1 (by have := K.l9; omega) (by decide)
  have P2 := power_spec g B.vt B.vp B.L B.t (-1) h4 G4 K.l1 (by have := K.l9; omega) (by decide)
  rw [hL, show pow3 (2 ^ 3) (Int.emod 1 ((2 ^ 3 / 2 : Nat) : Int)).toNat = 3 by decide +kernel] at P1
  rw [hL, show pow3 (2 ^ 3) (Int.emod (-1) ((2 ^ 3 / 2 : Nat) : Int)).toNat = 11 by decide +kernel] at P2
  refine runJ ?_
  apply (s_call Tryd_ent30 rfl rfl rfl)
  refine (P1).mono ?_
  rintro _ _ ⟨rfl, rfl⟩
  refine ⟨(by first | exact trivial | exact trivial), ?_⟩
  refine runJ ?_
  apply (s_call Tryd_ent30 rfl rfl rfl)
  refine (P2).mono ?_
  rintro _ _ ⟨rfl, rfl⟩
  refine ⟨(by first | exact trivial | exact trivial), ?_⟩
  refine runJ ?_
  (apply (s_litF (f := U) [1, 0, 0, 0, 0, 0, 0, 0] (fun _ => rfl)); exact rfl; exact rfl; exact rfl; exact rfl; exact rfl; exact rfl; exact rfl; exact rfl; omega)
  intro w5 h5 o5 e5 b5
  refine ⟨(by first | exact trivial | exact Ext.refl _ | assumption | exact Ext.trans (by assumption) (by assumption)), ?_⟩
  refine runJ ?_
  apply (s_call Tryd_ent17 rfl rfl rfl)
  refine (sameU9_spec r4 w5 _ _ h5 (o4.sl.ext e5) o5.sl (by decide) (by decide)).mono ?_
  rintro _ _ ⟨rfl, rfl⟩
  refine ⟨(by first | exact trivial | exact Ext.refl _ | assumption | exact Ext.trans (by assumption) (by assumption)), ?_⟩
  refine runJ ?_
  exact fin1 rfl rfl ⟨rfl, (((e1.trans e2).trans e3).trans e4).trans e5⟩

theorem Tryd_ent9 : Ent Tryd.prog 9 := ent_of Tryd.func9 (by kernel_rfl) rfl
theorem batchNil_law (vv : Value) (k : Int) (h : Hp) (T : TB h) :
    CallsH Tryd.prog 9 [vv, I k] h fun v' h' => v' = .bool true ∧ Ext h h' := by
  (apply enter Tryd.func9 rfl Tryd.ntmps9 rfl)
  refine runJ ?_
  apply (s_call Tryd_ent21 rfl rfl rfl)
  refine (fixed09_spec h T).mono ?_
  rintro _ h1 ⟨rfl, e1⟩
  refine ⟨(by first | exact trivial | exact trivial), ?_⟩
  refine runJ ?_
  apply (s_call Tryd_ent24 rfl rfl rfl)
  refine (pack_nil vv h1).mono ?_
  rintro _ _ ⟨rfl, rfl⟩
  refine ⟨(by first | exact trivial | exact trivial), ?_⟩
  refine runJ ?_
  apply (s_call Tryd_ent25 rfl rfl rfl)
  refine (unpack_nil _ h1).mono ?_
  rintro _ _ ⟨rfl, rfl⟩
  refine ⟨(by first | exact trivial | exact trivial), ?_⟩
  have sn := SlF.nil h1 U
  have sn2 := SlF.nil h1 I
  refine runJ ?_
  simp only [List.length_nil]
  refine runJ ?_
  simp only [List.length_nil]
  refine runJ ?_
  apply (s_call Tryd_ent30 rfl rfl rfl)
  refine (power_nil k h1).mono ?_
  rintro _ _ ⟨rfl, rfl⟩
  refine ⟨(by first | exact trivial | exact trivial), ?_⟩
  refine runJ ?_
  exact fin1 rfl rfl ⟨rfl, e1⟩
end Go.Proofs.YtfgfmempmkjlnaaDoor

/- What an argument that came in reads as: from the kit's reading of data to rows and variables of the own calculus. No condition. -/
namespace Go.Den
set_option linter.unusedVariables false
set_option maxRecDepth 8000
open Go Go.RowKit Go.ChangeShapes Go.WideShapes

/-- The cells read as data of the type. -/
def Opn (P : Program) (w : World) (t : TypeId) (cs : List Value) : Prop := ∃ (H : Type) (enc : TypeId × Value → H) (fuel : Nat) (x : DataW H × List MemPlace), DataW.trod enc P w 0 (fun _ => true) true fuel t cs = some x

theorem opn_of {P : Program} {w : World} {t : TypeId} {v : Value} {H : Type} {enc : TypeId × Value → H} {d : DataW H} {ps : List MemPlace} (h : DataW.Trod enc P w 0 (fun _ => true) true t v d ps) : Opn P w t v.cells.toList := by
  obtain ⟨fuel, hf⟩ := h
  exact ⟨H, enc, fuel, _, hf⟩

section
variable {P : Program} {w : World} {t : TypeId} {cs : List Value}

theorem Opn.bool (ht : P.underlying t = some .bool) (h : Opn P w t cs) : ∃ b, cs = [.bool b] := by
  obtain ⟨H, enc, fuel, x, h⟩ := h
  obtain ⟨b, h1, -⟩ := DataW.trod_bool ht h
  exact ⟨b, h1⟩
theorem Opn.int {k : IntKind} (ht : P.underlying t = some (.int k)) (h : Opn P w t cs) : ∃ n, cs = [.int k n] ∧ (Lit.int k n).wf = true := by
  obtain ⟨H, enc, fuel, x, h⟩ := h
  obtain ⟨n, h1, -, h2⟩ := DataW.trod_int ht h
  exact ⟨n, h1, h2⟩
theorem Opn.struct {fs : Array Field} (ht : P.underlying t = some (.struct fs)) (h : Opn P w t cs) : cs.length = P.cellsOf t ∧ ∀ (i : Nat) (f : Field), fs[i]? = some f → Opn P w f.type ((cs.drop f.offset).take (P.cellsOf f.type)) := by
  obtain ⟨H, enc, fuel, x, h⟩ := h
  obtain ⟨xs, n, -, -, h1, h2, h3⟩ := DataW.trod_struct ht h
  refine ⟨h1, fun i f hf => ?_⟩
  have hi : i < xs.length := by rw [h2]; exact (Array.getElem?_eq_some_iff.1 hf).1
  exact ⟨H, enc, n, xs[i], by rw [h3 i f hf]; simp [hi]⟩
/-- A slice: its cells, an element's worth at a time, read as data. -/
theorem Opn.slice {e : TypeId} {s : Nat} (ht : P.underlying t = some (.slice e)) (hs : P.cellsOf e = s) (hs0 : 0 < s) (h : Opn P w t cs) :
    ∃ v n es, cs = [v] ∧ Sl w.heap v n es ∧ es.length = n * s ∧ n ≤ maxLen ∧ ∀ i, i < n → Opn P w e ((es.drop (i * s)).take s) := by
  obtain ⟨H, enc, fuel, x, h⟩ := h
  rcases DataW.trod_slice ht h with ⟨rfl, -⟩ | ⟨a, len, cap, elems, rest, n, -, rfl, -, -, hl, hm, hlen, hel, -, -⟩
  · exact ⟨_, 0, [], rfl, Sl.nil _, by simp, Nat.zero_le _, fun i hi => by omega⟩
  · rw [hs] at hel
    have each : ∀ i, i < len → ∃ c, w.cells? 0 (a.add (i * s)) s = some c ∧ c.length = s ∧ Opn P w e c := fun i hi => by
      have h1 := hel i hi
      rw [List.getElem?_eq_getElem (by omega)] at h1
      cases hc : w.cells? 0 (a.add (i * s)) s with
      | none => rw [hc] at h1; cases h1
      | some c =>
        rw [hc] at h1
        refine ⟨c, rfl, (World.cells?_some hc).2.1, H, enc, n, _, h1⟩
    by_cases h0 : len = 0
    · subst h0
      exact ⟨_, 0, [], rfl, Sl.empty _ a cap, by simp, Nat.zero_le _, fun i hi => by omega⟩
    · have cellAt : ∀ i r, i < len → r < s → ∀ c, w.cells? 0 (a.add (i * s)) s = some c → w.cell? (a.add (i * s + r)) = c[r]? := fun i r hi hr c hc => by
        rw [← Addr.add_add]; exact (World.cells?_some hc).2.2 r hr
      have hspot : a.spot = none := by
        obtain ⟨c, hc, hcl, -⟩ := each 0 (by omega)
        have := cellAt 0 0 (by omega) hs0 c hc
        rw [List.getElem?_eq_getElem (by omega)] at this
        have e0 : a.add (0 * s + 0) = a := by simp [Addr.add]
        rw [e0] at this
        unfold World.cell? at this
        split at this
        · split at this
          · cases this
          · rename_i hsp; simpa using hsp
        · cases this
      obtain ⟨b, o, sp⟩ := a
      simp only at hspot
      subst hspot
      have total : ∀ j, j < len * s → ∃ u, w.cell? ((⟨b, o, none⟩ : Addr).add j) = some u := fun j hj => by
        have hi : j / s < len := (Nat.div_lt_iff_lt_mul hs0).2 hj
        have hr : j % s < s := Nat.mod_lt _ hs0
        obtain ⟨c, hc, hcl, -⟩ := each (j / s) hi
        have := cellAt (j / s) (j % s) hi hr c hc
        rw [List.getElem?_eq_getElem (by omega), Nat.mul_comm (j / s) s, Nat.div_add_mod] at this
        exact ⟨_, this⟩
      refine ⟨_, len, (List.range (len * s)).map (fun j => (w.cell? ((⟨b, o, none⟩ : Addr).add j)).getD undef), rfl, .inr ⟨b, o, cap, rfl, hl, fun j u hu => ?_⟩, by simp, Nat.le_trans hl hm, fun i hi => ?_⟩
      · rw [List.getElem?_map] at hu
        by_cases hj : j < len * s
        · rw [List.getElem?_range hj] at hu
          obtain ⟨u', hu'⟩ := total j hj
          rw [Option.map_some, hu', Option.getD_some] at hu
          cases hu
          rw [Addr.add_lit, cell?_cellH] at hu'
          exact hu'
        · rw [List.getElem?_eq_none (by simpa using hj)] at hu; cases hu
      · obtain ⟨c, hc, hcl, ho⟩ := each i hi
        have e : ((List.map (fun j => (w.cell? ((⟨b, o, none⟩ : Addr).add j)).getD undef) (List.range (len * s))).drop (i * s)).take s = c := by
          have hle : i * s + s ≤ len * s := by rw [← Nat.succ_mul]; exact Nat.mul_le_mul_right _ hi
          apply List.ext_getElem?
          intro r
          rw [List.getElem?_take]
          by_cases hr : r < s
          · rw [if_pos hr, List.getElem?_drop, List.getElem?_map, List.getElem?_range (by omega)]
            have := cellAt i r hi hr c hc
            rw [Option.map_some, this, List.getElem?_eq_getElem (by omega)]; rfl
          · rw [if_neg hr, List.getElem?_eq_none (by omega)]
        rw [e]; exact ho
end

/-! ### words -/
theorem nat_of_lit {n : Int} (h : (Lit.int .u64 n).wf = true) : ∃ m : Nat, n = (m : Int) ∧ m < 18446744073709551616 := by
  have := bounds_u64 h
  exact ⟨n.toNat, by omega, by omega⟩

def wordOf : Option Value → Nat
  | some (.int _ z) => z.toNat
  | _ => 0
theorem opn_words {P : Program} {w : World} {t e : TypeId} {cs : List Value} (ht : P.underlying t = some (.slice e)) (he : P.underlying e = some (.int .u64)) (hc : P.cellsOf e = 1) (h : Opn P w t cs) :
    ∃ v xs, cs = [v] ∧ SlF w.heap U v xs ∧ Dig.Al 18446744073709551616 xs ∧ xs.length ≤ maxLen := by
  obtain ⟨v, n, es, h1, h2, h3, h4, h5⟩ := h.slice ht hc Nat.zero_lt_one
  have key : ∀ i, i < n → ∃ m : Nat, es[i]? = some (U m) ∧ m < 18446744073709551616 := fun i hi => by
    obtain ⟨z, hz, hw⟩ := (h5 i hi).int he
    obtain ⟨m, rfl, hm⟩ := nat_of_lit hw
    refine ⟨m, ?_, hm⟩
    rw [Nat.mul_one] at hz
    have : (es.drop i)[0]? = some (U m) := by
      have h0 : ((es.drop i).take 1)[0]? = some (U m) := by rw [hz]; rfl
      rwa [List.getElem?_take, if_pos (by omega)] at h0
    rwa [List.getElem?_drop, Nat.add_zero] at this
  have hxs : es = ((List.range n).map fun i => wordOf es[i]?).map U := by
    apply List.ext_getElem?
    intro i
    by_cases hi : i < n
    · obtain ⟨m, hm, -⟩ := key i hi
      rw [List.getElem?_map, List.getElem?_map, List.getElem?_range hi]
      simp [hm, wordOf]
    · rw [List.getElem?_eq_none (by omega), List.getElem?_eq_none (by simp; omega)]
  refine ⟨v, (List.range n).map fun i => wordOf es[i]?, h1, ?_, ?_, by simpa using h4⟩
  · unfold SlF
    rw [← hxs]; simpa using h2
  · intro x hx
    obtain ⟨i, hi, rfl⟩ := List.mem_map.1 hx
    obtain ⟨m, hm, hlt⟩ := key i (List.mem_range.1 hi)
    rw [hm]
    simpa [wordOf] using hlt

/-- A struct of a bool and a row of words. -/
theorem opn_boolwords {P : Program} {w : World} {t tb tn e : TypeId} {cs : List Value} {f0 f1 : Field} (ht : P.underlying t = some (.struct #[f0, f1])) (h0 : (f0.type, f0.offset, P.cellsOf f0.type) = (tb, 0, 1)) (h1 : (f1.type, f1.offset, P.cellsOf f1.type) = (tn, 1, 1))
    (hb : P.underlying tb = some .bool) (hn : P.underlying tn = some (.slice e)) (he : P.underlying e = some (.int .u64)) (hc : P.cellsOf e = 1) (hz : P.cellsOf t = 2) (h : Opn P w t cs) :
    ∃ b v xs, cs = [.bool b, v] ∧ SlF w.heap U v xs ∧ Dig.Al 18446744073709551616 xs := by
  obtain ⟨g1, g2⟩ := h.struct ht
  simp only [Prod.mk.injEq] at h0 h1
  have o0 := g2 0 f0 (by simp)
  have o1 := g2 1 f1 (by simp)
  rw [h0.2.1, h0.2.2, h0.1] at o0
  rw [h1.2.1, h1.2.2, h1.1] at o1
  obtain ⟨b, e0⟩ := o0.bool hb
  obtain ⟨v, xs, e1, s, al, -⟩ := opn_words hn he hc o1
  refine ⟨b, v, xs, ?_, s, al⟩
  rw [hz] at g1
  match cs, g1 with
  | [c0, c1], _ =>
    simp at e0 e1
    rw [e0, e1]
theorem arg_words {P : Program} {w : World} {t e : TypeId} {v : Value} (ht : P.underlying t = some (.slice e)) (he : P.underlying e = some (.int .u64)) (hc : P.cellsOf e = 1) (hv : ∃ a len cap, v = .slice a len cap) (h : Opn P w t v.cells.toList) :
    ∃ xs, SlF w.heap U v xs ∧ Dig.Al 18446744073709551616 xs ∧ xs.length ≤ maxLen := by
  obtain ⟨a, len, cap, rfl⟩ := hv
  obtain ⟨v, xs, e1, h2⟩ := opn_words ht he hc h
  simp [Value.cells] at e1
  subst e1
  exact ⟨xs, h2⟩
theorem arg_boolwords {P : Program} {w : World} {t tb tn e : TypeId} {v : Value} {f0 f1 : Field} (ht : P.underlying t = some (.struct #[f0, f1])) (h0 : (f0.type, f0.offset, P.cellsOf f0.type) = (tb, 0, 1)) (h1 : (f1.type, f1.offset, P.cellsOf f1.type) = (tn, 1, 1))
    (hb : P.underlying tb = some .bool) (hn : P.underlying tn = some (.slice e)) (he : P.underlying e = some (.int .u64)) (hc : P.cellsOf e = 1) (hz : P.cellsOf t = 2) (hv : ∃ cs, v = .agg cs) (h : Opn P w t v.cells.toList) :
    ∃ b a xs, v = .agg #[.bool b, a] ∧ SlF w.heap U a xs ∧ Dig.Al 18446744073709551616 xs := by
  obtain ⟨cs, rfl⟩ := hv
  obtain ⟨b, a, xs, e1, h2, h3⟩ := opn_boolwords ht h0 h1 hb hn he hc hz h
  exact ⟨b, a, xs, by simp only [Value.cells] at e1; rw [show cs = #[.bool b, a] from Array.toList_inj.1 e1], h2, h3⟩
end Go.Den

/- What an argument that came in reads as: rows of ints, rows of rows, rows of structs. No condition. -/
namespace Go.Den
set_option linter.unusedVariables false
set_option maxRecDepth 8000
open Go Go.RowKit Go.ChangeShapes Go.WideShapes

theorem chunks {α : Type} {f : α → List Value} {R : α → Prop} {s : Nat} : ∀ (n : Nat) (es : List Value), es.length = n * s → (∀ i, i < n → ∃ x, (es.drop (i * s)).take s = f x ∧ R x) → ∃ xs : List α, xs.length = n ∧ es = xs.flatMap f ∧ ∀ x ∈ xs, R x
  | 0, es, hl, _ => ⟨[], rfl, by simpa using hl, by simp⟩
  | n + 1, es, hl, h => by
    obtain ⟨x, hx, hr⟩ := h 0 (by omega)
    rw [Nat.zero_mul, List.drop_zero] at hx
    have hl' : (es.drop s).length = n * s := by rw [List.length_drop, hl, Nat.succ_mul]; omega
    obtain ⟨xs, h1, h2, h3⟩ := chunks (f := f) (R := R) n (es.drop s) hl' (fun i hi => by
      obtain ⟨y, hy, hr⟩ := h (i + 1) (by omega)
      refine ⟨y, ?_, hr⟩
      rw [List.drop_drop, show s + i * s = (i + 1) * s by rw [Nat.succ_mul]; omega]
      exact hy)
    refine ⟨x :: xs, by simp [h1], ?_, ?_⟩
    · rw [List.flatMap_cons, ← h2, ← hx, List.take_append_drop]
    · intro y hy
      rcases List.mem_cons.1 hy with rfl | hy
      · exact hr
      · exact h3 y hy

def ib64 (z : Int) : Prop := -9223372036854775808 ≤ z ∧ z < 9223372036854775808
section
variable {P : Program} {w : World} {t e : TypeId} {cs : List Value}
theorem Opn.i64 (ht : P.underlying t = some (.int .i64)) (h : Opn P w t cs) : ∃ n, cs = [I n] ∧ ib64 n := by
  obtain ⟨n, h1, h2⟩ := h.int ht
  exact ⟨n, h1, by have := bounds_i64 h2; unfold ib64; omega⟩
theorem Opn.rowA {α : Type} {f : α → List Value} {R : α → Prop} {s : Nat} (ht : P.underlying t = some (.slice e)) (hs : P.cellsOf e = s) (hs0 : 0 < s) (hf : ∀ x, (f x).length = s) (h : Opn P w t cs) (he : ∀ c, Opn P w e c → ∃ x, c = f x ∧ R x) :
    ∃ v xs, cs = [v] ∧ SlA w.heap f s v xs ∧ (∀ x ∈ xs, R x) ∧ xs.length ≤ maxLen := by
  obtain ⟨v, n, es, h1, h2, h3, h4, h5⟩ := h.slice ht hs hs0
  obtain ⟨xs, g1, g2, g3⟩ := chunks (f := f) (R := R) n es h3 (fun i hi => he _ (h5 i hi))
  subst g1
  exact ⟨v, xs, h1, ⟨hf, by rw [← g2]; exact h2⟩, g3, h4⟩
theorem flat_one {α : Type} (f : α → Value) (xs : List α) : xs.flatMap (fun x => [f x]) = xs.map f := by
  induction xs with
  | nil => rfl
  | cons x xs ih => rw [List.flatMap_cons, ih]; rfl
theorem SlA.one' {α : Type} {f : α → Value} {h : Hp} {v : Value} {xs : List α} (s : SlA h (fun x => [f x]) 1 v xs) : SlF h f v xs := by
  have := s.2
  rw [flat_one] at this
  exact this
theorem Opn.ints (ht : P.underlying t = some (.slice e)) (he : P.underlying e = some (.int .i64)) (hc : P.cellsOf e = 1) (h : Opn P w t cs) :
    ∃ v xs, cs = [v] ∧ SlF w.heap I v xs ∧ (∀ x ∈ xs, ib64 x) ∧ xs.length ≤ maxLen := by
  obtain ⟨v, xs, h1, h2, h3, h4⟩ := h.rowA (f := fun x => [I x]) (R := ib64) ht hc Nat.zero_lt_one (fun _ => rfl) (fun c hc => Opn.i64 he hc)
  exact ⟨v, xs, h1, h2.one', h3, h4⟩
/-- A row of int, told with its front. -/
def RowI (h : Hp) (x : Value × List Int) : Prop := SlF h I x.1 x.2 ∧ (∀ z ∈ x.2, ib64 z) ∧ x.2.length ≤ maxLen
theorem Opn.introws {e2 : TypeId} (ht : P.underlying t = some (.slice e)) (he : P.underlying e = some (.slice e2)) (he2 : P.underlying e2 = some (.int .i64)) (hc : P.cellsOf e = 1) (hc2 : P.cellsOf e2 = 1) (h : Opn P w t cs) :
    ∃ v xs, cs = [v] ∧ SlF w.heap Prod.fst v xs ∧ (∀ x ∈ xs, RowI w.heap x) ∧ xs.length ≤ maxLen := by
  obtain ⟨v, xs, h1, h2, h3, h4⟩ := h.rowA (f := fun x : Value × List Int => [x.1]) (R := RowI w.heap) ht hc Nat.zero_lt_one (fun _ => rfl) (fun c hc => by
    obtain ⟨v, xs, g1, g2, g3, g4⟩ := Opn.ints he he2 hc2 hc
    exact ⟨(v, xs), g1, g2, g3, g4⟩)
  exact ⟨v, xs, h1, h2.one', h3, h4⟩
theorem arg_ints {v : Value} (ht : P.underlying t = some (.slice e)) (he : P.underlying e = some (.int .i64)) (hc : P.cellsOf e = 1) (hv : ∃ a len cap, v = .slice a len cap) (h : Opn P w t v.cells.toList) :
    ∃ xs, SlF w.heap I v xs ∧ (∀ x ∈ xs, ib64 x) ∧ xs.length ≤ maxLen := by
  obtain ⟨a, len, cap, rfl⟩ := hv
  obtain ⟨v, xs, e1, h2⟩ := h.ints ht he hc
  simp [Value.cells] at e1
  subst e1
  exact ⟨xs, h2⟩
theorem arg_introws {e2 : TypeId} {v : Value} (ht : P.underlying t = some (.slice e)) (he : P.underlying e = some (.slice e2)) (he2 : P.underlying e2 = some (.int .i64)) (hc : P.cellsOf e = 1) (hc2 : P.cellsOf e2 = 1) (hv : ∃ a len cap, v = .slice a len cap) (h : Opn P w t v.cells.toList) :
    ∃ xs, SlF w.heap Prod.fst v xs ∧ (∀ x ∈ xs, RowI w.heap x) ∧ xs.length ≤ maxLen := by
  obtain ⟨a, len, cap, rfl⟩ := hv
  obtain ⟨v, xs, e1, h2⟩ := h.introws ht he he2 hc hc2
  simp [Value.cells] at e1
  subst e1
  exact ⟨xs, h2⟩
/-- A part of a struct. -/
theorem Opn.part {fs : Array Field} {tt : TypeId} {off s : Nat} (ht : P.underlying t = some (.struct fs)) (i : Nat) (hi : (fs[i]?).map (fun f => (f.type, f.offset, P.cellsOf f.type)) = some (tt, off, s)) (h : Opn P w t cs) : Opn P w tt ((cs.drop off).take s) := by
  obtain ⟨-, g2⟩ := h.struct ht
  cases hf : fs[i]? with
  | none => rw [hf] at hi; cases hi
  | some f =>
    rw [hf] at hi
    simp only [Option.map_some, Option.some.injEq, Prod.mk.injEq] at hi
    obtain ⟨rfl, rfl, rfl⟩ := hi
    exact g2 i f hf
theorem Opn.width {fs : Array Field} {s : Nat} (ht : P.underlying t = some (.struct fs)) (hc : P.cellsOf t = s) (h : Opn P w t cs) : cs.length = s := by
  obtain ⟨g1, -⟩ := h.struct ht
  rw [g1, hc]
end
end Go.Den

/- What the listed table reads as when the call begins. No condition. -/
namespace Go.Proofs.YtfgfmempmkjlnaaDoor
set_option linter.unusedVariables false
set_option maxRecDepth 8000
open Go Go.Den Go.RowKit Go.ChangeShapes Go.WideShapes

def laidL : List (String × DataW Unit) := [("math/bits.deBruijn64tab", Rows.laid_math_bits_deBruijn64tab)]
theorem laid_eq : (Rows.laid_math_bits_deBruijn64tab : DataW Unit) = .agg (tzT.map fun b => .lit (.int .u8 ((b : Nat) : Int))) := rfl
theorem gTab : Tryd.prog.globalNamed "math/bits.deBruijn64tab" = some 2 := by kernel_rfl
theorem tTab : (Tryd.prog.globals[2]?).map (·.type) = some 122 := by kernel_rfl
theorem tb_of_laid {W : World} (h : laidMetH Tryd.prog laidL W) : TB W.heap := by
  rw [MakeChecks.laidMetH_plain _ _ _ (by kernel_rfl)] at h
  obtain ⟨ps, ⟨g0, t0, cs0, f0, p0, q0, hg0, ht0, hv0, hd0, hrest⟩, hrest2⟩ := h
  obtain rfl := Option.some.inj (gTab.symm.trans hg0)
  obtain rfl := Option.some.inj (tTab.symm.trans ht0)
  rw [laid_eq] at hd0
  obtain ⟨xs, m1, -, hx1, hlen, hn, hel⟩ := DataW.trod_array Tryd.underlying122 hd0
  have c5 : Tryd.prog.cellsOf 5 = 1 := by kernel_rfl
  simp only [Prod.mk.injEq, DataW.agg.injEq] at hx1
  have key : ∀ j, j < 64 → cs0.toList[j]? = some (.int .u8 ((tzT.getD j 0 : Nat) : Int)) := fun j hj => by
    have hxj : xs[j]? = some xs[j] := List.getElem?_eq_getElem (by omega)
    have h1 := hel j hj
    rw [c5, Nat.mul_one, hxj] at h1
    obtain ⟨k, e1, e2, -⟩ := DataW.trod_int Tryd.underlying5 h1
    have h2 := congrArg (fun l => l[j]?) hx1.1
    simp only [List.getElem?_map, hxj, Option.map_some] at h2
    rw [List.getElem?_eq_getElem (show j < tzT.length from hj), Option.map_some, Option.some.injEq] at h2
    rw [e2] at h2
    simp only [DataW.lit.injEq, Lit.int.injEq, true_and] at h2
    have h3 : (List.drop j cs0.toList)[0]? = some (Value.int .u8 k) := by
      have : ((List.drop j cs0.toList).take 1)[0]? = some (Value.int .u8 k) := by rw [e1]; rfl
      rwa [List.getElem?_take, if_pos (by omega)] at this
    rw [List.getElem?_drop, Nat.add_zero] at h3
    rw [h3, List.getD_eq_getElem?_getD, List.getElem?_eq_getElem (show j < tzT.length from hj), Option.getD_some, h2]
  refine ⟨_, 0, rfl, fun j u hu => ?_⟩
  rw [List.getElem?_map, Option.map_eq_some_iff] at hu
  obtain ⟨b, hb, rfl⟩ := hu
  have hj : j < 64 := (List.getElem?_eq_some_iff.1 hb).1
  have h4 := World.var?_cell hg0 hv0 j
  rw [cell?_cellH] at h4
  rw [Nat.zero_add, h4]
  have h5 := key j hj
  rw [List.getD_eq_getElem?_getD, hb, Option.getD_some] at h5
  simpa using h5

/-- The heap that the program's own start leaves meets the condition. -/
theorem door_met (os : Os) (args : Array Value) : laidMetH Tryd.prog laidL ((World.doorLaid Tryd.prog 400 os).forCall (fun _ _ => 0) ⟨#[], args, []⟩).memory :=
  laidMetH_of_parts3 (fuel := 8) (laidMet_of_run' 8 (by kernel_rfl) (by kernel_rfl)) (by kernel_rfl) (by kernel_rfl)
end Go.Proofs.YtfgfmempmkjlnaaDoor
