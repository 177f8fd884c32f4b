/- Texts DenG to Bits of this work, joined: each says in its own head what it proves, and of which condition. -/
import Derived.Test.YtfgfmempmkjlnaaDoorMNtt1
import Derived.Lib.SliceRun
import Derived.MapKept
import Derived.Great.BuildSlice
import Derived.Shelf.Small.Bits
import Derived.Shelf.Strconv.Itoa0
import Derived.Shelf.Bits.Mul64
import Derived.Test.YtfgfmempmkjlnaaDoorProg
import Derived.Lib.Mul64
/- Own calculus, part G: variables in memory: structs, their fields, function values. No condition. -/
namespace Go.Den
set_option linter.unusedVariables false
set_option maxRecDepth 8000
open Go Go.RowKit

/-- p points to a variable of its own block: its cells are cs. -/
def Var (h : Hp) (p : Value) (e : TypeId) (cs : List Value) : Prop := ∃ g, p = .pointer (some ⟨g, 0, none⟩) ∧ h[g]? = some (.cells cs.toArray e (0, 0))
/-- The block that a pointer names. -/
def pblk : Value → Option Nat
  | .pointer (some a) => some a.block
  | _ => none
/-- The pointer so many cells further. -/
def ptrOff : Value → Nat → Value
  | .pointer (some a), k => .pointer (some (a.add k))
  | _, _ => undef
def isPtr : Value → Bool
  | .pointer (some _) => true
  | _ => false

section
variable {h h' : Hp} {p : Value} {e : TypeId} {cs : List Value}
theorem Var.ptr (s : Var h p e cs) : isPtr p = true := by obtain ⟨g, rfl, -⟩ := s; rfl
theorem Var.one (s : Var h p e cs) : p.oneCell' = true := by obtain ⟨g, rfl, -⟩ := s; rfl
theorem Var.only {r : Option Nat} (s : Var h p e cs) (k : Only r h h') (hne : pblk p ≠ r) : Var h' p e cs := by
  obtain ⟨g, rfl, hg⟩ := s
  exact ⟨g, rfl, by rw [k.2 g (Array.getElem?_eq_some_iff.1 hg).1 hne]; exact hg⟩
theorem Var.ext (s : Var h p e cs) (k : Ext h h') : Var h' p e cs := s.only (k.only none) (by obtain ⟨g, rfl, -⟩ := s; simp [pblk])
theorem Var.blk (s : Var h p e cs) : ∃ k, pblk p = some k ∧ k < h.size := by
  obtain ⟨g, rfl, hg⟩ := s
  exact ⟨g, rfl, (Array.getElem?_eq_some_iff.1 hg).1⟩
theorem Var.cell (s : Var h p e cs) {off : Nat} {u : Value} (hu : cs[off]? = some u) : ∃ g, p = .pointer (some ⟨g, 0, none⟩) ∧ cellH h g off = some u := by
  obtain ⟨g, rfl, hg⟩ := s
  exact ⟨g, rfl, by simp [cellH, hg, hu]⟩
/-- A variable made later is another one. -/
theorem Var.ne_new (s : Var h p e cs) {q : Value} {k : Nat} (hq : pblk q = some k) (hk : h.size ≤ k) : pblk p ≠ pblk q := by
  obtain ⟨j, hj, hlt⟩ := s.blk
  rw [hj, hq]; intro e; cases e; omega
end

theorem OwnF.neV {α : Type} {f : α → Value} {h : Hp} {B k : Nat} {e : TypeId} {v p : Value} {xs : List α} (o : OwnF h B e f v xs) (hp : pblk p = some k) (hk : k < B) : v.ownBlock = none ∨ v.ownBlock ≠ pblk p := by
  cases hv : v.ownBlock with
  | none => exact .inl rfl
  | some j =>
    refine .inr fun e => ?_
    have := (OwnF.blk o j hv).1
    rw [hp] at e; cases e; omega
theorem SlF.neV {α : Type} {f : α → Value} {h : Hp} {k : Nat} {v p : Value} {xs : List α} (hv : ∀ j, v.ownBlock = some j → j < h.size) (hp : pblk p = some k) (hk : h.size ≤ k) : v.ownBlock = none ∨ v.ownBlock ≠ pblk p := by
  cases hb : v.ownBlock with
  | none => exact .inl rfl
  | some j =>
    refine .inr fun e => ?_
    have := hv j hb
    rw [hp] at e; cases e; omega
theorem Only.oldV {h0 h h' : Hp} {p : Value} {k : Nat} (o : Only (pblk p) h h') (e : Ext h0 h) (hp : pblk p = some k) (hk : h0.size ≤ k) : Ext h0 h' := o.old e fun j hj => by rw [hp] at hj; cases hj; exact hk

def fieldOff (P : Program) (s : TypeId) (f : Nat) : Option Nat := match P.underlying s with
  | some (.struct fs) => match fs[f]? with
    | some fd => match P.info? fd.type with
      | some i => if i.size = 0 then none else some fd.offset
      | none => none
    | none => none
  | _ => none

theorem run_fieldAt {P : Program} {s : TypeId} {f off : Nat} {p : Value} {w : World} (ho : fieldOff P s f = some off) (hp : isPtr p = true) : (Instr.fieldAt s p f).run P w = .ok (ptrOff p off) w := by
  unfold fieldOff at ho
  cases hu : P.underlying s with
  | none => rw [hu] at ho; cases ho
  | some d =>
    rw [hu] at ho
    cases d <;> simp only at ho <;> try cases ho
    rename_i fs
    cases hf : fs[f]? with
    | none => rw [hf] at ho; cases ho
    | some fd =>
      rw [hf] at ho
      simp only at ho
      cases hi : P.info? fd.type with
      | none => rw [hi] at ho; cases ho
      | some i =>
        rw [hi] at ho
        simp only at ho
        split at ho
        · cases ho
        · rename_i hz
          cases ho
          cases p <;> try cases hp
          rename_i a
          cases a with
          | none => cases hp
          | some a => simp [Instr.fieldAt, run_underlying hu, hf, Instr.sureAddr, fieldPlace, sizeOf, typeInfo, hi, hz, ptrOff]

def fieldPlain (P : Program) (s : TypeId) (f : Nat) : Bool := match P.underlying s with
  | some (.struct fs) => match fs[f]? with
    | some fd => plainTy P fd.type
    | none => false
  | _ => false
theorem run_field {P : Program} {s : TypeId} {f off : Nat} {cs : List Value} {u : Value} {w : World} (ho : fieldOff P s f = some off) (ht : fieldPlain P s f = true) (hj : cs[off]? = some u) : (Instr.field s (.agg cs.toArray) f).run P w = .ok u w := by
  unfold fieldOff at ho
  unfold fieldPlain at ht
  cases hu : P.underlying s with
  | none => rw [hu] at ho; cases ho
  | some d =>
    rw [hu] at ho ht
    cases d <;> simp only at ho ht <;> try cases ho
    rename_i fs
    cases hf : fs[f]? with
    | none => rw [hf] at ho; cases ho
    | some fd =>
      rw [hf] at ho ht
      simp only at ho ht
      cases hi : P.info? fd.type with
      | none => rw [hi] at ho; cases ho
      | some i =>
        rw [hi] at ho
        simp only at ho
        split at ho
        · cases ho
        · cases ho
          simp [Instr.field, run_underlying hu, hf, part, run_isAgg_plain ht, asAgg, hj]
def aggTy (P : Program) (t : TypeId) : Bool := match P.underlying t with
  | some (.struct _) | some (.array _ _) => true
  | _ => false
theorem run_isAgg_agg {P : Program} {t : TypeId} (ht : aggTy P t = true) (w : World) : (isAgg t).run P w = .ok true w := by
  unfold aggTy at ht
  cases hu : P.underlying t with
  | none => rw [hu] at ht; cases ht
  | some d =>
    rw [hu] at ht
    unfold isAgg
    rw [Sem.run_bind, run_underlying hu w]
    cases d <;> first | rfl | cases ht

theorem run_loadAgg {P : Program} {t : TypeId} {a : Addr} {w : World} {ds : List Value} (ht : aggTy P t = true) (hz : (P.info? t).map (·.size) = some ds.length) (hc : ∀ j u, ds[j]? = some u → w.cell? (a.add j) = some u) : (loadVar t a).run P w = .ok (.agg ds.toArray) w := by
  cases hi : P.info? t with
  | none => rw [hi] at hz; cases hz
  | some i =>
    rw [hi] at hz
    simp only [Option.map_some, Option.some.injEq] at hz
    unfold loadVar
    rw [Sem.run_bind, run_isAgg_agg ht w]
    simp [sizeOf, typeInfo, hi, hz, run_loadCells_list w a ds hc]

/-- The cells that a build writes, part by part. -/
def fillL (offs : List (Nat × Nat)) : List Value → List (Nat × List Value) → Option (List Value)
  | cells, [] => some cells
  | cells, (i, us) :: rest => match offs[i]? with
    | none => none
    | some (off, size) => bif Nat.beq us.length size && Nat.ble (off + us.length) cells.length then fillL offs (cells.take off ++ us ++ cells.drop (off + us.length)) rest else none

theorem fold_set : ∀ (us : List Value) (off j : Nat) (cells : List Value), off + j + us.length ≤ cells.length →
    ((us.zipIdx j).foldl (fun (cs : Array Value) (x : Value × Nat) => cs.setIfInBounds (off + x.2) x.1) cells.toArray).toList = cells.take (off + j) ++ us ++ cells.drop (off + j + us.length)
  | [], off, j, cells, _ => by simp
  | u :: us, off, j, cells, hl => by
    simp only [List.length_cons] at hl
    simp only [List.zipIdx_cons, List.foldl_cons]
    have e : (cells.toArray.setIfInBounds (off + j) u) = (cells.set (off + j) u).toArray := by apply Array.ext'; simp
    rw [e, fold_set us off (j + 1) (cells.set (off + j) u) (by simp; omega)]
    rw [List.take_set, List.drop_set_of_lt (by omega), ← Nat.add_assoc, show off + j + 1 + us.length = off + j + (us.length + 1) by omega, List.length_cons]
    rw [List.take_succ_eq_append_getElem (by omega), List.set_append_right _ _ (by simp; omega)]
    simp [Nat.min_eq_left (show off + j ≤ cells.length by omega)]

theorem fill_fillL {offs : List (Nat × Nat)} {place : Nat → Option (Nat × Nat)} (hp : ∀ i, place i = offs[i]?) : ∀ (parts : List (Nat × Value)) (cells cs : List Value), fillL offs cells (parts.map fun x => (x.1, x.2.cells.toList)) = some cs → Instr.fill place cells.toArray parts = some cs.toArray
  | [], cells, cs, e => by simp [fillL] at e; simp [Instr.fill, e]
  | (i, v) :: rest, cells, cs, e => by
    simp only [List.map_cons, fillL] at e
    simp only [Instr.fill, hp]
    cases ho : offs[i]? with
    | none => rw [ho] at e; cases e
    | some p =>
      obtain ⟨off, size⟩ := p
      rw [ho] at e
      simp only at e
      cases hb : (Nat.beq v.cells.toList.length size && Nat.ble (off + v.cells.toList.length) cells.length) with
      | false => rw [hb] at e; cases e
      | true =>
        rw [hb] at e
        simp only [cond_true] at e
        simp only [Bool.and_eq_true] at hb
        have h1 := Nat.eq_of_beq_eq_true hb.1
        have h2 := Nat.le_of_ble_eq_true hb.2
        simp only [Array.length_toList] at h1 h2
        have h3 : ¬ (v.cells.size ≠ size ∨ off + v.cells.size > cells.toArray.size) := by simp [h1] at h2 ⊢; omega
        simp only [decide_eq_true_eq, Bool.or_eq_true, h3, if_false]
        have hf := fold_set v.cells.toList off 0 cells (by simpa using h2)
        simp only [Nat.add_zero, Array.length_toList] at hf
        have hz : v.cells.zipIdx = (v.cells.toList.zipIdx 0).toArray := by apply Array.ext'; simp
        have hfold : Array.foldl (fun cs x => cs.setIfInBounds (off + x.snd) x.fst) cells.toArray v.cells.zipIdx = (cells.take off ++ v.cells.toList ++ cells.drop (off + v.cells.size)).toArray := by
          apply Array.ext'
          rw [hz, List.foldl_toArray]
          exact hf
        rw [hfold]
        exact fill_fillL hp rest _ _ (by simpa using e)

def placesOf (P : Program) (t : TypeId) : Option (List (Nat × Nat)) := match P.underlying t with
  | some (.struct fs) => fs.toList.mapM fun f => (P.info? f.type).map fun i => (f.offset, i.size)
  | _ => none

theorem sem_mapM_places {P : Program} {w : World} : ∀ (fs : List Field) (offs : List (Nat × Nat)), (fs.mapM fun f => (P.info? f.type).map fun i => (f.offset, i.size)) = some offs →
    (fs.mapM (fun f => do pure (f.offset, ← sizeOf f.type) : Field → Sem (Nat × Nat))).run P w = .ok offs w
  | [], offs, e => by simp at e; subst e; simp
  | f :: fs, offs, e => by
    rw [List.mapM_cons] at e
    cases hi : P.info? f.type with
    | none => rw [hi] at e; cases e
    | some i =>
      rw [hi] at e
      simp only [Option.map_some, Option.bind_eq_bind, Option.bind_some] at e
      cases hr : (fs.mapM fun f => (P.info? f.type).map fun i => (f.offset, i.size)) with
      | none => rw [hr] at e; cases e
      | some rs =>
        rw [hr] at e
        simp only [Option.bind_some, Option.pure_def, Option.some.injEq] at e
        subst e
        have h1 : (do pure (f.offset, ← sizeOf f.type) : Sem (Nat × Nat)).run P w = .ok (f.offset, i.size) w := by simp [sizeOf, typeInfo, hi]
        rw [List.mapM_cons, Sem.run_bind, h1, Result.andThen_ok, Sem.run_bind, sem_mapM_places fs rs hr]; rfl

theorem run_build {P : Program} {t : TypeId} {w : World} {z : Value} {i : TypeInfo} {offs : List (Nat × Nat)} {parts : List (Nat × Value)} {cs : List Value} (ho : placesOf P t = some offs) (hi : P.info? t = some i) (hz : i.zero = some z)
    (hc : fillL offs z.cells.toList (parts.map fun x => (x.1, x.2.cells.toList)) = some cs) : (Instr.build t parts.toArray).run P w = .ok (.agg cs.toArray) w := by
  unfold placesOf at ho
  cases hu : P.underlying t with
  | none => rw [hu] at ho; cases ho
  | some d =>
    rw [hu] at ho
    cases d <;> simp only at ho <;> try cases ho
    rename_i fs
    have hm := sem_mapM_places (P := P) (w := w) _ _ ho
    have hma : (fs.mapM (fun f => do pure (f.offset, ← sizeOf f.type) : Field → Sem (Nat × Nat))).run P w = .ok offs.toArray w := by
      rw [Array.mapM_eq_mapM_toList, ← bind_pure_comp, Sem.run_bind, hm]; rfl
    have hf := fill_fillL (place := fun x => offs.toArray[x]?) (by simp) parts _ _ hc
    have hz' : (zeroValue t).run P w = .ok z w := by simp [zeroValue, typeInfo, hi, hz]
    unfold Instr.build
    simp only [Sem.run_bind, hz', Result.andThen_ok, run_underlying hu w, hma]
    have e : z.cells.toList.toArray = z.cells := by simp
    rw [e] at hf
    simp only [hf]
    rfl

/-- The cells of a value that a build takes. -/
inductive CellsAll : List Value → List (List Value) → Prop where
  | nil : CellsAll [] []
  | cons {v : Value} {c : List Value} {vs : List Value} {cs : List (List Value)} : v.cells.toList = c → CellsAll vs cs → CellsAll (v :: vs) (c :: cs)
theorem CellsAll.eq : ∀ {vs : List Value} {cs : List (List Value)}, CellsAll vs cs → vs.map (fun v => v.cells.toList) = cs
  | _, _, .nil => rfl
  | _, _, .cons h k => by rw [List.map_cons, h, k.eq]
theorem oneL {u : Value} (h1 : u.oneCell' = true) : u.cells.toList = [u] := by rw [cells_one h1]

inductive OneAll : List Value → Prop where
  | nil : OneAll []
  | cons {v : Value} {vs : List Value} : v.oneCell' = true → OneAll vs → OneAll (v :: vs)
theorem OneAll.all : ∀ {vs : List Value}, OneAll vs → ∀ x ∈ vs, x.oneCell' = true
  | _, .nil => fun x hx => by cases hx
  | _, .cons h k => fun x hx => by
    rcases List.mem_cons.1 hx with rfl | hx
    · exact h
    · exact k.all x hx
theorem run_box {P : Program} {w : World} {t : TypeId} {v : Value} : (Instr.box t v).run P w = .ok (.pointer (some ⟨w.heap.size, 0, none⟩)) (w.alloc (.cells v.cells t)) := by
  simp [Instr.box, newVar, newRow]
theorem run_allocV {P : Program} {w : World} {t : TypeId} {i : TypeInfo} {z : Value} (hi : P.info? t = some i) (hz : i.zero = some z) : (Instr.alloc t true (.tuple #[])).run P w = .ok (.pointer (some ⟨w.heap.size, 0, none⟩)) (w.alloc (.cells z.cells t)) := by
  simp [Instr.alloc, zeroValue, typeInfo, hi, hz, newVar, newRow]

theorem run_storeVar {P : Program} {w : World} {t e : TypeId} {g off : Nat} {cs : List Value} {u : Value} (hg : w.heap[g]? = some (.cells cs.toArray e (0, 0))) (ht : (P.info? t).map (·.size) = some u.cells.size) (h1 : ∀ x ∈ u.cells.toList, x.oneCell' = true) (hl : off + u.cells.size ≤ cs.length) :
    (storeVar t ⟨g, off, none⟩ u).run P w = .ok () (w.setRow g (cs.take off ++ u.cells.toList ++ cs.drop (off + u.cells.size)).toArray) := by
  cases hi : P.info? t with
  | none => rw [hi] at ht; cases ht
  | some i =>
    rw [hi] at ht
    simp only [Option.map_some, Option.some.injEq] at ht
    have := run_storeCells_at P g off e u.cells.toList 0 cs.toArray w hg (by simpa using hl) h1
    simp only [Nat.add_zero, Array.length_toList] at this
    simp [storeVar, sizeOf, typeInfo, hi, ht, this]

section rules
variable {P : Program} {n : Nat} {Q : Post} {l : Fr} {h : Hp} {ops : List Oper} {Ch : Hp → Prop} {E : Nat → Bool} {i : Nat}
variable {d : Nat} {t : TypeId} {x y z : Operand}

theorem rd_varP {i : Nat} {h : Hp} {p : Value} {e : TypeId} {cs : List Value} (hp : Var h p e cs) : Rd (fun _ => True) (fun _ => true) i h (fun h' => Var h' p e cs) := ⟨.inl ⟨rfl, trivial, hp⟩⟩
theorem rd_varX {E : Nat → Bool} {i : Nat} {h h0 : Hp} {p : Value} {e : TypeId} {cs : List Value} (hp : Var h0 p e cs) : Rd (Ext h0) E i h (fun h' => Var h' p e cs) := ⟨.inr fun _ k => hp.ext k⟩
theorem rd_varO {E : Nat → Bool} {i : Nat} {h h0 : Hp} {r : Option Nat} {p : Value} {e : TypeId} {cs : List Value} (hp : Var h0 p e cs) (hne : pblk p ≠ r) : Rd (Only r h0) E i h (fun h' => Var h' p e cs) := ⟨.inr fun _ k => hp.only k hne⟩

theorem s_field {f off : Nat} {p : Value} (hx : ev l x = some p) (ho : fieldOff P t f = some off) (hp : isPtr p = true) (hb : Nat.blt d n = true)
    (k : S P n ops Ch E Q (i + 1) ((d, ptrOff p off) :: l) h) : O P n ops Ch E Q i d (.fieldAddr t x f) l h :=
  s_pure hb (fun a w' hf => by simp only [execOp, hf.ev hx, Sem.run_bind, run_fieldAt ho hp]; rfl) k

theorem s_loadc {p u : Value} {e : TypeId} {off : Nat} {cs : List Value} (hx : ev l x = some (ptrOff p off)) (ht : plainTy P t = true) (hs : Rd Ch E i h (fun h' => Var h' p e cs)) (hb : Nat.blt d n = true) (hj : nth cs off = some u)
    (k : S P n ops Ch E Q (i + 1) ((d, u) :: l) h) : O P n ops Ch E Q i d (.load t x) l h :=
  s_read hb _ hs (fun a w' hf hs => by
    rw [nth_eq] at hj
    obtain ⟨g, rfl, hc⟩ := hs.cell hj
    have hl := run_load1 (P := P) (t := t) (a := (⟨g, 0, none⟩ : Addr).add off) (w := w') ht (by rw [Addr.add_lit, cell?_cellH, Nat.zero_add]; exact hc)
    simp only [execOp, hf.ev hx, ptrOff, Sem.run_bind, hl]; rfl) k
theorem s_load1 {p u : Value} {e : TypeId} (hx : ev l x = some p) (ht : plainTy P t = true) (hs : Rd Ch E i h (fun h' => Var h' p e [u])) (hb : Nat.blt d n = true)
    (k : S P n ops Ch E Q (i + 1) ((d, u) :: l) h) : O P n ops Ch E Q i d (.load t x) l h :=
  s_read hb _ hs (fun a w' hf hs => by
    obtain ⟨g, rfl, hc⟩ := hs.cell (off := 0) (u := u) rfl
    have hl := run_load1 (P := P) (t := t) (a := (⟨g, 0, none⟩ : Addr)) (w := w') ht (by rw [cell?_cellH]; exact hc)
    simp only [execOp, hf.ev hx, Sem.run_bind, hl]; rfl) k
theorem s_loadV {p : Value} {e : TypeId} {cs : List Value} (hx : ev l x = some p) (ht : aggTy P t = true) (hs : Rd Ch E i h (fun h' => Var h' p e cs)) (hz : (P.info? t).map (·.size) = some cs.length) (hb : Nat.blt d n = true)
    (k : S P n ops Ch E Q (i + 1) ((d, .agg cs.toArray) :: l) h) : O P n ops Ch E Q i d (.load t x) l h :=
  s_read hb _ hs (fun a w' hf hs => by
    obtain ⟨g, rfl, hg⟩ := hs
    have hl := run_loadAgg (P := P) (t := t) (a := ⟨g, 0, none⟩) (w := w') (ds := cs) ht hz (fun j u hu => by rw [Addr.add_lit, cell?_cellH, Nat.zero_add]; simp [cellH, hg, hu])
    simp only [execOp, hf.ev hx, Instr.loadAt, Instr.sureAddr, Sem.run_bind, Sem.run_pure, Result.andThen_ok, hl]) k
theorem s_loadA {p : Value} {e : TypeId} {off : Nat} {cs : List Value} (ds : List Value) (hx : ev l x = some (ptrOff p off)) (ht : aggTy P t = true) (hs : Rd Ch E i h (fun h' => Var h' p e cs)) (hd : (cs.drop off).take ds.length = ds) (hz : (P.info? t).map (·.size) = some ds.length) (hb : Nat.blt d n = true)
    (k : S P n ops Ch E Q (i + 1) ((d, .agg ds.toArray) :: l) h) : O P n ops Ch E Q i d (.load t x) l h :=
  s_read hb _ hs (fun a w' hf hs => by
    obtain ⟨g, rfl, hg⟩ := hs
    have hl := run_loadAgg (P := P) (t := t) (a := (⟨g, 0, none⟩ : Addr).add off) (w := w') (ds := ds) ht hz (fun j u hu => by
      rw [Addr.add_lit, Addr.add_lit, cell?_cellH, Nat.zero_add]
      have : cs[off + j]? = some u := by
        rw [← hd, List.getElem?_take] at hu
        split at hu
        · rwa [List.getElem?_drop] at hu
        · cases hu
      simp [cellH, hg, this])
    simp only [execOp, hf.ev hx, ptrOff, Instr.loadAt, Instr.sureAddr, Sem.run_bind, Sem.run_pure, Result.andThen_ok, hl]) k

theorem s_box {v : Value} {cs : List Value} (hx : ev l x = some v) (hc : v.cells.toList = cs) (hE : E i = true) (hb : Nat.blt d n = true)
    (k : ∀ p h', Var h' p t cs → Ext h h' → pblk p = some h.size → Ch h' ∧ S P n ops Ch E Q (i + 1) ((d, p) :: l) h') : O P n ops Ch E Q i d (.box t x) l h :=
  O.mk fun hop hg => s_eff hop hE hg fun a w hf hw => by
    subst hw
    have hv : Var (w.alloc (.cells v.cells t)).heap (.pointer (some ⟨w.heap.size, 0, none⟩)) t cs := ⟨w.heap.size, rfl, by rw [← hc, Array.toArray_toList]; exact heap_alloc_new w _⟩
    have := k _ _ hv (Ext.push _ _) rfl
    unfold Eff
    simp only [execOp, hf.ev hx, Sem.run_bind, run_box]
    exact ⟨⟨rfl, rfl, rfl⟩, this.1, _, hf.put d _ hb, this.2⟩
theorem s_alloc {cs : List Value} (hi : (P.info? t).bind (fun i => i.zero.map fun z => z.cells.toList) = some cs) (hE : E i = true) (hb : Nat.blt d n = true)
    (k : ∀ p h', Var h' p t cs → Ext h h' → pblk p = some h.size → Ch h' ∧ S P n ops Ch E Q (i + 1) ((d, p) :: l) h') : O P n ops Ch E Q i d (.alloc t) l h :=
  O.mk fun hop hg => s_eff hop hE hg fun a w hf hw => by
    subst hw
    cases hq : P.info? t with
    | none => rw [hq] at hi; cases hi
    | some inf =>
      rw [hq] at hi
      simp only [Option.bind_some] at hi
      cases hz : inf.zero with
      | none => rw [hz] at hi; cases hi
      | some z =>
        rw [hz] at hi
        simp only [Option.map_some, Option.some.injEq] at hi
        have hv : Var (w.alloc (.cells z.cells t)).heap (.pointer (some ⟨w.heap.size, 0, none⟩)) t cs := ⟨w.heap.size, rfl, by rw [← hi, Array.toArray_toList]; exact heap_alloc_new w _⟩
        have := k _ _ hv (Ext.push _ _) rfl
        unfold Eff
        simp only [execOp, Sem.run_bind, run_allocV hq hz]
        exact ⟨⟨rfl, rfl, rfl⟩, this.1, _, hf.put d _ hb, this.2⟩

/-- A store into a variable: the whole of it, or a part of it from a cell on. -/
theorem s_storeP {p u : Value} {e : TypeId} {off : Nat} {cs us : List Value} (hx : ev l x = some (ptrOff p off)) (hy : ev l y = some u) (hu : u.cells.toList = us) (h1 : OneAll us) (ht : (P.info? t).map (·.size) = some us.length) (hE : E i = true) (hv : Var h p e cs) (hl : Nat.ble (off + us.length) cs.length = true)
    (k : ∀ h', Var h' p e (cs.take off ++ us ++ cs.drop (off + us.length)) → Only (pblk p) h h' → Ch h' ∧ S P n ops Ch E Q (i + 1) l h') : O0 P n ops Ch E Q i (.store t x y) l h :=
  O0.mk fun hop hg => s_eff hop hE hg fun a w hf hw => by
    subst hw
    obtain ⟨g, rfl, hgc⟩ := hv
    have hus : u.cells.size = us.length := by rw [← hu]; simp
    have hr := run_storeVar (P := P) (w := w) (t := t) (off := off) (u := u) hgc (by rw [hus]; exact ht) (by rw [hu]; exact h1.all) (by rw [hus]; exact Nat.le_of_ble_eq_true hl)
    rw [hu, hus] at hr
    have hg' := setRow_heap w g cs.toArray (cs.take off ++ us ++ cs.drop (off + us.length)).toArray e _ hgc
    have := k _ ⟨g, rfl, hg'⟩ ⟨by simp, fun j _ hj => setRow_other w g j _ (fun q => hj (by simp [pblk, q]))⟩
    unfold Eff
    simp only [execOp, hf.ev hx, hf.ev hy, ptrOff, Addr.add_lit, Nat.zero_add, Instr.storeAt, Instr.sureAddr, Sem.run_bind, Sem.run_pure, Result.andThen_ok, hr]
    exact ⟨⟨rfl, rfl, rfl⟩, this.1, _, hf.putNone _, this.2⟩
theorem ptrOff_zero {p : Value} {h : Hp} {e : TypeId} {cs : List Value} (hv : Var h p e cs) : ptrOff p 0 = p := by
  obtain ⟨g, rfl, -⟩ := hv
  simp [ptrOff, Addr.add_lit]
theorem s_storeV {p u : Value} {e : TypeId} {cs us : List Value} (hx : ev l x = some p) (hy : ev l y = some u) (hu : u.cells.toList = us) (h1 : OneAll us) (ht : (P.info? t).map (·.size) = some us.length) (hE : E i = true) (hv : Var h p e cs) (hl : us.length = cs.length)
    (k : ∀ h', Var h' p e us → Only (pblk p) h h' → Ch h' ∧ S P n ops Ch E Q (i + 1) l h') : O0 P n ops Ch E Q i (.store t x y) l h :=
  s_storeP (off := 0) (by rw [ptrOff_zero hv]; exact hx) hy hu h1 ht hE hv (by simp [hl]) fun h' g1 g2 => k h' (by
    rw [List.take_zero, List.nil_append, Nat.zero_add, hl, List.drop_of_length_le (Nat.le_refl _), List.append_nil] at g1; exact g1) g2
/-- One cell of a variable. -/
theorem s_storeC {p u : Value} {e : TypeId} {off : Nat} {cs : List Value} (hx : ev l x = some (ptrOff p off)) (hy : ev l y = some u) (h1 : u.oneCell' = true) (ht : (P.info? t).map (·.size) = some 1) (hE : E i = true) (hv : Var h p e cs) (hl : Nat.blt off cs.length = true)
    (k : ∀ h', Var h' p e (cs.set off u) → Only (pblk p) h h' → Ch h' ∧ S P n ops Ch E Q (i + 1) l h') : O0 P n ops Ch E Q i (.store t x y) l h :=
  s_storeP hx hy (oneL h1) (.cons h1 .nil) ht hE hv (Nat.ble_eq_true_of_le (Nat.le_of_ble_eq_true hl)) fun h' g1 g2 => k h' (by
    have hlt : off < cs.length := Nat.le_of_ble_eq_true hl
    rw [List.length_singleton, set_seg _ _ _ hlt] at g1; exact g1) g2

theorem s_build {parts : Array (Nat × Operand)} {vs : List Value} {css : List (List Value)} {offs : List (Nat × Nat)} (cs : List Value) (he : evs l (parts.toList.map (·.2)) = some vs) (ho : placesOf P t = some offs) {zs : List Value} (hi : (P.info? t).bind (fun i => i.zero.map fun z => z.cells.toList) = some zs)
    (hc : CellsAll vs css) (hcs : fillL offs zs ((parts.toList.map (·.1)).zip css) = some cs) (hb : Nat.blt d n = true)
    (k : S P n ops Ch E Q (i + 1) ((d, .agg cs.toArray) :: l) h) : O P n ops Ch E Q i d (.build t parts) l h :=
  s_pure hb (fun a w' hf => by
    cases hq : P.info? t with
    | none => rw [hq] at hi; cases hi
    | some inf =>
      rw [hq] at hi
      simp only [Option.bind_some] at hi
      cases hz : inf.zero with
      | none => rw [hz] at hi; cases hi
      | some z =>
        rw [hz] at hi
        simp only [Option.map_some, Option.some.injEq] at hi
        have hpa : (parts.map fun (i, x) => (i, a.eval x)) = ((parts.toList.map (·.1)).zip vs).toArray := by
          apply Array.ext'
          rw [← hf.evs he, Array.toList_map, List.map_map, List.zip_map']; rfl
        have hzip : ∀ (is : List Nat) (vs : List Value), (is.zip vs).map (fun x => (x.1, x.2.cells.toList)) = is.zip (vs.map fun v => v.cells.toList) := fun is vs => by
          rw [List.zip_map_right]; rfl
        have := run_build (P := P) (t := t) (w := w') (z := z) (parts := (parts.toList.map (·.1)).zip vs) ho hq hz (by rw [hi, hzip, hc.eq]; exact hcs)
        simp only [execOp, hpa, Sem.run_bind, this]; rfl) k

theorem s_eqB {a b : Bool} {yt : TypeId} (hx : ev l x = some (.bool a)) (hy : ev l y = some (.bool b)) (ht : P.underlying t = some .bool) (hb : Nat.blt d n = true)
    (k : S P n ops Ch E Q (i + 1) ((d, .bool (decide (a = b))) :: l) h) : O P n ops Ch E Q i d (.binOp .eql t x y yt) l h :=
  s_bin hx hy hb (fun w' => by
    rw [Sem.run_bind]
    have h1 : (eqGuard .eql t x y (.bool a) (.bool b)).run P w' = .ok () w' := rfl
    rw [h1, Result.andThen_ok, run_eql_bool w' t a b ht]
    congr 2) k
theorem s_neB {a b : Bool} {yt : TypeId} (hx : ev l x = some (.bool a)) (hy : ev l y = some (.bool b)) (ht : P.underlying t = some .bool) (hb : Nat.blt d n = true)
    (k : S P n ops Ch E Q (i + 1) ((d, .bool (decide (a ≠ b))) :: l) h) : O P n ops Ch E Q i d (.binOp .neq t x y yt) l h :=
  s_bin hx hy hb (fun w' => by
    rw [Sem.run_bind]
    have h1 : (eqGuard .neq t x y (.bool a) (.bool b)).run P w' = .ok () w' := rfl
    rw [h1, Result.andThen_ok, run_neq_bool w' t a b ht]
    cases a <;> cases b <;> rfl) k
/-- Is a pointer nil? -/
theorem s_eqNil {p : Value} {yt : TypeId} (hx : ev l x = some p) (hy : ev l y = some (.pointer none)) (hp : isPtr p = true) (ht : P.underlying t = some (.pointer (P.pointee t))) (hb : Nat.blt d n = true)
    (k : S P n ops Ch E Q (i + 1) ((d, .bool false) :: l) h) : O P n ops Ch E Q i d (.binOp .eql t x y yt) l h :=
  s_bin hx hy hb (fun w' => by
    cases p <;> first | cases hp | skip
    rename_i a
    cases a with
    | none => cases hp
    | some a =>
      rw [Sem.run_bind]
      have h1 : (eqGuard .eql t x y (.pointer (some a)) (.pointer none)).run P w' = .ok () w' := rfl
      rw [h1, Result.andThen_ok, run_eql_pointer_nil w' t _ ht]; rfl) k
theorem s_eqNil0 {yt : TypeId} (hx : ev l x = some (.pointer none)) (hy : ev l y = some (.pointer none)) (ht : P.underlying t = some (.pointer (P.pointee t))) (hb : Nat.blt d n = true)
    (k : S P n ops Ch E Q (i + 1) ((d, .bool true) :: l) h) : O P n ops Ch E Q i d (.binOp .eql t x y yt) l h :=
  s_bin hx hy hb (fun w' => by
    rw [Sem.run_bind]
    have h1 : (eqGuard .eql t x y (.pointer none) (.pointer none)).run P w' = .ok () w' := rfl
    rw [h1, Result.andThen_ok, run_eql_pointer_nil w' t _ ht]; rfl) k
theorem s_splitGB {o : Oper} {j t : Nat} {want : Bool} {b : Bool} (ho : opAt ops i = some o) (hg : o.guard = some (j, want)) (hj : (ops[j]?).bind (·.dst) = some t) (e : look l t = some (.bool b))
    (ht : b = true → S P n ops Ch E Q i ((t, .bool true) :: l) h) (hf : b = false → S P n ops Ch E Q i ((t, .bool false) :: l) h) : S P n ops Ch E Q i l h := by
  cases b with
  | true => exact s_know e rfl (ht rfl)
  | false => exact s_know e rfl (hf rfl)
theorem s_field2 {f off : Nat} {cs : List Value} {u : Value} (hx : ev l x = some (.agg cs.toArray)) (ho : fieldOff P t f = some off) (ht : fieldPlain P t f = true) (hj : nth cs off = some u) (hb : Nat.blt d n = true)
    (k : S P n ops Ch E Q (i + 1) ((d, u) :: l) h) : O P n ops Ch E Q i d (.field t x f) l h :=
  s_pure hb (fun a w' hf => by
    rw [nth_eq] at hj
    simp only [execOp, hf.ev hx, Sem.run_bind, run_field ho ht hj]; rfl) k
theorem mix_mono {ops : Array Oper} {C : World → Prop} {E : Nat → Bool} {Q Q' : Act → World → Prop} (hq : ∀ a w, Q a w → Q' a w) : ∀ (L : List Nat) (a : Act) (w : World), Mix P ops C E Q L a w → Mix P ops C E Q' L a w
  | [], a, w, k => hq a w k
  | i :: L, a, w, ⟨o, ho, k⟩ => ⟨o, ho, k.imp (fun ⟨v, hv, k⟩ => ⟨v, hv, mix_mono hq L _ _ k⟩) (fun ⟨h1, h2, k⟩ => ⟨h1, h2, Eff_mono (fun _ _ hk => ⟨hk.1, mix_mono hq L _ _ hk.2⟩) k⟩)⟩
theorem s_mono {Q' : Post} (k : S P n ops Ch E Q i l h) (hq : ∀ l h, Q .normal l h → Q' .normal l h) : S P n ops Ch E Q' i l h :=
  S.mk fun a w w0 hf hw ho => mix_mono (fun _ _ ⟨l', h1, h2, h3⟩ => ⟨l', h1, hq _ _ h2, h3⟩) _ _ _ (k.run a w w0 hf hw ho)
/-- What is known behind a region. -/
theorem s_tcut {σ : Type} {y : Code} (F : σ → Fr) (D : σ → Hp → Prop) (k : S P n ops Ch E (Cut F D Q) i l h) (k2 : ∀ s h', D s h' → W P n y Q (F s) h') : S P n ops Ch E (Then P n y Q) i l h :=
  s_mono k fun l' h' ⟨s, g1, g2⟩ => w_sub g1 (k2 s h' g2)
/-- What is known behind the code that follows a region. -/
theorem s_tcut2 {σ : Type} {c y : Code} (F : σ → Fr) (D : σ → Hp → Prop) (k : S P n ops Ch E (Then P n c (Cut F D Q)) i l h) (k2 : ∀ s h', D s h' → W P n y Q (F s) h') : S P n ops Ch E (Then P n c (Then P n y Q)) i l h :=
  s_mono k fun l' h' hc => w_tcut F D hc k2
/-! ### function values -/
theorem s_makeFunc {fn : Fn} {first captured : Array Operand} {fs cs : List Value} (h1 : evs l first.toList = some fs) (h2 : evs l captured.toList = some cs) (hb : Nat.blt d n = true)
    (k : S P n ops Ch E Q (i + 1) ((d, .func fn fs.toArray cs.toArray) :: l) h) : O P n ops Ch E Q i d (.makeFunc fn first captured) l h :=
  s_pure hb (fun a w' hf => by
    have e1 : first.map a.eval = fs.toArray := by apply Array.ext'; simp [← hf.evs h1]
    have e2 : captured.map a.eval = cs.toArray := by apply Array.ext'; simp [← hf.evs h2]
    simp only [execOp, e1, e2, Instr.makeFunc]; rfl) k
/-- A call of a function value. -/
theorem s_callV {f : FuncId} {t0 : Operand} {args : List Operand} {at_ : Array TypeId} {fs cs vs : List Value} (hf0 : ev l t0 = some (.func (.func f) fs.toArray cs.toArray)) (he : Ent P f) (ha : evs l args = some vs) (hE : E i = true) (hb : Nat.blt d n = true)
    (k : CallsH P f (fs ++ vs ++ cs) h fun v h' => Ch h' ∧ S P n ops Ch E Q (i + 1) ((d, v) :: l) h') : O P n ops Ch E Q i d (.call ⟨.value t0, args.toArray, at_⟩) l h :=
  O.mk fun {ty} {ps} {af} {g} ho hg => s_eff ho hE hg fun a w hf hw => by
    have hr : (execOp a.eval ⟨some d, .call ⟨.value t0, args.toArray, at_⟩, ty, ps, af, g⟩).run P w = (callFunc f (fs ++ vs ++ cs).toArray).run P w := by
      have : args.toArray.map a.eval = vs.toArray := by simp [hf.evs ha]
      simp [execOp, resolve, Deferred.ofValue, invoke, hf.ev hf0, hf.evs ha]
    unfold Eff
    rw [hr, he]
    refine (k w hw).mono fun e w' hq => ?_
    obtain ⟨v, rfl, ⟨h1, h2⟩, h3⟩ := hq
    exact ⟨h3, h1, _, hf.put d v hb, h2⟩
end rules

section fin
variable {P : Program} {n : Nat} {fn : Func} {R : Value → Hp → Prop} {l : Fr} {h : Hp}
theorem run_resCell {t e : TypeId} {p : Value} {cs : List Value} {w : World} (hv : Var w.heap p e cs) (ht : aggTy P t = true) (hz : (P.info? t).map (·.size) = some cs.length) : ∃ a, (asAddr p).run P w = .ok a w ∧ (loadVar t a).run P w = .ok (.agg cs.toArray) w := by
  obtain ⟨g, rfl, hg⟩ := hv
  exact ⟨⟨g, 0, none⟩, rfl, run_loadAgg (P := P) (t := t) (a := ⟨g, 0, none⟩) (w := w) (ds := cs) ht hz (fun j u hu => by rw [Addr.add_lit, cell?_cellH, Nat.zero_add]; simp [cellH, hg, hu])⟩
theorem finC {s : Nat} {t e : TypeId} {p : Value} {cs : List Value} (hr : fn.results = #[.cell s t]) (hl : look l s = some p) (hv : Var h p e cs) (ht : aggTy P t = true) (hz : (P.info? t).map (·.size) = some cs.length) (k : R (.agg cs.toArray) h) : At (Fin P n fn R) .ret l h :=
  ⟨⟨_, fun a w hf hw => by
    obtain ⟨ad, h1, h2⟩ := run_resCell (P := P) (w := w) (by rw [hw]; exact hv) ht hz
    simp [results, hr, hf.slots s p hl, h1, h2], k⟩⟩
theorem finCT {s u : Nat} {t e : TypeId} {p v2 : Value} {cs : List Value} (hr : fn.results = #[.cell s t, .tmp u]) (hl : look l s = some p) (hl2 : look l u = some v2) (hv : Var h p e cs) (ht : aggTy P t = true) (hz : (P.info? t).map (·.size) = some cs.length) (k : R (.tuple #[.agg cs.toArray, v2]) h) : At (Fin P n fn R) .ret l h :=
  ⟨⟨_, fun a w hf hw => by
    obtain ⟨ad, h1, h2⟩ := run_resCell (P := P) (w := w) (by rw [hw]; exact hv) ht hz
    simp [results, hr, hf.slots s p hl, hf.slots u v2 hl2, h1, h2], k⟩⟩
end fin
theorem runG {R G : Prop} (r : R) (k : Res R → G := by intro r; (repeat (first | (apply s_moveNc; exact rfl) | (apply s_assignNc; exact rfl) | (apply s_moveUc; exact rfl) | (apply s_move; exact rfl; exact rfl) | (apply s_assignUc; exact rfl) | (apply s_assign; exact rfl; exact rfl) | (apply s_extract; exact rfl; exact rfl; exact rfl) | (apply s_pickT; exact rfl; exact rfl; exact rfl) | (apply s_pickF; exact rfl; exact rfl; exact rfl) | (apply s_not; exact rfl; exact rfl) | (apply s_shlN; (first | exact isK_c | exact isK_t rfl); (first | exact isK_c | exact isK_t rfl); exact rfl; (first | assumption | omega); (first | assumption | omega)) | (apply s_field; exact rfl; exact rfl; exact Var.ptr (by assumption); exact rfl) | (apply s_loadc; exact rfl; exact rfl; (first | exact rd_varP (by assumption) | exact rd_varX (by assumption) | exact rd_varO (by assumption) (by assumption)); exact rfl; exact rfl) | (apply s_load1; exact rfl; exact rfl; (first | exact rd_varP (by assumption) | exact rd_varX (by assumption) | exact rd_varO (by assumption) (by assumption)); exact rfl) | (apply s_loadV; exact rfl; exact rfl; (first | exact rd_varP (by assumption) | exact rd_varX (by assumption) | exact rd_varO (by assumption) (by assumption)); exact rfl; exact rfl) | (apply s_makeFunc; exact rfl; exact rfl; exact rfl) | (apply s_field2; exact rfl; exact rfl; exact rfl; exact rfl; exact rfl) | (apply s_eqB; exact rfl; exact rfl; exact rfl; exact rfl) | (apply s_neB; exact rfl; exact rfl; exact rfl; exact rfl) | (apply s_eqNil0; exact rfl; exact rfl; exact rfl; exact rfl) | (apply s_eqNil; exact rfl; exact rfl; exact Var.ptr (by assumption); exact rfl; exact rfl) | (apply s_lenF; exact rfl; exact rfl; (first | assumption | exact OwnF.sl (by assumption)); exact rfl) | (apply s_indexF; exact rfl; (first | exact isK_c | exact isK_t rfl); exact rfl; exact rfl; (first | assumption | exact OwnF.sl (by assumption)); exact rfl; (first | assumption | omega)) | (apply s_loadF 0; exact rfl; exact rfl; (first | exact rd_plain (by assumption) | exact rd_extF (by assumption) | exact rd_plain (OwnF.sl (by assumption)) | exact rd_extF (OwnF.sl (by assumption)) | exact rd_onlyF (by assumption) (by assumption)); exact rfl; (first | assumption | omega)) | (apply s_loadF undef; exact rfl; exact rfl; (first | exact rd_plain (by assumption) | exact rd_extF (by assumption) | exact rd_plain (OwnF.sl (by assumption)) | exact rd_extF (OwnF.sl (by assumption)) | exact rd_onlyF (by assumption) (by assumption)); exact rfl; (first | assumption | omega)) | (apply s_loadF (undef, []); exact rfl; exact rfl; (first | exact rd_plain (by assumption) | exact rd_extF (by assumption) | exact rd_plain (OwnF.sl (by assumption)) | exact rd_extF (OwnF.sl (by assumption)) | exact rd_onlyF (by assumption) (by assumption)); exact rfl; (first | assumption | omega)) | (apply s_slice_hF; exact rfl; (first | exact isK_c | exact isK_t rfl); exact rfl; exact rfl; (first | assumption | exact OwnF.sl (by assumption)); exact rfl; (first | assumption | omega)) | (apply s_slice_lF; exact rfl; (first | exact isK_c | exact isK_t rfl); exact rfl; exact rfl; (first | assumption | exact OwnF.sl (by assumption)); exact rfl; (first | assumption | omega)) | (apply s_slice_lhF; exact rfl; (first | exact isK_c | exact isK_t rfl); (first | exact isK_c | exact isK_t rfl); exact rfl; exact rfl; (first | assumption | exact OwnF.sl (by assumption)); exact rfl; (first | assumption | omega); (first | assumption | omega)) | (apply s_eqU; (first | exact isK_c | exact isK_t rfl); (first | exact isK_c | exact isK_t rfl); exact rfl) | (apply s_neU; (first | exact isK_c | exact isK_t rfl); (first | exact isK_c | exact isK_t rfl); exact rfl) | (apply s_ltU; (first | exact isK_c | exact isK_t rfl); (first | exact isK_c | exact isK_t rfl); exact rfl) | (apply s_leU; (first | exact isK_c | exact isK_t rfl); (first | exact isK_c | exact isK_t rfl); exact rfl) | (apply s_gtU; (first | exact isK_c | exact isK_t rfl); (first | exact isK_c | exact isK_t rfl); exact rfl) | (apply s_geU; (first | exact isK_c | exact isK_t rfl); (first | exact isK_c | exact isK_t rfl); exact rfl) | (apply s_eqN; (first | exact isK_c | exact isK_t rfl); (first | exact isK_c | exact isK_t rfl); exact rfl) | (apply s_neN; (first | exact isK_c | exact isK_t rfl); (first | exact isK_c | exact isK_t rfl); exact rfl) | (apply s_ltN; (first | exact isK_c | exact isK_t rfl); (first | exact isK_c | exact isK_t rfl); exact rfl) | (apply s_leN; (first | exact isK_c | exact isK_t rfl); (first | exact isK_c | exact isK_t rfl); exact rfl) | (apply s_gtN; (first | exact isK_c | exact isK_t rfl); (first | exact isK_c | exact isK_t rfl); exact rfl) | (apply s_geN; (first | exact isK_c | exact isK_t rfl); (first | exact isK_c | exact isK_t rfl); exact rfl) | (apply s_eqI; exact rfl; exact rfl; exact rfl) | (apply s_neI; exact rfl; exact rfl; exact rfl) | (apply s_ltI; exact rfl; exact rfl; exact rfl) | (apply s_leI; exact rfl; exact rfl; exact rfl) | (apply s_gtI; exact rfl; exact rfl; exact rfl) | (apply s_geI; exact rfl; exact rfl; exact rfl) | (apply s_addN; (first | exact isK_c | exact isK_t rfl); (first | exact isK_c | exact isK_t rfl); exact rfl; (first | assumption | omega)) | (apply s_subN; (first | exact isK_c | exact isK_t rfl); (first | exact isK_c | exact isK_t rfl); exact rfl; (first | assumption | omega)) | (apply s_mulN; (first | exact isK_c | exact isK_t rfl); (first | exact isK_c | exact isK_t rfl); exact rfl; (first | assumption | omega)) | (apply s_addI; exact rfl; exact rfl; exact rfl; (first | assumption | omega)) | (apply s_subI; exact rfl; exact rfl; exact rfl; (first | assumption | omega)) | (apply s_addU; (first | exact isK_c | exact isK_t rfl); (first | exact isK_c | exact isK_t rfl); exact rfl; (first | assumption | omega)) | (apply s_subU; (first | exact isK_c | exact isK_t rfl); (first | exact isK_c | exact isK_t rfl); exact rfl; (first | assumption | omega)) | (apply s_remU; (first | exact isK_c | exact isK_t rfl); (first | exact isK_c | exact isK_t rfl); exact rfl; (first | assumption | omega)) | (apply s_quoU; (first | exact isK_c | exact isK_t rfl); (first | exact isK_c | exact isK_t rfl); exact rfl; (first | assumption | omega)) | (apply s_mulU; (first | exact isK_c | exact isK_t rfl); (first | exact isK_c | exact isK_t rfl); exact rfl; (first | assumption | omega)) | (apply s_shlU'; (first | exact isK_c | exact isK_t rfl); (first | exact isK_c | exact isK_t rfl); exact rfl; (first | assumption | omega); (first | assumption | omega)) | (apply s_shlU; (first | exact isK_c | exact isK_t rfl); (first | exact isK_c | exact isK_t rfl); exact rfl; (first | assumption | omega)) | (apply s_shrU; (first | exact isK_c | exact isK_t rfl); (first | exact isK_c | exact isK_t rfl); exact rfl; (first | assumption | omega)) | (apply s_andU; (first | exact isK_c | exact isK_t rfl); (first | exact isK_c | exact isK_t rfl); exact rfl; (first | assumption | omega)) | (apply s_orU; (first | exact isK_c | exact isK_t rfl); (first | exact isK_c | exact isK_t rfl); exact rfl; (first | assumption | omega)) | (apply s_xorU; (first | exact isK_c | exact isK_t rfl); (first | exact isK_c | exact isK_t rfl); exact rfl; (first | assumption | omega)) | (apply s_negI; exact rfl; exact rfl; (first | assumption | omega)) | (apply s_negU; (first | exact isK_c | exact isK_t rfl); exact rfl; (first | assumption | omega)) | (apply s_convU; (first | exact isK_c | exact isK_t rfl); exact rfl; exact rfl; exact rfl; (first | assumption | omega)) | (apply s_convI; exact rfl; exact rfl; exact rfl; exact rfl; (first | assumption | omega)) | (apply s_quoN; (first | exact isK_c | exact isK_t rfl); (first | exact isK_c | exact isK_t rfl); exact rfl; (first | assumption | omega)) | (apply s_remN; (first | exact isK_c | exact isK_t rfl); (first | exact isK_c | exact isK_t rfl); exact rfl; (first | assumption | omega)) | (apply s_shrN; (first | exact isK_c | exact isK_t rfl); (first | exact isK_c | exact isK_t rfl); exact rfl; (first | assumption | omega)) | (apply s_convN; (first | exact isK_c | exact isK_t rfl); exact rfl; exact rfl; exact rfl; (first | assumption | omega)) | (apply s_op; exact rfl; exact rfl) | (apply s_skip; exact rfl; exact rfl; exact rfl) | (apply s_nil; exact rfl) | (apply s_op0; exact rfl; exact rfl) | apply then_normal | apply then_ret | apply then_exit | apply inb_normal | apply inb_ret | apply inb_here | (apply inb_past; exact rfl) | apply again_exit | apply again_ret | apply cut_exit | apply cut_ret | (apply w_seq; exact rfl) | (apply r_plain; exact rfl) | (apply w_block; exact rfl) | (apply w_ret; exact rfl) | (apply w_cond_true; exact rfl; exact rfl) | (apply w_cond_false; exact rfl; exact rfl) | (apply w_exit; exact rfl) | (apply w_skip; exact rfl) | (apply w_label; exact rfl) | (apply r_drawnX; exact rfl; exact mixed; kernel_rfl))); exact r.get) : G := k ⟨r⟩
theorem runGN {R G : Prop} (r : R) (k : Res R → G := by intro r; (repeat (first | (apply s_moveNc; exact rfl) | (apply s_assignNc; exact rfl) | (apply s_moveUc; exact rfl) | (apply s_move; exact rfl; exact rfl) | (apply s_assignUc; exact rfl) | (apply s_assign; exact rfl; exact rfl) | (apply s_extract; exact rfl; exact rfl; exact rfl) | (apply s_pickT; exact rfl; exact rfl; exact rfl) | (apply s_pickF; exact rfl; exact rfl; exact rfl) | (apply s_not; exact rfl; exact rfl) | (apply s_shlN; (first | exact isK_c | exact isK_t rfl); (first | exact isK_c | exact isK_t rfl); exact rfl; (first | assumption | omega); (first | assumption | omega)) | (apply s_field; exact rfl; exact rfl; exact Var.ptr (by assumption); exact rfl) | (apply s_loadc; exact rfl; exact rfl; (first | exact rd_varP (by assumption) | exact rd_varX (by assumption) | exact rd_varO (by assumption) (by assumption)); exact rfl; exact rfl) | (apply s_load1; exact rfl; exact rfl; (first | exact rd_varP (by assumption) | exact rd_varX (by assumption) | exact rd_varO (by assumption) (by assumption)); exact rfl) | (apply s_loadV; exact rfl; exact rfl; (first | exact rd_varP (by assumption) | exact rd_varX (by assumption) | exact rd_varO (by assumption) (by assumption)); exact rfl; exact rfl) | (apply s_makeFunc; exact rfl; exact rfl; exact rfl) | (apply s_field2; exact rfl; exact rfl; exact rfl; exact rfl; exact rfl) | (apply s_eqB; exact rfl; exact rfl; exact rfl; exact rfl) | (apply s_neB; exact rfl; exact rfl; exact rfl; exact rfl) | (apply s_eqNil0; exact rfl; exact rfl; exact rfl; exact rfl) | (apply s_eqNil; exact rfl; exact rfl; exact Var.ptr (by assumption); exact rfl; exact rfl) | (apply s_lenF; exact rfl; exact rfl; (first | assumption | exact OwnF.sl (by assumption)); exact rfl) | (apply s_indexF; exact rfl; (first | exact isK_c | exact isK_t rfl); exact rfl; exact rfl; (first | assumption | exact OwnF.sl (by assumption)); exact rfl; (first | assumption | omega)) | (apply s_loadF 0; exact rfl; exact rfl; (first | exact rd_plain (by assumption) | exact rd_extF (by assumption) | exact rd_plain (OwnF.sl (by assumption)) | exact rd_extF (OwnF.sl (by assumption)) | exact rd_onlyF (by assumption) (by assumption)); exact rfl; (first | assumption | omega)) | (apply s_loadF undef; exact rfl; exact rfl; (first | exact rd_plain (by assumption) | exact rd_extF (by assumption) | exact rd_plain (OwnF.sl (by assumption)) | exact rd_extF (OwnF.sl (by assumption)) | exact rd_onlyF (by assumption) (by assumption)); exact rfl; (first | assumption | omega)) | (apply s_loadF (undef, []); exact rfl; exact rfl; (first | exact rd_plain (by assumption) | exact rd_extF (by assumption) | exact rd_plain (OwnF.sl (by assumption)) | exact rd_extF (OwnF.sl (by assumption)) | exact rd_onlyF (by assumption) (by assumption)); exact rfl; (first | assumption | omega)) | (apply s_slice_hF; exact rfl; (first | exact isK_c | exact isK_t rfl); exact rfl; exact rfl; (first | assumption | exact OwnF.sl (by assumption)); exact rfl; (first | assumption | omega)) | (apply s_slice_lF; exact rfl; (first | exact isK_c | exact isK_t rfl); exact rfl; exact rfl; (first | assumption | exact OwnF.sl (by assumption)); exact rfl; (first | assumption | omega)) | (apply s_slice_lhF; exact rfl; (first | exact isK_c | exact isK_t rfl); (first | exact isK_c | exact isK_t rfl); exact rfl; exact rfl; (first | assumption | exact OwnF.sl (by assumption)); exact rfl; (first | assumption | omega); (first | assumption | omega)) | (apply s_eqU; (first | exact isK_c | exact isK_t rfl); (first | exact isK_c | exact isK_t rfl); exact rfl) | (apply s_neU; (first | exact isK_c | exact isK_t rfl); (first | exact isK_c | exact isK_t rfl); exact rfl) | (apply s_ltU; (first | exact isK_c | exact isK_t rfl); (first | exact isK_c | exact isK_t rfl); exact rfl) | (apply s_leU; (first | exact isK_c | exact isK_t rfl); (first | exact isK_c | exact isK_t rfl); exact rfl) | (apply s_gtU; (first | exact isK_c | exact isK_t rfl); (first | exact isK_c | exact isK_t rfl); exact rfl) | (apply s_geU; (first | exact isK_c | exact isK_t rfl); (first | exact isK_c | exact isK_t rfl); exact rfl) | (apply s_eqN; (first | exact isK_c | exact isK_t rfl); (first | exact isK_c | exact isK_t rfl); exact rfl) | (apply s_neN; (first | exact isK_c | exact isK_t rfl); (first | exact isK_c | exact isK_t rfl); exact rfl) | (apply s_ltN; (first | exact isK_c | exact isK_t rfl); (first | exact isK_c | exact isK_t rfl); exact rfl) | (apply s_leN; (first | exact isK_c | exact isK_t rfl); (first | exact isK_c | exact isK_t rfl); exact rfl) | (apply s_gtN; (first | exact isK_c | exact isK_t rfl); (first | exact isK_c | exact isK_t rfl); exact rfl) | (apply s_geN; (first | exact isK_c | exact isK_t rfl); (first | exact isK_c | exact isK_t rfl); exact rfl) | (apply s_eqI; exact rfl; exact rfl; exact rfl) | (apply s_neI; exact rfl; exact rfl; exact rfl) | (apply s_ltI; exact rfl; exact rfl; exact rfl) | (apply s_leI; exact rfl; exact rfl; exact rfl) | (apply s_gtI; exact rfl; exact rfl; exact rfl) | (apply s_geI; exact rfl; exact rfl; exact rfl) | (apply s_addN; (first | exact isK_c | exact isK_t rfl); (first | exact isK_c | exact isK_t rfl); exact rfl; (first | assumption | omega)) | (apply s_subN; (first | exact isK_c | exact isK_t rfl); (first | exact isK_c | exact isK_t rfl); exact rfl; (first | assumption | omega)) | (apply s_mulN; (first | exact isK_c | exact isK_t rfl); (first | exact isK_c | exact isK_t rfl); exact rfl; (first | assumption | omega)) | (apply s_addI; exact rfl; exact rfl; exact rfl; (first | assumption | omega)) | (apply s_subI; exact rfl; exact rfl; exact rfl; (first | assumption | omega)) | (apply s_addU; (first | exact isK_c | exact isK_t rfl); (first | exact isK_c | exact isK_t rfl); exact rfl; (first | assumption | omega)) | (apply s_subU; (first | exact isK_c | exact isK_t rfl); (first | exact isK_c | exact isK_t rfl); exact rfl; (first | assumption | omega)) | (apply s_remU; (first | exact isK_c | exact isK_t rfl); (first | exact isK_c | exact isK_t rfl); exact rfl; (first | assumption | omega)) | (apply s_quoU; (first | exact isK_c | exact isK_t rfl); (first | exact isK_c | exact isK_t rfl); exact rfl; (first | assumption | omega)) | (apply s_mulU; (first | exact isK_c | exact isK_t rfl); (first | exact isK_c | exact isK_t rfl); exact rfl; (first | assumption | omega)) | (apply s_shlU'; (first | exact isK_c | exact isK_t rfl); (first | exact isK_c | exact isK_t rfl); exact rfl; (first | assumption | omega); (first | assumption | omega)) | (apply s_shlU; (first | exact isK_c | exact isK_t rfl); (first | exact isK_c | exact isK_t rfl); exact rfl; (first | assumption | omega)) | (apply s_shrU; (first | exact isK_c | exact isK_t rfl); (first | exact isK_c | exact isK_t rfl); exact rfl; (first | assumption | omega)) | (apply s_andU; (first | exact isK_c | exact isK_t rfl); (first | exact isK_c | exact isK_t rfl); exact rfl; (first | assumption | omega)) | (apply s_orU; (first | exact isK_c | exact isK_t rfl); (first | exact isK_c | exact isK_t rfl); exact rfl; (first | assumption | omega)) | (apply s_xorU; (first | exact isK_c | exact isK_t rfl); (first | exact isK_c | exact isK_t rfl); exact rfl; (first | assumption | omega)) | (apply s_negI; exact rfl; exact rfl; (first | assumption | omega)) | (apply s_negU; (first | exact isK_c | exact isK_t rfl); exact rfl; (first | assumption | omega)) | (apply s_convU; (first | exact isK_c | exact isK_t rfl); exact rfl; exact rfl; exact rfl; (first | assumption | omega)) | (apply s_convI; exact rfl; exact rfl; exact rfl; exact rfl; (first | assumption | omega)) | (apply s_quoN; (first | exact isK_c | exact isK_t rfl); (first | exact isK_c | exact isK_t rfl); exact rfl; (first | assumption | omega)) | (apply s_remN; (first | exact isK_c | exact isK_t rfl); (first | exact isK_c | exact isK_t rfl); exact rfl; (first | assumption | omega)) | (apply s_shrN; (first | exact isK_c | exact isK_t rfl); (first | exact isK_c | exact isK_t rfl); exact rfl; (first | assumption | omega)) | (apply s_convN; (first | exact isK_c | exact isK_t rfl); exact rfl; exact rfl; exact rfl; (first | assumption | omega)) | (apply s_op; exact rfl; exact rfl) | (apply s_skip; exact rfl; exact rfl; exact rfl) | (apply s_nil; exact rfl) | (apply s_op0; exact rfl; exact rfl) | apply then_normal | apply then_ret | apply then_exit | apply inb_normal | apply inb_ret | apply inb_here | (apply inb_past; exact rfl) | apply again_exit | apply again_ret | apply cut_exit | apply cut_ret | (apply w_seq; exact rfl) | (apply r_plain; exact rfl) | (apply w_block; exact rfl) | (apply w_ret; exact rfl) | (apply w_cond_true; exact rfl; exact rfl) | (apply w_cond_false; exact rfl; exact rfl) | (apply w_exit; exact rfl) | (apply w_skip; exact rfl) | (apply w_label; exact rfl))); exact r.get) : G := k ⟨r⟩
end Go.Den

/- A region in which one operation that acts may come up at any place among the others. No condition. -/
namespace Go.Den
set_option linter.unusedVariables false
set_option maxRecDepth 8000
open Go Go.RowKit

section float
variable {P : Program} {ops : Array Oper} {C : World → Prop} {E : Nat → Bool}

/-- The operation f may come up at any place of the list, and comes up behind it at the latest; then post. -/
def MixF (P : Program) (ops : Array Oper) (C : World → Prop) (E : Nat → Bool) (Q : Act → World → Prop) (f : Nat) (post : List Nat) : List Nat → Act → World → Prop
  | [], a, w => Mix P ops C E Q (f :: post) a w
  | i :: L, a, w => ∃ o, ops[i]? = some o ∧
      ((∃ v, Stab P ops C o v a ∧ MixF P ops C E Q f post L (a.put o.dst v) w) ∨
       (E i = true ∧ Wanted ops o a = true ∧ Mix P ops C E Q (f :: i :: (L ++ post)) a w ∧ Eff P o a w fun v w' => C w' ∧ MixF P ops C E Q f post L (a.put o.dst v) w'))

/-- Two operations that do not see each other. -/
structure Ap (ops : Array Oper) (oi oj : Oper) : Prop where mk ::
  ej : ∀ (a : Act) (u : Value), execOp (a.put oi.dst u).eval oj = execOp a.eval oj
  wj : ∀ (a : Act) (u : Value), Wanted ops oj (a.put oi.dst u) = Wanted ops oj a
  ei : ∀ (a : Act) (u : Value), execOp (a.put oj.dst u).eval oi = execOp a.eval oi
  wi : ∀ (a : Act) (u : Value), Wanted ops oi (a.put oj.dst u) = Wanted ops oi a
  pc : ∀ (a : Act) (u v : Value), (a.put oi.dst u).put oj.dst v = (a.put oj.dst v).put oi.dst u
theorem Ap.of {i j : Nat} {oi oj : Oper} (hs : NoSel ops) (hi : ops[i]? = some oi) (hj : ops[j]? = some oj) (h : oi.apart ops oj = true) : Ap ops oi oj := by
  obtain ⟨h1, h2, h3⟩ := Oper.apart_spec h
  have hsi : ∀ cs b, oi.op ≠ .select cs b := fun cs b => hs i oi cs b hi
  have hsj : ∀ cs b, oj.op ≠ .select cs b := fun cs b => hs j oj cs b hj
  exact ⟨fun a u => execOp_put oj hsj a oi.dst u h1, fun a u => wanted_put oj a oi.dst u h1, fun a u => execOp_put oi hsi a oj.dst u h3, fun a u => wanted_put oi a oj.dst u h3, fun a u v => Act.put_comm a u v h2⟩

/-- f now. -/
theorem floatNow (hs : NoSel ops) {Q : Act → World → Prop} {f : Nat} {of : Oper} (hf : ops[f]? = some of) (post : List Nat) : ∀ (pre : List Nat) (a : Act) (w : World), (∀ i ∈ pre, ∀ oi, ops[i]? = some oi → oi.apart ops of = true) →
    MixF P ops C E Q f post pre a w →
    (∃ v, Stab P ops C of v a ∧ Mix P ops C E Q (pre ++ post) (a.put of.dst v) w) ∨
    (E f = true ∧ Wanted ops of a = true ∧ Eff P of a w fun v w' => C w' ∧ Mix P ops C E Q (pre ++ post) (a.put of.dst v) w')
  | [], a, w, _, h => by
    obtain ⟨o, ho, h⟩ := h
    rw [hf] at ho; cases ho
    exact h
  | i :: pre, a, w, hp, h => by
    obtain ⟨oi, hi, h⟩ := h
    have ap := Ap.of hs hi hf (hp i (by simp) oi hi)
    rcases h with ⟨u, hu, h⟩ | ⟨hE, hW, ⟨o, ho, h⟩, -⟩
    · rcases floatNow hs hf post pre (a.put oi.dst u) w (fun k hk => hp k (by simp [hk])) h with ⟨v, hv, k⟩ | ⟨hEj, hWj, k⟩
      · refine .inl ⟨v, hv.of_same (ap.ej a u).symm (ap.wj a u).symm, oi, hi, .inl ⟨u, hu.of_same (ap.ei a v) (ap.wi a v), ?_⟩⟩
        rw [← ap.pc a u v]; exact k
      · refine .inr ⟨hEj, by rw [← ap.wj a u]; exact hWj, ?_⟩
        unfold Eff at k ⊢
        rw [ap.ej a u] at k
        exact EffUpon_mono (fun v w' hk => ⟨hk.1, oi, hi, .inl ⟨u, hu.of_same (ap.ei a v) (ap.wi a v), by rw [← ap.pc a u v]; exact hk.2⟩⟩) k
    · rw [hf] at ho; cases ho
      exact h

/-- An operation of pre now. -/
theorem floatPre (hs : NoSel ops) {Q : Act → World → Prop} {f j : Nat} {of oj : Oper} (hf : ops[f]? = some of) (hj : ops[j]? = some oj) (apj : of.apart ops oj = true) (post p2 : List Nat) : ∀ (pre : List Nat) (a : Act) (w : World), C w →
    (∀ i ∈ pre, (∀ oi, ops[i]? = some oi → oi.apart ops oj = true) ∧ ¬ (E i = true ∧ E j = true)) →
    MixF P ops C E Q f post (pre ++ j :: p2) a w →
    (∃ v, Stab P ops C oj v a ∧ MixF P ops C E Q f post (pre ++ p2) (a.put oj.dst v) w) ∨
    (E j = true ∧ Wanted ops oj a = true ∧ Eff P oj a w fun v w' => C w' ∧ MixF P ops C E Q f post (pre ++ p2) (a.put oj.dst v) w')
  | [], a, w, _, _, h => by
    obtain ⟨o, ho, h⟩ := h
    rw [hj] at ho; cases ho
    rcases h with h | ⟨h1, h2, -, h3⟩
    · exact .inl h
    · exact .inr ⟨h1, h2, h3⟩
  | i :: pre, a, w, hC, hp, h => by
    obtain ⟨oi, hi, h⟩ := h
    obtain ⟨hap, hch⟩ := hp i (by simp)
    have hp' : ∀ i ∈ pre, (∀ oi, ops[i]? = some oi → oi.apart ops oj = true) ∧ ¬ (E i = true ∧ E j = true) := fun k hk => hp k (by simp [hk])
    have ap := Ap.of hs hi hj (hap oi hi)
    rcases h with ⟨u, hu, h⟩ | ⟨hE, hW, g, h⟩
    · rcases floatPre hs hf hj apj post p2 pre (a.put oi.dst u) w hC hp' h with ⟨v, hv, k⟩ | ⟨hEj, hWj, k⟩
      · refine .inl ⟨v, hv.of_same (ap.ej a u).symm (ap.wj a u).symm, oi, hi, .inl ⟨u, hu.of_same (ap.ei a v) (ap.wi a v), ?_⟩⟩
        rw [← ap.pc a u v]; exact k
      · refine .inr ⟨hEj, by rw [← ap.wj a u]; exact hWj, ?_⟩
        unfold Eff at k ⊢
        rw [ap.ej a u] at k
        exact EffUpon_mono (fun v w' hk => ⟨hk.1, oi, hi, .inl ⟨u, hu.of_same (ap.ei a v) (ap.wi a v), by rw [← ap.pc a u v]; exact hk.2⟩⟩) k
    · have hEj : ¬ E j = true := fun e => hch ⟨hE, e⟩
      have step : Eff P oi a w fun u w' => C w' ∧ ∃ v, Stab P ops C oj v a ∧ MixF P ops C E Q f post (pre ++ p2) ((a.put oj.dst v).put oi.dst u) w' := by
        refine Eff_mono (fun u w' hk => ⟨hk.1, ?_⟩) h
        rcases floatPre hs hf hj apj post p2 pre (a.put oi.dst u) w' hk.1 hp' hk.2 with ⟨v, hv, k⟩ | ⟨hEj', -, -⟩
        · exact ⟨v, hv.of_same (ap.ej a u).symm (ap.wj a u).symm, by rw [← ap.pc a u v]; exact k⟩
        · exact absurd hEj' hEj
      have g' : ∃ v, Stab P ops C oj v a ∧ Mix P ops C E Q (f :: i :: (pre ++ p2 ++ post)) (a.put oj.dst v) w := by
        have g2 : Mix P ops C E Q ((f :: i :: pre) ++ j :: (p2 ++ post)) a w := by
          have e : (f :: i :: pre) ++ j :: (p2 ++ post) = f :: i :: (pre.append (j :: p2) ++ post) := by
            show f :: i :: (pre ++ j :: (p2 ++ post)) = f :: i :: ((pre ++ j :: p2) ++ post)
            simp
          rw [e]; exact g
        have hob : ∀ k ∈ f :: i :: pre, (∀ ok, ops[k]? = some ok → ok.apart ops oj = true) ∧ ¬ (E k = true ∧ E j = true) := by
          intro k hk
          refine ⟨fun ok hok => ?_, fun e => hEj e.2⟩
          rcases List.mem_cons.1 hk with rfl | hk
          · rw [hf] at hok; cases hok; exact apj
          · rcases List.mem_cons.1 hk with rfl | hk
            · exact hap ok hok
            · exact (hp' k hk).1 ok hok
        rcases pull hs hj (p2 ++ post) (f :: i :: pre) a w hC hob g2 with ⟨v, hv, k⟩ | ⟨hEj', -, -⟩
        · refine ⟨v, hv, ?_⟩
          have e : f :: i :: (pre ++ p2 ++ post) = (f :: i :: pre) ++ (p2 ++ post) := by simp
          rw [e]; exact k
        · exact absurd hEj' hEj
      obtain ⟨v0, hv0, g'⟩ := g'
      refine .inl ⟨v0, hv0, oi, hi, .inr ⟨hE, by rw [ap.wi a v0]; exact hW, g', ?_⟩⟩
      unfold Eff at step ⊢
      rw [ap.ei a v0]
      refine EffUpon_mono (fun u w' hk => ?_) step
      obtain ⟨hc, v, hv, k⟩ := hk
      rw [Stab.unique hC hv hv0] at k
      exact ⟨hc, k⟩

/-- An operation of post now: it does not act. -/
theorem floatPost (hs : NoSel ops) {Q : Act → World → Prop} {f j : Nat} {of oj : Oper} (hf : ops[f]? = some of) (hj : ops[j]? = some oj) (apj : of.apart ops oj = true) (hEj : ¬ E j = true) (p1 p2 : List Nat)
    (hp1 : ∀ i ∈ p1, ∀ oi, ops[i]? = some oi → oi.apart ops oj = true) : ∀ (pre : List Nat) (a : Act) (w : World), C w →
    (∀ i ∈ pre, ∀ oi, ops[i]? = some oi → oi.apart ops oj = true) →
    MixF P ops C E Q f (p1 ++ j :: p2) pre a w → ∃ v, Stab P ops C oj v a ∧ MixF P ops C E Q f (p1 ++ p2) pre (a.put oj.dst v) w
  | [], a, w, hC, _, h => by
    have hob : ∀ k ∈ f :: p1, (∀ ok, ops[k]? = some ok → ok.apart ops oj = true) ∧ ¬ (E k = true ∧ E j = true) := by
      intro k hk
      refine ⟨fun ok hok => ?_, fun e => hEj e.2⟩
      rcases List.mem_cons.1 hk with rfl | hk
      · rw [hf] at hok; cases hok; exact apj
      · exact hp1 k hk ok hok
    rcases pull (E := E) hs hj p2 (f :: p1) a w hC hob h with ⟨v, hv, k⟩ | ⟨hEj', -, -⟩
    · exact ⟨v, hv, k⟩
    · exact absurd hEj' hEj
  | i :: pre, a, w, hC, hp, h => by
    obtain ⟨oi, hi, h⟩ := h
    have hap := hp i (by simp)
    have ap := Ap.of hs hi hj (hap oi hi)
    have hp' : ∀ i ∈ pre, ∀ oi, ops[i]? = some oi → oi.apart ops oj = true := fun k hk => hp k (by simp [hk])
    rcases h with ⟨u, hu, h⟩ | ⟨hE, hW, g, h⟩
    · obtain ⟨v, hv, k⟩ := floatPost hs hf hj apj hEj p1 p2 hp1 pre (a.put oi.dst u) w hC hp' h
      refine ⟨v, hv.of_same (ap.ej a u).symm (ap.wj a u).symm, oi, hi, .inl ⟨u, hu.of_same (ap.ei a v) (ap.wi a v), ?_⟩⟩
      rw [← ap.pc a u v]; exact k
    · have step : Eff P oi a w fun u w' => C w' ∧ ∃ v, Stab P ops C oj v a ∧ MixF P ops C E Q f (p1 ++ p2) pre ((a.put oj.dst v).put oi.dst u) w' := by
        refine Eff_mono (fun u w' hk => ⟨hk.1, ?_⟩) h
        obtain ⟨v, hv, k⟩ := floatPost hs hf hj apj hEj p1 p2 hp1 pre (a.put oi.dst u) w' hk.1 hp' hk.2
        exact ⟨v, hv.of_same (ap.ej a u).symm (ap.wj a u).symm, by rw [← ap.pc a u v]; exact k⟩
      have g' : ∃ v, Stab P ops C oj v a ∧ Mix P ops C E Q (f :: i :: (pre ++ (p1 ++ p2))) (a.put oj.dst v) w := by
        have g2 : Mix P ops C E Q ((f :: i :: (pre ++ p1)) ++ j :: p2) a w := by
          have e : (f :: i :: (pre ++ p1)) ++ j :: p2 = f :: i :: (pre ++ (p1 ++ j :: p2)) := by simp
          rw [e]; exact g
        have hob : ∀ k ∈ f :: i :: (pre ++ p1), (∀ ok, ops[k]? = some ok → ok.apart ops oj = true) ∧ ¬ (E k = true ∧ E j = true) := by
          intro k hk
          refine ⟨fun ok hok => ?_, fun e => hEj e.2⟩
          rcases List.mem_cons.1 hk with rfl | hk
          · rw [hf] at hok; cases hok; exact apj
          · rcases List.mem_cons.1 hk with rfl | hk
            · exact hap ok hok
            · rcases List.mem_append.1 hk with hk | hk
              · exact hp' k hk ok hok
              · exact hp1 k hk ok hok
        rcases pull hs hj p2 (f :: i :: (pre ++ p1)) a w hC hob g2 with ⟨v, hv, k⟩ | ⟨hEj', -, -⟩
        · refine ⟨v, hv, ?_⟩
          have e : f :: i :: (pre ++ (p1 ++ p2)) = (f :: i :: (pre ++ p1)) ++ p2 := by simp
          rw [e]; exact k
        · exact absurd hEj' hEj
      obtain ⟨v0, hv0, g'⟩ := g'
      refine ⟨v0, hv0, oi, hi, .inr ⟨hE, by rw [ap.wi a v0]; exact hW, g', ?_⟩⟩
      unfold Eff at step ⊢
      rw [ap.ei a v0]
      refine EffUpon_mono (fun u w' hk => ?_) step
      obtain ⟨hc, v, hv, k⟩ := hk
      rw [Stab.unique hC hv hv0] at k
      exact ⟨hc, k⟩

theorem Mix.congr {E' : Nat → Bool} {Q : Act → World → Prop} : ∀ (L : List Nat) (a : Act) (w : World), (∀ i ∈ L, E i = true → E' i = true) → Mix P ops C E Q L a w → Mix P ops C E' Q L a w
  | [], _, _, _, h => h
  | i :: L, a, w, hE, h => by
    have hE' : ∀ i ∈ L, E i = true → E' i = true := fun k hk => hE k (by simp [hk])
    obtain ⟨o, ho, h⟩ := h
    refine ⟨o, ho, ?_⟩
    rcases h with ⟨v, hv, k⟩ | ⟨h1, h2, k⟩
    · exact .inl ⟨v, hv, Mix.congr L _ _ hE' k⟩
    · exact .inr ⟨hE i (by simp) h1, h2, Eff_mono (fun v w' hk => ⟨hk.1, Mix.congr L _ _ hE' hk.2⟩) k⟩

/-- As regionOk, but for the operation f, which is apart from all ahead of it and after which all come that act and stand behind it. -/
def regionOkF (ops : List Oper) (E : Nat → Bool) (f : Nat) : Bool :=
  let A := ops.toArray
  regionOk ops (fun i => E i && !(Nat.beq i f)) &&
  match ops[f]? with
  | none => false
  | some of => (ops.take f).all (fun oi => oi.apart A of && of.apart A oi) &&
    (ops.zipIdx.all fun (oj, j) => !(Nat.blt f j && E j) || oj.after.toList.any fun e => Region.binds .any e && Nat.beq e.on f)

theorem regionOkF_spec {l : List Oper} {f : Nat} (h : regionOkF l E f = true) : regionOk l (fun i => E i && !(Nat.beq i f)) = true ∧ ∃ of, l[f]? = some of ∧
    (∀ i oi, i < f → l[i]? = some oi → oi.apart l.toArray of = true ∧ of.apart l.toArray oi = true) ∧
    (∀ j oj, f < j → E j = true → l[j]? = some oj → ∃ e ∈ oj.after.toList, Region.binds .any e = true ∧ e.on = f) := by
  unfold regionOkF at h
  simp only [Bool.and_eq_true] at h
  obtain ⟨h0, h⟩ := h
  refine ⟨h0, ?_⟩
  cases hf : l[f]? with
  | none => rw [hf] at h; cases h
  | some of =>
    rw [hf] at h
    simp only [Bool.and_eq_true, List.all_eq_true] at h
    obtain ⟨h1, h2⟩ := h
    refine ⟨of, rfl, fun i oi hi ho => h1 oi ?_, fun j oj hj hE ho => ?_⟩
    · have : (l.take f)[i]? = some oi := by rw [List.getElem?_take, if_pos hi]; exact ho
      exact List.mem_of_getElem? this
    · have h3 := h2 (oj, j) (List.mem_zipIdx_iff_getElem?.2 ho)
      have hlt : Nat.blt f j = true := Nat.ble_eq_true_of_le hj
      simp only [hlt, hE, Bool.and_self, Bool.not_true, Bool.false_or, List.any_eq_true, Bool.and_eq_true] at h3
      obtain ⟨e, he, hb, hq⟩ := h3
      exact ⟨e, he, hb, Nat.eq_of_beq_eq_true hq⟩

theorem any_of_mixF {l : List Oper} {f : Nat} {Q : Exit → Act → World → Prop} (hF : regionOkF l E f = true) : ∀ (m : Nat) (pre post : List Nat) (listed : Array Bool) (a : Act) (w : World),
    (pre ++ f :: post).length = m → (pre ++ f :: post).Pairwise (· < ·) → (∀ i, i ∈ pre ++ f :: post ↔ i < l.length ∧ listed.getD i true = false) → listed.size = l.length →
    Closed l.toArray (fun i => listed.getD i false) → C w → MixF P l.toArray C E (fun a w => Q .normal a w) f post pre a w → wpAny P .any l.toArray Q m listed a w := by
  obtain ⟨h, of, hof, hpreF, hpostF⟩ := regionOkF_spec hF
  obtain ⟨hs, hback, hpair⟩ := regionOk_spec h
  intro m
  induction m with
  | zero =>
    intro pre post listed a w hlen
    simp at hlen
  | succ m ih =>
    intro pre post listed a w hlen hsort hmem hsz hcl hC hm
    have hofA : l.toArray[f]? = some of := by simpa using hof
    have hq := List.pairwise_append.1 hsort
    have hq2 := List.pairwise_cons.1 hq.2.1
    have hpf : ∀ i ∈ pre, i < f := fun i hi => hq.2.2 i hi f (by simp)
    have hfp : ∀ i ∈ post, f < i := hq2.1
    have hnotL : ∀ i ∈ pre ++ f :: post, listed.getD i false = false := fun i hi => by
      have h1 := (hmem i).1 hi
      have h2 := h1.2
      rw [Array.getD_eq_getD_getElem?] at h2 ⊢
      rw [Array.getElem?_eq_getElem (by omega)] at h2 ⊢
      simpa using h2
    refine ⟨fun hnil => ?_, fun j hj => ?_⟩
    · -- the first that is left may come up
      obtain ⟨k, L', hL⟩ : ∃ k L', pre ++ f :: post = k :: L' := by
        cases pre with
        | nil => exact ⟨_, _, rfl⟩
        | cons k p => exact ⟨_, _, rfl⟩
      rw [hL] at hmem hsort
      exfalso
      have hk := (hmem k).1 (by simp)
      have hkr : k ∈ Region.ready .any l.toArray listed := by
        refine mem_ready.2 ⟨hk.2, l[k]'hk.1, by simp [hk.1], fun e he hb => ?_⟩
        have hlt := hback k (l[k]'hk.1) (by simp [hk.1]) e (by simpa using he) hb
        have hlt' : e.on < l.length := Nat.lt_trans hlt hk.1
        cases hg : listed.getD e.on true with
        | true =>
          rw [Array.getD_eq_getD_getElem?] at hg ⊢
          rw [Array.getElem?_eq_getElem (by omega)] at hg ⊢
          simpa using hg
        | false =>
          have hin := (hmem e.on).2 ⟨hlt', hg⟩
          rcases List.mem_cons.1 hin with heq | hin'
          · omega
          · have := (List.pairwise_cons.1 hsort).1 _ hin'
            omega
      rw [hnil] at hkr
      cases hkr
    · obtain ⟨hj1, oj, hoj, hjall⟩ := mem_ready.1 hj
      have hjl : j < l.length := by simpa using (Array.getElem?_eq_some_iff.1 hoj).1
      have hoj' : l[j]? = some oj := by simpa using hoj
      have hjL : j ∈ pre ++ f :: post := (hmem j).2 ⟨hjl, hj1⟩
      have hdep : ∀ e ∈ oj.after.toList, Region.binds .any e = true → listed.getD e.on false = true := fun e he hb => hjall e (by simpa using he) hb
      -- what is left and stands ahead is apart, and does not act beside it
      have hap : ∀ i, i ∈ pre ++ f :: post → i < j → (∀ oi, l.toArray[i]? = some oi → oi.apart l.toArray oj = true) ∧ (i ≠ f → j ≠ f → ¬ (E i = true ∧ E j = true)) := fun i hi hij => by
        have hi1 := (hmem i).1 hi
        have hif := hnotL i hi
        refine ⟨fun oi hoi => ?_, fun n1 n2 ⟨e1, e2⟩ => ?_⟩
        · obtain ⟨hor, -⟩ := hpair i j oi oj hij (by simpa using hoi) hoj'
          rcases hor with ⟨e, he, hb, heq⟩ | hap
          · have := hdep e he hb
            rw [heq, hif] at this
            cases this
          · exact hap
        · obtain ⟨-, hch⟩ := hpair i j (l[i]'hi1.1) oj hij (by simp [hi1.1]) hoj'
          have b1 : Nat.beq i f = false := by
            cases hb : Nat.beq i f with
            | true => exact absurd (Nat.eq_of_beq_eq_true hb) n1
            | false => rfl
          have b2 : Nat.beq j f = false := by
            cases hb : Nat.beq j f with
            | true => exact absurd (Nat.eq_of_beq_eq_true hb) n2
            | false => rfl
          have hb := hch (by simp [e1, b1]) (by simp [e2, b2])
          have := anc_sound (ops := l.toArray) hcl l #[] (by simp) (by simp) (fun k _ hk => ⟨l[k]'(by simpa using hk), by simp at hk; simp [hk]⟩) (by simp) j oj hoj (by simpa using hjl) hdep i hb
          rw [hif] at this
          cases this
      have hcl' : Closed l.toArray (fun i => (listed.setIfInBounds j true).getD i false) := fun k o hk hl e he hb => by
        by_cases hkj : j = k
        · subst hkj
          rw [hoj] at hk; cases hk
          exact getD_set_true (hdep e he hb)
        · have hl' : listed.getD k false = true := by
            have := getD_set_ne (listed := listed) false hkj
            simp only [this] at hl
            exact hl
          exact getD_set_true (hcl k o hk hl' e he hb)
      have hmem' : ∀ A B, pre ++ f :: post = A ++ j :: B → ∀ i, i ∈ A ++ B ↔ i < l.length ∧ (listed.setIfInBounds j true).getD i true = false := fun A B hAB i => by
        rw [hAB] at hsort hmem
        have hnd : i ∈ A ++ B ↔ i ∈ A ++ j :: B ∧ i ≠ j := by
          have hq := List.pairwise_append.1 hsort
          have hq2 := List.pairwise_cons.1 hq.2.1
          constructor
          · intro hi
            refine ⟨by rcases List.mem_append.1 hi with hi | hi <;> simp [hi], fun heq => ?_⟩
            subst heq
            rcases List.mem_append.1 hi with hi | hi
            · exact Nat.lt_irrefl _ (hq.2.2 i hi i (by simp))
            · exact Nat.lt_irrefl _ (hq2.1 _ hi)
          · rintro ⟨hi, hne⟩
            rcases List.mem_append.1 hi with hi | hi
            · simp [hi]
            · rcases List.mem_cons.1 hi with hi | hi
              · exact absurd hi hne
              · simp [hi]
        rw [hnd, hmem i]
        by_cases hij : j = i
        · subst hij
          have hset : (listed.setIfInBounds j true).getD j true = true := by
            rw [Array.getD_eq_getD_getElem?, Array.getElem?_setIfInBounds_self_of_lt (by omega)]; rfl
          rw [hset]
          simp
        · rw [getD_set_ne true hij]
          constructor
          · rintro ⟨⟨h1, h2⟩, -⟩; exact ⟨h1, h2⟩
          · rintro ⟨h1, h2⟩; exact ⟨⟨h1, h2⟩, fun e => hij e.symm⟩
      have hsort' : ∀ A B, pre ++ f :: post = A ++ j :: B → (A ++ B).Pairwise (· < ·) := fun A B hAB => by
        rw [hAB] at hsort
        exact hsort.sublist (List.Sublist.append_left (List.sublist_cons_self _ _) _)
      have hlen' : ∀ A B, pre ++ f :: post = A ++ j :: B → (A ++ B).length = m := fun A B hAB => by
        rw [hAB] at hlen
        simp at hlen ⊢; omega
      unfold wpOp
      simp only [hoj]
      -- a step that leaves what may go on
      have fin : ∀ (X : Act → World → Prop), (∀ a' w', C w' → X a' w' → wpAny P .any l.toArray Q m (listed.setIfInBounds j true) a' w') →
          ((∃ v, Stab P l.toArray C oj v a ∧ X (a.put oj.dst v) w) ∨ (Wanted l.toArray oj a = true ∧ Eff P oj a w fun v w' => C w' ∧ X (a.put oj.dst v) w')) →
          (if Region.wanted oj (yielded l.toArray a.tmps) = true then (oj.wp P a w (wpAny P .any l.toArray Q m (listed.setIfInBounds j true)) Q ∨ (oj.asks P a w ∧ LetsOut Q)) else wpAny P .any l.toArray Q m (listed.setIfInBounds j true) (a.put oj.dst undef) w) := by
        intro X next hx
        rcases hx with ⟨v, hv, k⟩ | ⟨hW, k⟩
        · rcases hv with ⟨hW, hr⟩ | ⟨hW, rfl⟩
          · rw [if_pos (show Region.wanted _ _ = true from hW)]
            refine .inl ?_
            unfold Oper.wp
            rw [hr w hC]
            exact next _ _ hC k
          · rw [if_neg (by unfold Wanted at hW; rw [hW]; exact Bool.false_ne_true)]
            exact next _ _ hC k
        · rw [if_pos (show Region.wanted _ _ = true from hW)]
          exact .inl (wp_of_Eff (fun v w' hk => next _ _ hk.1 hk.2) k)
      rcases List.mem_append.1 hjL with hjp | hjp
      · -- of pre
        obtain ⟨q1, q2, rfl⟩ := List.append_of_mem hjp
        have hjf := hpf j hjp
        have e0 : (q1 ++ j :: q2) ++ f :: post = q1 ++ j :: (q2 ++ f :: post) := by simp
        have e1 : q1 ++ (q2 ++ f :: post) = (q1 ++ q2) ++ f :: post := by simp
        have hq1 : ∀ i ∈ q1, i < j := fun i hi => by
          have := hsort
          rw [e0] at this
          exact (List.pairwise_append.1 this).2.2 i hi j (by simp)
        refine fin (fun a' w' => MixF P l.toArray C E (fun a w => Q .normal a w) f post (q1 ++ q2) a' w') (fun a' w' hC' hx => ?_) ?_
        · refine ih (q1 ++ q2) post (listed.setIfInBounds j true) a' w' ?_ ?_ ?_ (by simpa using hsz) hcl' hC' hx
          · rw [← e1]; exact hlen' _ _ e0
          · rw [← e1]; exact hsort' _ _ e0
          · rw [← e1]; exact hmem' _ _ e0
        · have hob : ∀ i ∈ q1, (∀ oi, l.toArray[i]? = some oi → oi.apart l.toArray oj = true) ∧ ¬ (E i = true ∧ E j = true) := fun i hi => by
            have h1 := hap i (by simp [hi]) (hq1 i hi)
            refine ⟨h1.1, h1.2 (fun e => ?_) (fun e => ?_)⟩
            · have := hq1 i hi; omega
            · omega
          rcases floatPre hs hofA hoj (hpreF j oj hjf hoj').2 post q2 q1 a w hC hob hm with hx | ⟨-, hW, hx⟩
          · exact .inl hx
          · exact .inr ⟨hW, hx⟩
      · rcases List.mem_cons.1 hjp with rfl | hjp
        · -- f itself
          rw [hofA] at hoj; cases hoj
          have hA : ∀ i ∈ pre ++ post, i ≠ j := fun i hi e => by
            subst e
            rcases List.mem_append.1 hi with hi | hi
            · exact Nat.lt_irrefl _ (hpf _ hi)
            · exact Nat.lt_irrefl _ (hfp _ hi)
          refine fin (fun a' w' => Mix P l.toArray C E (fun a w => Q .normal a w) (pre ++ post) a' w') (fun a' w' hC' hx => ?_) ?_
          · refine any_of_mix (E := fun i => E i && !(Nat.beq i j)) h m (pre ++ post) (listed.setIfInBounds j true) a' w' (hlen' _ _ rfl) (hsort' _ _ rfl) (hmem' _ _ rfl) (by simpa using hsz) hcl' hC' ?_
            refine hx.congr _ _ _ fun i hi hE => ?_
            have : Nat.beq i j = false := by
              cases hb : Nat.beq i j with
              | true => exact absurd (Nat.eq_of_beq_eq_true hb) (hA i hi)
              | false => rfl
            simp [hE, this]
          · rcases floatNow hs hofA post pre a w (fun i hi oi ho => (hpreF i oi (hpf i hi) (by simpa using ho)).1) hm with hx | ⟨-, hW, hx⟩
            · exact .inl hx
            · exact .inr ⟨hW, hx⟩
        · -- of post
          obtain ⟨q1, q2, rfl⟩ := List.append_of_mem hjp
          have hjf := hfp j hjp
          have e0 : pre ++ f :: (q1 ++ j :: q2) = (pre ++ f :: q1) ++ j :: q2 := by simp
          have e1 : (pre ++ f :: q1) ++ q2 = pre ++ f :: (q1 ++ q2) := by simp
          have hq1 : ∀ i ∈ pre ++ f :: q1, i < j := fun i hi => by
            have := hsort
            rw [e0] at this
            exact (List.pairwise_append.1 this).2.2 i hi j (by simp)
          have hin : ∀ i, i ∈ pre ++ f :: q1 → i ∈ pre ++ f :: (q1 ++ j :: q2) := fun i hi => by
            rw [e0]; simp only [List.mem_append] at hi ⊢; exact .inl hi
          have hEj : ¬ E j = true := fun hE => by
            obtain ⟨e, he, hb, hef⟩ := hpostF j oj hjf hE hoj'
            have h1 := hdep e he hb
            rw [hef, hnotL f (by simp)] at h1
            cases h1
          refine fin (fun a' w' => MixF P l.toArray C E (fun a w => Q .normal a w) f (q1 ++ q2) pre a' w') (fun a' w' hC' hx => ?_) ?_
          · refine ih pre (q1 ++ q2) (listed.setIfInBounds j true) a' w' ?_ ?_ ?_ (by simpa using hsz) hcl' hC' hx
            · rw [← e1]; exact hlen' _ _ e0
            · rw [← e1]; exact hsort' _ _ e0
            · rw [← e1]; exact hmem' _ _ e0
          · refine .inl (floatPost hs hofA hoj ?_ hEj q1 q2 ?_ pre a w hC ?_ hm)
            · exact (hap f (by simp) hjf).1 of hofA
            · exact fun i hi oi ho => (hap i (by simp [hi]) (hq1 i (by simp [hi]))).1 oi ho
            · exact fun i hi oi ho => (hap i (by simp [hi]) (hq1 i (by simp [hi]))).1 oi ho

/-- A drawn region with such an operation. -/
theorem region_float {id : Nat} {l : List Oper} {f : Nat} {Q : Exit → Act → World → Prop} {a : Act} {w : World} (hm : P.follows .mixedOrders = true) (hok : regionOkF l E f = true)
    (hC : C { w with drawn := w.drawn + 1 }) (h : MixF P l.toArray C E (fun a w => Q .normal a w) f (List.range' (f + 1) (l.length - (f + 1))) (List.range f) a { w with drawn := w.drawn + 1 }) :
    (Code.region id l.toArray true).wp P Q a w := by
  refine wp_region_any hm ?_
  obtain ⟨-, of, hof, -⟩ := regionOkF_spec hok
  have hfl : f < l.length := (List.getElem?_eq_some_iff.1 hof).1
  have hsplit : List.range f ++ f :: List.range' (f + 1) (l.length - (f + 1)) = List.range l.length := by
    rw [List.range_eq_range', List.range_eq_range', ← List.range'_succ]
    rw [show l.length - (f + 1) + 1 = l.length - f by omega]
    have := @List.range'_append 0 f (l.length - f) 1
    rw [show (0 + 1 * f) = f by omega] at this
    rw [this, show f + (l.length - f) = l.length by omega]
  have := any_of_mixF (P := P) (C := C) (Q := Q) hok l.length (List.range f) (List.range' (f + 1) (l.length - (f + 1))) (Array.replicate l.length false) a { w with drawn := w.drawn + 1 } (by rw [hsplit]; simp) (by rw [hsplit]; exact List.pairwise_lt_range)
    (fun i => by
      rw [hsplit, List.mem_range]
      constructor
      · intro hi
        refine ⟨hi, ?_⟩
        rw [Array.getD_eq_getD_getElem?, Array.getElem?_eq_getElem (by simpa using hi)]
        simp
      · exact fun hi => hi.1)
    (by simp) (fun k o _ hk e _ _ => by
      exfalso
      by_cases hlt : k < l.length
      · simp [Array.getD_eq_getD_getElem?, hlt] at hk
      · simp [Array.getD_eq_getD_getElem?, hlt] at hk) hC h
  simpa using this

end float

/-! ### By frames -/

theorem wanted_none {ops : Array Oper} {o : Oper} {a : Act} (h : o.guard = none) : Wanted ops o a = true := by
  unfold Wanted Region.wanted; rw [h]

/-- The same operations, from another list of them. -/
theorem mix_ops {P : Program} {C : World → Prop} {o1 o2 : List Oper} {Q1 Q2 : Act → World → Prop} (hg : ∀ o ∈ o2, o.guard = none) (hQ : ∀ a w, Q1 a w → Q2 a w) : ∀ (L1 L2 : List Nat) (a : Act) (w : World),
    L1.map (fun i => o1[i]?) = L2.map (fun i => o2[i]?) → Mix P o1.toArray C (effB o1) Q1 L1 a w → Mix P o2.toArray C (effB o2) Q2 L2 a w
  | [], [], a, w, _, h => hQ a w h
  | [], _ :: _, a, w, he, h => by simp at he
  | _ :: _, [], a, w, he, h => by simp at he
  | i :: L1, j :: L2, a, w, he, h => by
    simp only [List.map_cons, List.cons.injEq] at he
    obtain ⟨he1, he2⟩ := he
    obtain ⟨o, ho, h⟩ := h
    have ho1 : o1[i]? = some o := by simpa using ho
    have ho2 : o2[j]? = some o := by rw [← he1]; exact ho1
    have hn : o.guard = none := hg o (List.mem_of_getElem? ho2)
    refine ⟨o, by simpa using ho2, ?_⟩
    rcases h with ⟨v, hv, k⟩ | ⟨h1, h2, k⟩
    · refine .inl ⟨v, ?_, mix_ops hg hQ L1 L2 _ _ he2 k⟩
      rcases hv with ⟨-, hr⟩ | ⟨hW, -⟩
      · exact .inl ⟨wanted_none hn, hr⟩
      · rw [wanted_none hn] at hW; cases hW
    · refine .inr ⟨?_, wanted_none hn, Eff_mono (fun v w' hk => ⟨hk.1, mix_ops hg hQ L1 L2 _ _ he2 hk.2⟩) k⟩
      unfold effB at h1 ⊢
      rw [opAt_eq, ho1] at h1
      rw [opAt_eq, ho2]
      exact h1

theorem map_range' {l : List Oper} : ∀ (k i : Nat), i + k ≤ l.length → (List.range' i k).map (fun i => l[i]?) = ((l.drop i).take k).map some
  | 0, i, _ => by simp
  | k + 1, i, h => by
    have hi : i < l.length := by omega
    rw [List.range'_succ, List.map_cons, map_range' k (i + 1) (by omega), List.drop_eq_getElem_cons hi, List.take_succ_cons, List.map_cons, List.getElem?_eq_getElem hi]

/-- f at place i. -/
def moveTo (ops : List Oper) (f i : Nat) : List Oper := ops.take i ++ (ops[f]?.toList ++ ((ops.drop i).take (f - i) ++ ops.drop (f + 1)))

def noGuards (ops : List Oper) : Bool := ops.all fun o => o.guard.isNone
theorem noGuards_spec {ops : List Oper} (h : noGuards ops = true) : ∀ o ∈ ops, o.guard = none := by
  unfold noGuards at h
  rw [List.all_eq_true] at h
  exact fun o ho => by simpa using h o ho

section rules
variable {P : Program} {n : Nat} {ops : List Oper} {Ch : Hp → Prop} {Q : Post} {l : Fr} {h : Hp} {f i : Nat}

/-- What is left of a region, from number i on, where f has not come up yet. -/
structure SF (P : Program) (n : Nat) (ops : List Oper) (Ch : Hp → Prop) (Q : Post) (f i : Nat) (l : Fr) (h : Hp) : Prop where mk ::
  run : ∀ a w w0, Fits l n a → w.heap = h → Oth w0 w →
    MixF P ops.toArray (fun w' => Oth w0 w' ∧ Ch w'.heap) (effB ops) (fun a w' => lift n Q w0 .normal a w') f (List.range' (f + 1) (ops.length - (f + 1))) (List.range' i (f - i)) a w

def ToSF (P : Program) (n : Nat) (ops : List Oper) (Ch : Hp → Prop) (Q : Post) (f i : Nat) : Post := fun e l h => e = .normal ∧ SF P n ops Ch Q f i l h
theorem to_sf (k : SF P n ops Ch Q f i l h) : At (ToSF P n ops Ch Q f i) .normal l h := ⟨⟨rfl, k⟩⟩

theorem r_drawnF {c : Code} (Ch : Hp → Prop) (f : Nat) (hc : tagOf c = .region true) (hm : P.follows .mixedOrders = true) (hok : regionOkF (opsOf c) (effB (opsOf c)) f = true) (hC : Ch h)
    (k : SF P n (opsOf c) Ch Q f 0 l h) : W P n c Q l h := W.mk fun a w hf hw => by
  cases c <;> cases hc
  rename_i id ops
  have := region_float (id := id) (l := ops.toList) (f := f) (E := effB ops.toList) (Q := lift n Q w) (C := fun w' => Oth w w' ∧ Ch w'.heap) hm hok ⟨⟨rfl, rfl, rfl⟩, by rw [← hw] at hC; exact hC⟩ (a := a) (by
    have := k.run a { w with drawn := w.drawn + 1 } w hf hw ⟨rfl, rfl, rfl⟩
    rw [Nat.sub_zero, ← List.range_eq_range'] at this
    exact this)
  simpa using this

/-- f comes last. -/
theorem sf_end (hf : Nat.blt f ops.length = true) (k : S P n ops Ch (effB ops) Q f l h) : SF P n ops Ch Q f f l h := SF.mk fun a w w0 h1 h2 h3 => by
  have hlt : f < ops.length := Nat.le_of_ble_eq_true hf
  have := k.run a w w0 h1 h2 h3
  rw [show ops.length - f = ops.length - (f + 1) + 1 by omega, List.range'_succ] at this
  rw [Nat.sub_self]
  exact this

theorem mixF_of_mix {C : World → Prop} {E : Nat → Bool} {os : Array Oper} {Q1 Q2 : Act → World → Prop} {post rest : List Nat} (hQ : ∀ a w, Q1 a w → MixF P os C E Q2 f post rest a w) : ∀ (L : List Nat) (a : Act) (w : World),
    (∀ i ∈ L, E i = false) → Mix P os C E Q1 L a w → MixF P os C E Q2 f post (L ++ rest) a w
  | [], a, w, _, h => hQ a w h
  | i :: L, a, w, hE, h => by
    obtain ⟨o, ho, h⟩ := h
    refine ⟨o, ho, .inl ?_⟩
    rcases h with ⟨v, hv, k⟩ | ⟨h1, -⟩
    · exact ⟨v, hv, mixF_of_mix hQ L _ _ (fun i hi => hE i (by simp [hi])) k⟩
    · rw [hE i (by simp)] at h1; cases h1

/-- Operations that do not act, from i up to m. -/
theorem sf_seg (m : Nat) (him : Nat.ble i m = true) (hmf : Nat.ble m f = true) (hlen : Nat.ble f ops.length = true) (hg : noGuards ops = true) (hE : ((List.range' i (m - i)).all fun j => !effB ops j) = true)
    (k : S P n (ops.take m) Ch (effB (ops.take m)) (ToSF P n ops Ch Q f m) i l h) : SF P n ops Ch Q f i l h := SF.mk fun a w w0 h1 h2 h3 => by
  have him := Nat.le_of_ble_eq_true him
  have hmf := Nat.le_of_ble_eq_true hmf
  have hlen := Nat.le_of_ble_eq_true hlen
  have := k.run a w w0 h1 h2 h3
  have hl : (ops.take m).length = m := by rw [List.length_take]; omega
  rw [hl] at this
  have e : (List.range' i (m - i)).map (fun j => (ops.take m)[j]?) = (List.range' i (m - i)).map (fun j => ops[j]?) := by
    refine List.map_congr_left fun j hj => ?_
    rw [List.mem_range'_1] at hj
    rw [List.getElem?_take, if_pos (by omega)]
  have h4 := mix_ops (noGuards_spec hg) (fun a w h => h) _ _ a w e this
  have hsp : List.range' i (f - i) = List.range' i (m - i) ++ List.range' m (f - m) := by
    have := @List.range'_append i (m - i) (f - m) 1
    rw [show i + 1 * (m - i) = m by omega, show m - i + (f - m) = f - i by omega] at this
    exact this.symm
  rw [hsp]
  refine mixF_of_mix (fun a w hq => ?_) _ a w (fun j hj => by rw [List.all_eq_true] at hE; simpa using hE j hj) h4
  obtain ⟨l', g1, ⟨-, g2⟩, g3⟩ := hq
  exact g2.run a w w0 g1 rfl g3

/-- An operation that acts: f ahead of it, and f behind it. -/
theorem sf_act (hif : Nat.blt i f = true) (hlen : Nat.blt f ops.length = true) (hg : noGuards ops = true)
    (k1 : S P n (moveTo ops f i) Ch (effB (moveTo ops f i)) Q i l h)
    (k2 : S P n (ops.take (i + 1)) Ch (effB (ops.take (i + 1))) (ToSF P n ops Ch Q f (i + 1)) i l h) : SF P n ops Ch Q f i l h := SF.mk fun a w w0 h1 h2 h3 => by
  have hif : i < f := Nat.le_of_ble_eq_true hif
  have hlen : f < ops.length := Nat.le_of_ble_eq_true hlen
  have g1 := k1.run a w w0 h1 h2 h3
  have g2 := k2.run a w w0 h1 h2 h3
  have hml : (moveTo ops f i).length = ops.length := by
    unfold moveTo
    rw [List.getElem?_eq_getElem hlen]
    simp only [List.length_append, List.length_take, Option.toList_some, List.length_cons, List.length_nil, List.length_drop]
    omega
  have e1 : (List.range' i ((moveTo ops f i).length - i)).map (fun j => (moveTo ops f i)[j]?) = (f :: (List.range' i (f - i) ++ List.range' (f + 1) (ops.length - (f + 1)))).map (fun j => ops[j]?) := by
    rw [map_range' _ _ (by omega), List.map_cons, List.map_append, map_range' _ _ (by omega), map_range' _ _ (by omega), hml, List.getElem?_eq_getElem hlen]
    have ed : (moveTo ops f i).drop i = ops[f] :: ((ops.drop i).take (f - i) ++ ops.drop (f + 1)) := by
      unfold moveTo
      rw [List.drop_append_of_le_length (by rw [List.length_take]; omega), List.getElem?_eq_getElem hlen, List.drop_eq_nil_of_le (by rw [List.length_take]; omega)]
      rfl
    rw [ed, List.take_of_length_le (by
      simp only [List.length_append, List.length_take, List.length_cons, List.length_drop]
      omega), List.take_of_length_le (l := ops.drop (f + 1)) (by simp)]
    simp
  have m1 := mix_ops (noGuards_spec hg) (fun a w h => h) _ _ a w e1 g1
  have hl : (ops.take (i + 1)).length = i + 1 := by rw [List.length_take]; omega
  rw [hl, show i + 1 - i = 1 by omega] at g2
  have e2 : (List.range' i 1).map (fun j => (ops.take (i + 1))[j]?) = (List.range' i 1).map (fun j => ops[j]?) := by
    refine List.map_congr_left fun j hj => ?_
    rw [List.mem_range'_1] at hj
    rw [List.getElem?_take, if_pos (by omega)]
  have m2 := mix_ops (noGuards_spec hg) (fun a w h => h) _ _ a w e2 g2
  have hto : ∀ a w, lift n (ToSF P n ops Ch Q f (i + 1)) w0 .normal a w → MixF P ops.toArray (fun w' => Oth w0 w' ∧ Ch w'.heap) (effB ops) (fun a w' => lift n Q w0 .normal a w') f (List.range' (f + 1) (ops.length - (f + 1))) (List.range' (i + 1) (f - (i + 1))) a w := by
    intro a w hq
    obtain ⟨l', x1, ⟨-, x2⟩, x3⟩ := hq
    exact x2.run a w w0 x1 rfl x3
  have hsp : List.range' i (f - i) = i :: List.range' (i + 1) (f - (i + 1)) := by
    rw [show f - i = f - (i + 1) + 1 by omega, List.range'_succ]
  rw [hsp] at m1 ⊢
  obtain ⟨o, ho, m2⟩ := m2
  refine ⟨o, ho, ?_⟩
  rcases m2 with ⟨v, hv, k⟩ | ⟨y1, y2, k⟩
  · exact .inl ⟨v, hv, hto _ _ k⟩
  · exact .inr ⟨y1, y2, m1, Eff_mono (fun v w' hk => ⟨hk.1, hto _ _ hk.2⟩) k⟩

/-- A cut ahead of the code that comes next. -/
theorem w_thenCut {σ : Type} {c y : Code} (F : σ → Fr) (D : σ → Hp → Prop) (k : W P n c (Cut F D (Then P n y Q)) l h) (k2 : ∀ s h', D s h' → W P n y Q (F s) h') : W P n c (Then P n y Q) l h :=
  W.mk fun a w hf hw => wp_mono (k.run a w hf hw) fun e a' w' hq => by
    obtain ⟨l', h1, h2, h3⟩ := hq
    cases e with
    | normal =>
      obtain ⟨s, g1, g2⟩ := h2
      exact ⟨F s, h1.sub g1, k2 s _ g2, h3⟩
    | exit id => exact ⟨l', h1, h2, h3⟩
    | goto l => exact ⟨l', h1, h2, h3⟩
    | ret => exact ⟨l', h1, h2, h3⟩
    | panic c => exact ⟨l', h1, h2, h3⟩
    | outgrown => exact ⟨l', h1, h2, h3⟩
end rules
end Go.Den

/- Own calculus, part H: methods on pointers, rows that may be nil. No condition. -/
namespace Go.Den
set_option linter.unusedVariables false
set_option maxRecDepth 8000
open Go Go.RowKit

/-- Is a slice nil? -/
def nilS : Value → Bool
  | .slice none _ _ => true
  | _ => false
/-- A nil row is empty. -/
theorem SlF.nilE {α : Type} {f : α → Value} {h : Hp} {v : Value} {xs : List α} (s : SlF h f v xs) (hn : nilS v = true) : v = .slice none 0 0 ∧ xs = [] := by
  rcases s with ⟨⟨a, c, rfl, ha⟩, h1, h2⟩ | ⟨b, o, c, rfl, -⟩
  · cases a with
    | none => exact ⟨by rw [ha rfl], List.eq_nil_of_length_eq_zero h1⟩
    | some a => cases hn
  · cases hn

section rules
variable {P : Program} {n : Nat} {Q : Post} {l : Fr} {h : Hp} {ops : List Oper} {Ch : Hp → Prop} {E : Nat → Bool} {i : Nat}
variable {d : Nat} {t : TypeId} {x y z : Operand}

theorem s_nilCheck {p : Value} (hx : ev l x = some p) (hp : isPtr p = true) (hb : Nat.blt d n = true)
    (k : S P n ops Ch E Q (i + 1) ((d, p) :: l) h) : O P n ops Ch E Q i d (.nilCheck x) l h :=
  s_pure hb (fun a w' hf => by
    cases p <;> first | cases hp | skip
    rename_i a
    cases a with
    | none => cases hp
    | some a => simp only [execOp, hf.ev hx]; rfl) k
theorem s_eqSNil {α : Type} {f : α → Value} {v : Value} {cs : List α} {e yt : TypeId} {h0 : Hp} (hx : ev l x = some v) (hy : ev l y = some (.slice none 0 0)) (ht : P.underlying t = some (.slice e)) (hs : SlF h0 f v cs) (hb : Nat.blt d n = true)
    (k : S P n ops Ch E Q (i + 1) ((d, .bool (nilS v)) :: l) h) : O P n ops Ch E Q i d (.binOp .eql t x y yt) l h :=
  s_bin hx hy hb (fun w' => by
    obtain ⟨ad, c, hv, hc⟩ := Sl.len hs
    subst hv
    rw [Sem.run_bind]
    have h1 : (eqGuard .eql t x y (.slice ad cs.length c) (.slice none 0 0)).run P w' = .ok () w' := rfl
    rw [h1, Result.andThen_ok, Go.Lib.run_eql_slice_nil w' t e ad cs.length c 0 0 ht]
    cases ad <;> rfl) k
end rules
theorem runH {R G : Prop} (r : R) (k : Res R → G := by intro r; (repeat (first | (apply s_moveNc; exact rfl) | (apply s_assignNc; exact rfl) | (apply s_moveUc; exact rfl) | (apply s_move; exact rfl; exact rfl) | (apply s_assignUc; exact rfl) | (apply s_assign; exact rfl; exact rfl) | (apply s_extract; exact rfl; exact rfl; exact rfl) | (apply s_pickT; exact rfl; exact rfl; exact rfl) | (apply s_pickF; exact rfl; exact rfl; exact rfl) | (apply s_not; exact rfl; exact rfl) | (apply s_nilCheck; exact rfl; exact Var.ptr (by assumption); exact rfl) | (apply s_eqSNil; exact rfl; exact rfl; exact rfl; (first | assumption | exact OwnF.sl (by assumption)); exact rfl) | (apply s_shlN; (first | exact isK_c | exact isK_t rfl); (first | exact isK_c | exact isK_t rfl); exact rfl; (first | assumption | omega); (first | assumption | omega)) | (apply s_field; exact rfl; exact rfl; exact Var.ptr (by assumption); exact rfl) | (apply s_loadc; exact rfl; exact rfl; (first | exact rd_varP (by assumption) | exact rd_varX (by assumption) | exact rd_varO (by assumption) (by assumption)); exact rfl; exact rfl) | (apply s_load1; exact rfl; exact rfl; (first | exact rd_varP (by assumption) | exact rd_varX (by assumption) | exact rd_varO (by assumption) (by assumption)); exact rfl) | (apply s_loadV; exact rfl; exact rfl; (first | exact rd_varP (by assumption) | exact rd_varX (by assumption) | exact rd_varO (by assumption) (by assumption)); exact rfl; exact rfl) | (apply s_makeFunc; exact rfl; exact rfl; exact rfl) | (apply s_field2; exact rfl; exact rfl; exact rfl; exact rfl; exact rfl) | (apply s_eqB; exact rfl; exact rfl; exact rfl; exact rfl) | (apply s_neB; exact rfl; exact rfl; exact rfl; exact rfl) | (apply s_eqNil0; exact rfl; exact rfl; exact rfl; exact rfl) | (apply s_eqNil; exact rfl; exact rfl; exact Var.ptr (by assumption); exact rfl; exact rfl) | (apply s_lenF; exact rfl; exact rfl; (first | assumption | exact OwnF.sl (by assumption)); exact rfl) | (apply s_indexF; exact rfl; (first | exact isK_c | exact isK_t rfl); exact rfl; exact rfl; (first | assumption | exact OwnF.sl (by assumption)); exact rfl; (first | assumption | omega)) | (apply s_loadF 0; exact rfl; exact rfl; (first | exact rd_plain (by assumption) | exact rd_extF (by assumption) | exact rd_plain (OwnF.sl (by assumption)) | exact rd_extF (OwnF.sl (by assumption)) | exact rd_onlyF (by assumption) (by assumption)); exact rfl; (first | assumption | omega)) | (apply s_loadF undef; exact rfl; exact rfl; (first | exact rd_plain (by assumption) | exact rd_extF (by assumption) | exact rd_plain (OwnF.sl (by assumption)) | exact rd_extF (OwnF.sl (by assumption)) | exact rd_onlyF (by assumption) (by assumption)); exact rfl; (first | assumption | omega)) | (apply s_loadF (undef, []); exact rfl; exact rfl; (first | exact rd_plain (by assumption) | exact rd_extF (by assumption) | exact rd_plain (OwnF.sl (by assumption)) | exact rd_extF (OwnF.sl (by assumption)) | exact rd_onlyF (by assumption) (by assumption)); exact rfl; (first | assumption | omega)) | (apply s_slice_hF; exact rfl; (first | exact isK_c | exact isK_t rfl); exact rfl; exact rfl; (first | assumption | exact OwnF.sl (by assumption)); exact rfl; (first | assumption | omega)) | (apply s_slice_lF; exact rfl; (first | exact isK_c | exact isK_t rfl); exact rfl; exact rfl; (first | assumption | exact OwnF.sl (by assumption)); exact rfl; (first | assumption | omega)) | (apply s_slice_lhF; exact rfl; (first | exact isK_c | exact isK_t rfl); (first | exact isK_c | exact isK_t rfl); exact rfl; exact rfl; (first | assumption | exact OwnF.sl (by assumption)); exact rfl; (first | assumption | omega); (first | assumption | omega)) | (apply s_eqU; (first | exact isK_c | exact isK_t rfl); (first | exact isK_c | exact isK_t rfl); exact rfl) | (apply s_neU; (first | exact isK_c | exact isK_t rfl); (first | exact isK_c | exact isK_t rfl); exact rfl) | (apply s_ltU; (first | exact isK_c | exact isK_t rfl); (first | exact isK_c | exact isK_t rfl); exact rfl) | (apply s_leU; (first | exact isK_c | exact isK_t rfl); (first | exact isK_c | exact isK_t rfl); exact rfl) | (apply s_gtU; (first | exact isK_c | exact isK_t rfl); (first | exact isK_c | exact isK_t rfl); exact rfl) | (apply s_geU; (first | exact isK_c | exact isK_t rfl); (first | exact isK_c | exact isK_t rfl); exact rfl) | (apply s_eqN; (first | exact isK_c | exact isK_t rfl); (first | exact isK_c | exact isK_t rfl); exact rfl) | (apply s_neN; (first | exact isK_c | exact isK_t rfl); (first | exact isK_c | exact isK_t rfl); exact rfl) | (apply s_ltN; (first | exact isK_c | exact isK_t rfl); (first | exact isK_c | exact isK_t rfl); exact rfl) | (apply s_leN; (first | exact isK_c | exact isK_t rfl); (first | exact isK_c | exact isK_t rfl); exact rfl) | (apply s_gtN; (first | exact isK_c | exact isK_t rfl); (first | exact isK_c | exact isK_t rfl); exact rfl) | (apply s_geN; (first | exact isK_c | exact isK_t rfl); (first | exact isK_c | exact isK_t rfl); exact rfl) | (apply s_eqI; exact rfl; exact rfl; exact rfl) | (apply s_neI; exact rfl; exact rfl; exact rfl) | (apply s_ltI; exact rfl; exact rfl; exact rfl) | (apply s_leI; exact rfl; exact rfl; exact rfl) | (apply s_gtI; exact rfl; exact rfl; exact rfl) | (apply s_geI; exact rfl; exact rfl; exact rfl) | (apply s_addN; (first | exact isK_c | exact isK_t rfl); (first | exact isK_c | exact isK_t rfl); exact rfl; (first | assumption | omega)) | (apply s_subN; (first | exact isK_c | exact isK_t rfl); (first | exact isK_c | exact isK_t rfl); exact rfl; (first | assumption | omega)) | (apply s_mulN; (first | exact isK_c | exact isK_t rfl); (first | exact isK_c | exact isK_t rfl); exact rfl; (first | assumption | omega)) | (apply s_addI; exact rfl; exact rfl; exact rfl; (first | assumption | omega)) | (apply s_subI; exact rfl; exact rfl; exact rfl; (first | assumption | omega)) | (apply s_addU; (first | exact isK_c | exact isK_t rfl); (first | exact isK_c | exact isK_t rfl); exact rfl; (first | assumption | omega)) | (apply s_subU; (first | exact isK_c | exact isK_t rfl); (first | exact isK_c | exact isK_t rfl); exact rfl; (first | assumption | omega)) | (apply s_remU; (first | exact isK_c | exact isK_t rfl); (first | exact isK_c | exact isK_t rfl); exact rfl; (first | assumption | omega)) | (apply s_quoU; (first | exact isK_c | exact isK_t rfl); (first | exact isK_c | exact isK_t rfl); exact rfl; (first | assumption | omega)) | (apply s_mulU; (first | exact isK_c | exact isK_t rfl); (first | exact isK_c | exact isK_t rfl); exact rfl; (first | assumption | omega)) | (apply s_shlU'; (first | exact isK_c | exact isK_t rfl); (first | exact isK_c | exact isK_t rfl); exact rfl; (first | assumption | omega); (first | assumption | omega)) | (apply s_shlU; (first | exact isK_c | exact isK_t rfl); (first | exact isK_c | exact isK_t rfl); exact rfl; (first | assumption | omega)) | (apply s_shrU; (first | exact isK_c | exact isK_t rfl); (first | exact isK_c | exact isK_t rfl); exact rfl; (first | assumption | omega)) | (apply s_andU; (first | exact isK_c | exact isK_t rfl); (first | exact isK_c | exact isK_t rfl); exact rfl; (first | assumption | omega)) | (apply s_orU; (first | exact isK_c | exact isK_t rfl); (first | exact isK_c | exact isK_t rfl); exact rfl; (first | assumption | omega)) | (apply s_xorU; (first | exact isK_c | exact isK_t rfl); (first | exact isK_c | exact isK_t rfl); exact rfl; (first | assumption | omega)) | (apply s_negI; exact rfl; exact rfl; (first | assumption | omega)) | (apply s_negU; (first | exact isK_c | exact isK_t rfl); exact rfl; (first | assumption | omega)) | (apply s_convU; (first | exact isK_c | exact isK_t rfl); exact rfl; exact rfl; exact rfl; (first | assumption | omega)) | (apply s_convI; exact rfl; exact rfl; exact rfl; exact rfl; (first | assumption | omega)) | (apply s_quoN; (first | exact isK_c | exact isK_t rfl); (first | exact isK_c | exact isK_t rfl); exact rfl; (first | assumption | omega)) | (apply s_remN; (first | exact isK_c | exact isK_t rfl); (first | exact isK_c | exact isK_t rfl); exact rfl; (first | assumption | omega)) | (apply s_shrN; (first | exact isK_c | exact isK_t rfl); (first | exact isK_c | exact isK_t rfl); exact rfl; (first | assumption | omega)) | (apply s_convN; (first | exact isK_c | exact isK_t rfl); exact rfl; exact rfl; exact rfl; (first | assumption | omega)) | (apply s_op; exact rfl; exact rfl) | (apply s_skip; exact rfl; exact rfl; exact rfl) | (apply s_nil; exact rfl) | (apply s_op0; exact rfl; exact rfl) | apply then_normal | apply then_ret | apply then_exit | apply inb_normal | apply inb_ret | apply inb_here | (apply inb_past; exact rfl) | apply again_exit | apply again_ret | apply cut_exit | apply cut_ret | (apply w_seq; exact rfl) | (apply r_plain; exact rfl) | (apply w_block; exact rfl) | (apply w_ret; exact rfl) | (apply w_cond_true; exact rfl; exact rfl) | (apply w_cond_false; exact rfl; exact rfl) | (apply w_exit; exact rfl) | (apply w_skip; exact rfl) | (apply w_label; exact rfl) | (apply r_drawnX; exact rfl; exact mixed; kernel_rfl))); exact r.get) : G := k ⟨r⟩
theorem runHN {R G : Prop} (r : R) (k : Res R → G := by intro r; (repeat (first | (apply s_moveNc; exact rfl) | (apply s_assignNc; exact rfl) | (apply s_moveUc; exact rfl) | (apply s_move; exact rfl; exact rfl) | (apply s_assignUc; exact rfl) | (apply s_assign; exact rfl; exact rfl) | (apply s_extract; exact rfl; exact rfl; exact rfl) | (apply s_pickT; exact rfl; exact rfl; exact rfl) | (apply s_pickF; exact rfl; exact rfl; exact rfl) | (apply s_not; exact rfl; exact rfl) | (apply s_nilCheck; exact rfl; exact Var.ptr (by assumption); exact rfl) | (apply s_eqSNil; exact rfl; exact rfl; exact rfl; (first | assumption | exact OwnF.sl (by assumption)); exact rfl) | (apply s_shlN; (first | exact isK_c | exact isK_t rfl); (first | exact isK_c | exact isK_t rfl); exact rfl; (first | assumption | omega); (first | assumption | omega)) | (apply s_field; exact rfl; exact rfl; exact Var.ptr (by assumption); exact rfl) | (apply s_loadc; exact rfl; exact rfl; (first | exact rd_varP (by assumption) | exact rd_varX (by assumption) | exact rd_varO (by assumption) (by assumption)); exact rfl; exact rfl) | (apply s_load1; exact rfl; exact rfl; (first | exact rd_varP (by assumption) | exact rd_varX (by assumption) | exact rd_varO (by assumption) (by assumption)); exact rfl) | (apply s_loadV; exact rfl; exact rfl; (first | exact rd_varP (by assumption) | exact rd_varX (by assumption) | exact rd_varO (by assumption) (by assumption)); exact rfl; exact rfl) | (apply s_makeFunc; exact rfl; exact rfl; exact rfl) | (apply s_field2; exact rfl; exact rfl; exact rfl; exact rfl; exact rfl) | (apply s_eqB; exact rfl; exact rfl; exact rfl; exact rfl) | (apply s_neB; exact rfl; exact rfl; exact rfl; exact rfl) | (apply s_eqNil0; exact rfl; exact rfl; exact rfl; exact rfl) | (apply s_eqNil; exact rfl; exact rfl; exact Var.ptr (by assumption); exact rfl; exact rfl) | (apply s_lenF; exact rfl; exact rfl; (first | assumption | exact OwnF.sl (by assumption)); exact rfl) | (apply s_indexF; exact rfl; (first | exact isK_c | exact isK_t rfl); exact rfl; exact rfl; (first | assumption | exact OwnF.sl (by assumption)); exact rfl; (first | assumption | omega)) | (apply s_loadF 0; exact rfl; exact rfl; (first | exact rd_plain (by assumption) | exact rd_extF (by assumption) | exact rd_plain (OwnF.sl (by assumption)) | exact rd_extF (OwnF.sl (by assumption)) | exact rd_onlyF (by assumption) (by assumption)); exact rfl; (first | assumption | omega)) | (apply s_loadF undef; exact rfl; exact rfl; (first | exact rd_plain (by assumption) | exact rd_extF (by assumption) | exact rd_plain (OwnF.sl (by assumption)) | exact rd_extF (OwnF.sl (by assumption)) | exact rd_onlyF (by assumption) (by assumption)); exact rfl; (first | assumption | omega)) | (apply s_loadF (undef, []); exact rfl; exact rfl; (first | exact rd_plain (by assumption) | exact rd_extF (by assumption) | exact rd_plain (OwnF.sl (by assumption)) | exact rd_extF (OwnF.sl (by assumption)) | exact rd_onlyF (by assumption) (by assumption)); exact rfl; (first | assumption | omega)) | (apply s_slice_hF; exact rfl; (first | exact isK_c | exact isK_t rfl); exact rfl; exact rfl; (first | assumption | exact OwnF.sl (by assumption)); exact rfl; (first | assumption | omega)) | (apply s_slice_lF; exact rfl; (first | exact isK_c | exact isK_t rfl); exact rfl; exact rfl; (first | assumption | exact OwnF.sl (by assumption)); exact rfl; (first | assumption | omega)) | (apply s_slice_lhF; exact rfl; (first | exact isK_c | exact isK_t rfl); (first | exact isK_c | exact isK_t rfl); exact rfl; exact rfl; (first | assumption | exact OwnF.sl (by assumption)); exact rfl; (first | assumption | omega); (first | assumption | omega)) | (apply s_eqU; (first | exact isK_c | exact isK_t rfl); (first | exact isK_c | exact isK_t rfl); exact rfl) | (apply s_neU; (first | exact isK_c | exact isK_t rfl); (first | exact isK_c | exact isK_t rfl); exact rfl) | (apply s_ltU; (first | exact isK_c | exact isK_t rfl); (first | exact isK_c | exact isK_t rfl); exact rfl) | (apply s_leU; (first | exact isK_c | exact isK_t rfl); (first | exact isK_c | exact isK_t rfl); exact rfl) | (apply s_gtU; (first | exact isK_c | exact isK_t rfl); (first | exact isK_c | exact isK_t rfl); exact rfl) | (apply s_geU; (first | exact isK_c | exact isK_t rfl); (first | exact isK_c | exact isK_t rfl); exact rfl) | (apply s_eqN; (first | exact isK_c | exact isK_t rfl); (first | exact isK_c | exact isK_t rfl); exact rfl) | (apply s_neN; (first | exact isK_c | exact isK_t rfl); (first | exact isK_c | exact isK_t rfl); exact rfl) | (apply s_ltN; (first | exact isK_c | exact isK_t rfl); (first | exact isK_c | exact isK_t rfl); exact rfl) | (apply s_leN; (first | exact isK_c | exact isK_t rfl); (first | exact isK_c | exact isK_t rfl); exact rfl) | (apply s_gtN; (first | exact isK_c | exact isK_t rfl); (first | exact isK_c | exact isK_t rfl); exact rfl) | (apply s_geN; (first | exact isK_c | exact isK_t rfl); (first | exact isK_c | exact isK_t rfl); exact rfl) | (apply s_eqI; exact rfl; exact rfl; exact rfl) | (apply s_neI; exact rfl; exact rfl; exact rfl) | (apply s_ltI; exact rfl; exact rfl; exact rfl) | (apply s_leI; exact rfl; exact rfl; exact rfl) | (apply s_gtI; exact rfl; exact rfl; exact rfl) | (apply s_geI; exact rfl; exact rfl; exact rfl) | (apply s_addN; (first | exact isK_c | exact isK_t rfl); (first | exact isK_c | exact isK_t rfl); exact rfl; (first | assumption | omega)) | (apply s_subN; (first | exact isK_c | exact isK_t rfl); (first | exact isK_c | exact isK_t rfl); exact rfl; (first | assumption | omega)) | (apply s_mulN; (first | exact isK_c | exact isK_t rfl); (first | exact isK_c | exact isK_t rfl); exact rfl; (first | assumption | omega)) | (apply s_addI; exact rfl; exact rfl; exact rfl; (first | assumption | omega)) | (apply s_subI; exact rfl; exact rfl; exact rfl; (first | assumption | omega)) | (apply s_addU; (first | exact isK_c | exact isK_t rfl); (first | exact isK_c | exact isK_t rfl); exact rfl; (first | assumption | omega)) | (apply s_subU; (first | exact isK_c | exact isK_t rfl); (first | exact isK_c | exact isK_t rfl); exact rfl; (first | assumption | omega)) | (apply s_remU; (first | exact isK_c | exact isK_t rfl); (first | exact isK_c | exact isK_t rfl); exact rfl; (first | assumption | omega)) | (apply s_quoU; (first | exact isK_c | exact isK_t rfl); (first | exact isK_c | exact isK_t rfl); exact rfl; (first | assumption | omega)) | (apply s_mulU; (first | exact isK_c | exact isK_t rfl); (first | exact isK_c | exact isK_t rfl); exact rfl; (first | assumption | omega)) | (apply s_shlU'; (first | exact isK_c | exact isK_t rfl); (first | exact isK_c | exact isK_t rfl); exact rfl; (first | assumption | omega); (first | assumption | omega)) | (apply s_shlU; (first | exact isK_c | exact isK_t rfl); (first | exact isK_c | exact isK_t rfl); exact rfl; (first | assumption | omega)) | (apply s_shrU; (first | exact isK_c | exact isK_t rfl); (first | exact isK_c | exact isK_t rfl); exact rfl; (first | assumption | omega)) | (apply s_andU; (first | exact isK_c | exact isK_t rfl); (first | exact isK_c | exact isK_t rfl); exact rfl; (first | assumption | omega)) | (apply s_orU; (first | exact isK_c | exact isK_t rfl); (first | exact isK_c | exact isK_t rfl); exact rfl; (first | assumption | omega)) | (apply s_xorU; (first | exact isK_c | exact isK_t rfl); (first | exact isK_c | exact isK_t rfl); exact rfl; (first | assumption | omega)) | (apply s_negI; exact rfl; exact rfl; (first | assumption | omega)) | (apply s_negU; (first | exact isK_c | exact isK_t rfl); exact rfl; (first | assumption | omega)) | (apply s_convU; (first | exact isK_c | exact isK_t rfl); exact rfl; exact rfl; exact rfl; (first | assumption | omega)) | (apply s_convI; exact rfl; exact rfl; exact rfl; exact rfl; (first | assumption | omega)) | (apply s_quoN; (first | exact isK_c | exact isK_t rfl); (first | exact isK_c | exact isK_t rfl); exact rfl; (first | assumption | omega)) | (apply s_remN; (first | exact isK_c | exact isK_t rfl); (first | exact isK_c | exact isK_t rfl); exact rfl; (first | assumption | omega)) | (apply s_shrN; (first | exact isK_c | exact isK_t rfl); (first | exact isK_c | exact isK_t rfl); exact rfl; (first | assumption | omega)) | (apply s_convN; (first | exact isK_c | exact isK_t rfl); exact rfl; exact rfl; exact rfl; (first | assumption | omega)) | (apply s_op; exact rfl; exact rfl) | (apply s_skip; exact rfl; exact rfl; exact rfl) | (apply s_nil; exact rfl) | (apply s_op0; exact rfl; exact rfl) | apply then_normal | apply then_ret | apply then_exit | apply inb_normal | apply inb_ret | apply inb_here | (apply inb_past; exact rfl) | apply again_exit | apply again_ret | apply cut_exit | apply cut_ret | (apply w_seq; exact rfl) | (apply r_plain; exact rfl) | (apply w_block; exact rfl) | (apply w_ret; exact rfl) | (apply w_cond_true; exact rfl; exact rfl) | (apply w_cond_false; exact rfl; exact rfl) | (apply w_exit; exact rfl) | (apply w_skip; exact rfl) | (apply w_label; exact rfl))); exact r.get) : G := k ⟨r⟩
end Go.Den

/- Own calculus, part I: parts of structs wherever they lie, rows of structs, maps whose keys are ints, and on ints. No condition. -/
namespace Go.Den
set_option linter.unusedVariables false
set_option maxRecDepth 8000
open Go Go.RowKit

/-- p points to these cells, one behind the other. -/
def Cells (h : Hp) (p : Value) (cs : List Value) : Prop := ∃ b o, p = .pointer (some ⟨b, o, none⟩) ∧ ∀ j u, cs[j]? = some u → cellH h b (o + j) = some u
theorem Cells.ptr {h : Hp} {p : Value} {cs : List Value} (s : Cells h p cs) : isPtr p = true := by obtain ⟨b, o, rfl, -⟩ := s; rfl
theorem Cells.only {r : Option Nat} {h h' : Hp} {p : Value} {cs : List Value} (s : Cells h p cs) (e : Only r h h') (hne : pblk p ≠ r) : Cells h' p cs := by
  obtain ⟨b, o, rfl, s⟩ := s
  exact ⟨b, o, rfl, fun j u hu => cellH_only e hne (s j u hu)⟩
theorem Cells.ext {h h' : Hp} {p : Value} {cs : List Value} (s : Cells h p cs) (e : Ext h h') : Cells h' p cs := by
  obtain ⟨b, o, rfl, s⟩ := s
  exact ⟨b, o, rfl, fun j u hu => cellH_only (e.only none) (by simp) (s j u hu)⟩
theorem Var.cells {h : Hp} {p : Value} {e : TypeId} {cs : List Value} (s : Var h p e cs) : Cells h p cs := by
  obtain ⟨g, rfl, hg⟩ := s
  exact ⟨g, 0, rfl, fun j u hu => by simp [cellH, hg, hu]⟩

theorem SlF.lt {α : Type} {f : α → Value} {h : Hp} {v : Value} {xs : List α} (s : SlF h f v xs) (hne : 0 < xs.length) : ∀ k, v.ownBlock = some k → k < h.size := fun k hk => by
  rcases s with ⟨-, h0, -⟩ | ⟨b, o, c, rfl, -, hc⟩
  · omega
  · simp only [Value.ownBlock, Option.some.injEq] at hk
    subst hk
    have : (xs.map f)[0]? = some (f xs[0]) := by rw [List.getElem?_map, List.getElem?_eq_getElem hne]; rfl
    exact cellH_lt (hc 0 _ this)
theorem SlF.neq {α : Type} {f : α → Value} {h : Hp} {v u : Value} {xs : List α} {k : Nat} (s : SlF h f v xs) (hne : 0 < xs.length) (hu : u.ownBlock = some k) (hk : h.size ≤ k) : v.ownBlock = none ∨ v.ownBlock ≠ u.ownBlock := by
  refine .inr fun e => ?_
  rw [hu] at e
  have := s.lt hne k e; omega
theorem Var.neq {h : Hp} {p u : Value} {e : TypeId} {cs : List Value} {k : Nat} (s : Var h p e cs) (hu : u.ownBlock = some k) (hk : h.size ≤ k) : pblk p ≠ u.ownBlock := fun e => by
  obtain ⟨j, hj, hlt⟩ := s.blk
  rw [hj, hu] at e; cases e; omega

/-- A row of elements of s cells each. -/
def SlA {α : Type} (h : Hp) (f : α → List Value) (s : Nat) (v : Value) (xs : List α) : Prop := (∀ x, (f x).length = s) ∧ Sl h v xs.length (xs.flatMap f)
section
variable {α : Type} {f : α → List Value} {s : Nat} {h h' : Hp} {v : Value} {xs : List α}
theorem SlA.ext (k : SlA h f s v xs) (e : Ext h h') : SlA h' f s v xs := ⟨k.1, k.2.ext e⟩
theorem SlA.only {r : Option Nat} (k : SlA h f s v xs) (e : Only r h h') (hne : v.ownBlock = none ∨ v.ownBlock ≠ r) : SlA h' f s v xs := ⟨k.1, k.2.only e hne⟩
theorem SlA.one (k : SlA h f s v xs) : v.oneCell' = true := Sl.one k.2
theorem flat_get (hf : ∀ x, (f x).length = s) : ∀ (xs : List α) (j r : Nat) (x : α) (u : Value), xs[j]? = some x → (f x)[r]? = some u → (xs.flatMap f)[j * s + r]? = some u
  | [], j, r, x, u, h, _ => by simp at h
  | y :: ys, 0, r, x, u, h, hu => by
    simp at h; subst h
    rw [List.flatMap_cons, Nat.zero_mul, Nat.zero_add, List.getElem?_append_left (List.getElem?_eq_some_iff.1 hu).1]; exact hu
  | y :: ys, j + 1, r, x, u, h, hu => by
    rw [List.flatMap_cons, List.getElem?_append_right (by rw [hf y, Nat.succ_mul]; omega), hf y, show (j + 1) * s + r - s = j * s + r by rw [Nat.succ_mul]; omega]
    exact flat_get hf ys j r x u (by simpa using h) hu
theorem SlA.cells (k : SlA h f s v xs) {j : Nat} {x : α} (hx : xs[j]? = some x) : Cells h (ptrAt v (j * s)) (f x) := by
  obtain ⟨hf, ⟨-, h2, -⟩ | ⟨b, o, c, rfl, -, hc⟩⟩ := k
  · have : xs = [] := List.eq_nil_of_length_eq_zero h2
    subst this; simp at hx
  · refine ⟨b, o + j * s, by simp [ptrAt, Addr.add_lit], fun r u hu => ?_⟩
    rw [Nat.add_assoc]; exact hc _ _ (flat_get hf xs j r x u hx hu)
end

/-- A map of ints to true. -/
def MapI (h : Hp) (v : Value) (ks : List Int) : Prop := ∃ r es clock, v = .map (some r) ∧ h[r]? = some (.map es clock) ∧ es.toList.map (·.key) = ks.map I ∧ ∀ x ∈ es.toList, x.val = .bool true
def mblk : Value → Option Nat
  | .map r => r
  | _ => none
theorem MapI.only {r : Option Nat} {h h' : Hp} {v : Value} {ks : List Int} (s : MapI h v ks) (e : Only r h h') (hne : mblk v ≠ r) : MapI h' v ks := by
  obtain ⟨b, es, c, rfl, hb, s⟩ := s
  exact ⟨b, es, c, rfl, by rw [e.2 b (Array.getElem?_eq_some_iff.1 hb).1 hne]; exact hb, s⟩
theorem MapI.ext {h h' : Hp} {v : Value} {ks : List Int} (s : MapI h v ks) (e : Ext h h') : MapI h' v ks := by
  obtain ⟨b, es, c, rfl, hb, s⟩ := s
  exact ⟨b, es, c, rfl, by rw [e.2 b (Array.getElem?_eq_some_iff.1 hb).1]; exact hb, s⟩

section rules
variable {P : Program} {n : Nat} {Q : Post} {l : Fr} {h : Hp} {ops : List Oper} {Ch : Hp → Prop} {E : Nat → Bool} {i : Nat}
variable {d : Nat} {t : TypeId} {x y z : Operand}

theorem rd_cellP {i : Nat} {h : Hp} {p : Value} {cs : List Value} (hp : Cells h p cs) : Rd (fun _ => True) (fun _ => true) i h (fun h' => Cells h' p cs) := ⟨.inl ⟨rfl, trivial, hp⟩⟩
theorem rd_cellX {E : Nat → Bool} {i : Nat} {h h0 : Hp} {p : Value} {cs : List Value} (hp : Cells h0 p cs) : Rd (Ext h0) E i h (fun h' => Cells h' p cs) := ⟨.inr fun _ k => hp.ext k⟩
theorem rd_cellO {E : Nat → Bool} {i : Nat} {h h0 : Hp} {r : Option Nat} {p : Value} {cs : List Value} (hp : Cells h0 p cs) (hne : pblk p ≠ r) : Rd (Only r h0) E i h (fun h' => Cells h' p cs) := ⟨.inr fun _ k => hp.only k hne⟩

theorem s_fieldO {f off o1 : Nat} {p : Value} (hx : ev l x = some (ptrOff p o1)) (ho : fieldOff P t f = some off) (hp : isPtr p = true) (hb : Nat.blt d n = true)
    (k : S P n ops Ch E Q (i + 1) ((d, ptrOff p (o1 + off)) :: l) h) : O P n ops Ch E Q i d (.fieldAddr t x f) l h := by
  cases p <;> try cases hp
  rename_i a
  cases a with
  | none => cases hp
  | some a =>
    refine s_field hx ho rfl hb ?_
    simp only [ptrOff, Addr.add_add] at k ⊢
    exact k
theorem s_loadP {p u : Value} {off : Nat} {cs : List Value} (hx : ev l x = some (ptrOff p off)) (ht : plainTy P t = true) (hs : Rd Ch E i h (fun h' => Cells h' p cs)) (hb : Nat.blt d n = true) (hj : nth cs off = some u)
    (k : S P n ops Ch E Q (i + 1) ((d, u) :: l) h) : O P n ops Ch E Q i d (.load t x) l h :=
  s_read hb _ hs (fun a w' hf hs => by
    rw [nth_eq] at hj
    obtain ⟨b, o, rfl, hc⟩ := hs
    have hl := run_load1 (P := P) (t := t) (a := (⟨b, o, none⟩ : Addr).add off) (w := w') ht (by rw [Addr.add_lit, cell?_cellH]; exact hc _ _ hj)
    simp only [execOp, hf.ev hx, ptrOff, Sem.run_bind, hl]; rfl) k
theorem s_loadP0 {p u : Value} {cs : List Value} (hx : ev l x = some p) (ht : plainTy P t = true) (hs : Rd Ch E i h (fun h' => Cells h' p cs)) (hb : Nat.blt d n = true) (hj : nth cs 0 = some u)
    (k : S P n ops Ch E Q (i + 1) ((d, u) :: l) h) : O P n ops Ch E Q i d (.load t x) l h :=
  s_read hb _ hs (fun a w' hf hs => by
    rw [nth_eq] at hj
    obtain ⟨b, o, rfl, hc⟩ := hs
    have hl := run_load1 (P := P) (t := t) (a := (⟨b, o, none⟩ : Addr)) (w := w') ht (by rw [cell?_cellH]; exact hc _ _ hj)
    simp only [execOp, hf.ev hx, Sem.run_bind, hl]; rfl) k
theorem s_loadPA {p : Value} {cs : List Value} (hx : ev l x = some p) (ht : aggTy P t = true) (hs : Rd Ch E i h (fun h' => Cells h' p cs)) (hz : (P.info? t).map (·.size) = some cs.length) (hb : Nat.blt d n = true)
    (k : S P n ops Ch E Q (i + 1) ((d, .agg cs.toArray) :: l) h) : O P n ops Ch E Q i d (.load t x) l h :=
  s_read hb _ hs (fun a w' hf hs => by
    obtain ⟨b, o, rfl, hc⟩ := hs
    have hl := run_loadAgg (P := P) (t := t) (a := (⟨b, o, none⟩ : Addr)) (w := w') (ds := cs) ht hz (fun j u hu => by rw [Addr.add_lit, cell?_cellH]; exact hc _ _ hu)
    simp only [execOp, hf.ev hx, Instr.loadAt, Instr.sureAddr, Sem.run_bind, Sem.run_pure, Result.andThen_ok, hl]) k
theorem s_lenA {α : Type} {f : α → List Value} {s : Nat} {v : Value} {xs : List α} {e : TypeId} {h0 : Hp} (hx : ev l x = some v) (ht : P.underlying t = some (.slice e)) (hs : SlA h0 f s v xs) (hb : Nat.blt d n = true)
    (k : S P n ops Ch E Q (i + 1) ((d, N xs.length) :: l) h) : O P n ops Ch E Q i d (.call ⟨.builtin .len, #[x], #[t]⟩) l h := s_len hx ht hs.2 hb k
theorem s_indexA {α : Type} {f : α → List Value} {v : Value} {j s : Nat} {xs : List α} {x0 : α} {e : TypeId} {yk : IntKind} {h0 : Hp} (hx : ev l x = some v) (hy : IsK (ev l y) yk j) (ht : P.underlying t = some (.slice e)) (hz : (P.info? e).map (·.size) = some s)
    (hs : SlA h0 f s v xs) (hb : Nat.blt d n = true) (hj : xs[j]? = some x0)
    (k : Cells h0 (ptrAt v (j * s)) (f x0) → S P n ops Ch E Q (i + 1) ((d, ptrAt v (j * s)) :: l) h) : O P n ops Ch E Q i d (.indexAddr t x y) l h :=
  s_index hx hy ht hz hs.2 hb (List.getElem?_eq_some_iff.1 hj).1 (k (hs.cells hj))

theorem bitsI_and (a b : Nat) (ha : a < 9223372036854775808) (hb : b < 9223372036854775808) : bits .and .i64 (a : Int) (b : Int) = ((a &&& b : Nat) : Int) := by
  have hx : a &&& b < 2 ^ 63 := Nat.and_lt_two_pow _ (by omega)
  have h1 : (BitVec.ofInt 64 (a : Int)).toNat = a := by
    rw [BitVec.ofInt_natCast, BitVec.toNat_ofNat]; exact Nat.mod_eq_of_lt (by omega)
  have h2 : (BitVec.ofInt 64 (b : Int)).toNat = b := by
    rw [BitVec.ofInt_natCast, BitVec.toNat_ofNat]; exact Nat.mod_eq_of_lt (by omega)
  show IntKind.i64.wrap ((BitVec.ofInt 64 (a : Int) &&& BitVec.ofInt 64 (b : Int)).toNat : Int) = _
  rw [BitVec.toNat_and, h1, h2]
  exact wrapI_in _ (by omega)
theorem s_andI {a b : Nat} {yt : TypeId} (hx : IsK (ev l x) .i64 a) (hy : IsK (ev l y) .i64 b) (hb : Nat.blt d n = true) (hn : a < 9223372036854775808 ∧ b < 9223372036854775808)
    (k : S P n ops Ch E Q (i + 1) ((d, N (a &&& b)) :: l) h) : O P n ops Ch E Q i d (.binOp .and t x y yt) l h :=
  s_bin hx.h hy.h hb (fun w' => by
    show Result.ok (Value.int .i64 (bits .and .i64 (a : Int) b)) w' = _
    rw [bitsI_and _ _ hn.1 hn.2]) k
theorem s_loadG {α : Type} {f : α → Value} {v : Value} {j : Nat} {cs : List α} {x0 : α} (hx : ev l x = some (ptrAt v j)) (ht : plainTy P t = true) (hs : Rd Ch E i h (fun h' => SlF h' f v cs)) (hb : Nat.blt d n = true) (hj : cs[j]? = some x0)
    (k : S P n ops Ch E Q (i + 1) ((d, f x0) :: l) h) : O P n ops Ch E Q i d (.load t x) l h :=
  s_load (cs := cs.map f) (m := cs.length) hx ht hs hb (by simp [hj]) k
theorem s_indexG {α : Type} {f : α → Value} {v : Value} {j : Nat} {cs : List α} {x0 : α} {e : TypeId} {yk : IntKind} {h0 : Hp} (hx : ev l x = some v) (hy : IsK (ev l y) yk j) (ht : P.underlying t = some (.slice e)) (hz : (P.info? e).map (·.size) = some 1)
    (hs : SlF h0 f v cs) (hb : Nat.blt d n = true) (hj : cs[j]? = some x0)
    (k : S P n ops Ch E Q (i + 1) ((d, ptrAt v j) :: l) h) : O P n ops Ch E Q i d (.indexAddr t x y) l h := s_indexF hx hy ht hz hs hb (List.getElem?_eq_some_iff.1 hj).1 k

theorem s_makeMapI (hE : E i = true) (hb : Nat.blt d n = true)
    (k : ∀ v h', MapI h' v [] → Ext h h' → mblk v = some h.size → Ch h' ∧ S P n ops Ch E Q (i + 1) ((d, v) :: l) h') : O P n ops Ch E Q i d (.makeMap t none) l h :=
  O.mk fun hop hg => s_eff hop hE hg fun a w hf hw => by
    subst hw
    have hm : MapI (w.alloc (.map #[] 0)).heap (.map (some w.heap.size)) [] := ⟨_, #[], 0, rfl, (Go.MapKept.heap_alloc w _).1, rfl, by simp⟩
    have := k _ _ hm (Ext.push _ _) rfl
    have hr : (Instr.makeMap t none).run P w = .ok (.map (some w.heap.size)) (w.alloc (.map #[] 0)) := rfl
    unfold Eff
    simp only [execOp, Option.map_none, Sem.run_bind, hr]
    exact ⟨⟨rfl, rfl, rfl⟩, this.1, _, hf.put d _ hb, this.2⟩

theorem mapI_keys {es : List MapEntry} {ks : List Int} (h : es.map (·.key) = ks.map I) : ∀ x ∈ es, ∃ k ∈ ks, x.key = I k := fun x hx => by
  have : x.key ∈ es.map (·.key) := List.mem_map.2 ⟨x, hx, rfl⟩
  rw [h] at this
  obtain ⟨k, hk, e⟩ := List.mem_map.1 this
  exact ⟨k, hk, e.symm⟩
theorem mapI_mem {es : List MapEntry} {ks : List Int} (h : es.map (·.key) = ks.map I) {k : Int} (hk : k ∈ ks) : ∃ x ∈ es, x.key = I k := by
  have : I k ∈ ks.map I := List.mem_map.2 ⟨k, hk, rfl⟩
  rw [← h] at this
  exact List.mem_map.1 this

theorem rd_mapP {i : Nat} {h : Hp} {v : Value} {ks : List Int} (hp : MapI h v ks) : Rd (fun _ => True) (fun _ => true) i h (fun h' => MapI h' v ks) := ⟨.inl ⟨rfl, trivial, hp⟩⟩
theorem s_lookupI {kt et : TypeId} {v : Value} {ks : List Int} {k0 : Int} (hx : ev l x = some v) (hy : ev l y = some (I k0)) (ht : P.underlying t = some (.map kt et)) (hk : P.underlying kt = some (.int .i64)) (hz : (P.info? et).map (·.zero) = some (some (.bool false)))
    (hs : Rd Ch E i h (fun h' => MapI h' v ks)) (hb : Nat.blt d n = true)
    (k : S P n ops Ch E Q (i + 1) ((d, .bool (decide (k0 ∈ ks))) :: l) h) : O P n ops Ch E Q i d (.lookup t x y false) l h :=
  s_read hb _ hs (fun a w' hf hs => by
    obtain ⟨r, es, c, rfl, hr, hks, hv⟩ := hs
    have hik : Go.MapKept.IsKey (.int .i64) (I k0) := rfl
    have hall : ∀ x ∈ es.toList, Go.MapKept.IsKey (.int .i64) x.key := fun x hx => by
      obtain ⟨k, -, e⟩ := mapI_keys hks x hx
      rw [e]; rfl
    have hzv : (zeroValue et).run P w' = .ok (.bool false) w' := by
      cases hi : P.info? et with
      | none => rw [hi] at hz; cases hz
      | some inf =>
        rw [hi] at hz
        simp only [Option.map_some, Option.some.injEq] at hz
        simp [zeroValue, typeInfo, hi, hz]
    have hl : (Instr.lookup t (.map (some r)) (I k0) false).run P w' = .ok (.bool (decide (k0 ∈ ks))) w' := by
      rcases Go.MapKept.findNow_spec hik es.toList 0 hall with ⟨h1, h2⟩ | ⟨j, e, h1, h2, h3⟩
      · have hn : k0 ∉ ks := fun hm => by
          obtain ⟨x, hx, e⟩ := mapI_mem hks hm
          exact h2 x hx e
        simp [Instr.lookup, run_underlying ht, Go.MapKept.run_getObj_map hr, Go.MapKept.run_checkKey hk hik, Go.MapKept.run_findKey hk h1, hzv, Result.andThen, hn]
      · have he : e ∈ es.toList := List.mem_of_getElem? h2
        have hm : k0 ∈ ks := by
          obtain ⟨k, hk, ek⟩ := mapI_keys hks e he
          rw [h3] at ek; cases ek; exact hk
        simp [Instr.lookup, run_underlying ht, Go.MapKept.run_getObj_map hr, Go.MapKept.run_checkKey hk hik, Go.MapKept.run_findKey hk h1, Result.andThen, hm, hv e he]
    simp only [execOp, hf.ev hx, hf.ev hy, Sem.run_bind, hl]; rfl) k
theorem s_mapUpdI {kt et : TypeId} {v : Value} {ks : List Int} {k0 : Int} (hx : ev l x = some v) (hy : ev l y = some (I k0)) (hz : ev l z = some (.bool true)) (ht : P.underlying t = some (.map kt et)) (hk : P.underlying kt = some (.int .i64))
    (hE : E i = true) (hs : MapI h v ks) (hn : k0 ∉ ks)
    (k : ∀ h', MapI h' v (ks ++ [k0]) → Only (mblk v) h h' → Ch h' ∧ S P n ops Ch E Q (i + 1) l h') : O0 P n ops Ch E Q i (.mapUpdate t x y z) l h :=
  O0.mk fun hop hg => s_eff hop hE hg fun a w hf hw => by
    subst hw
    obtain ⟨r, es, c, rfl, hr, hks, hv⟩ := hs
    have hik : Go.MapKept.IsKey (.int .i64) (I k0) := rfl
    have hall : ∀ x ∈ es.toList, Go.MapKept.IsKey (.int .i64) x.key := fun x hx => by
      obtain ⟨k, -, e⟩ := mapI_keys hks x hx
      rw [e]; rfl
    rcases Go.MapKept.findNow_spec hik es.toList 0 hall with ⟨h1, h2⟩ | ⟨j, e, h1, h2, h3⟩
    · have hl : (Instr.mapUpdate t (.map (some r)) (I k0) (.bool true)).run P w = .ok () { w with heap := w.heap.setIfInBounds r (.map (es.push { key := I k0, val := .bool true, born := c }) (c + 1)) } := by
        simp [Instr.mapUpdate, run_underlying ht, Go.MapKept.run_getObj_map hr, Go.MapKept.run_checkKey hk hik, Go.MapKept.run_findKey hk h1, Go.MapKept.run_setObj_map _ hr, Result.andThen]
      have := k _ ⟨r, es.push { key := I k0, val := .bool true, born := c }, c + 1, rfl, (Go.MapKept.heap_set hr).1, by simp [hks], fun x hx => by
        simp only [Array.toList_push, List.mem_append, List.mem_singleton] at hx
        rcases hx with hx | rfl
        · exact hv x hx
        · rfl⟩ ⟨by simp, fun j _ hj => (Go.MapKept.heap_set hr).2 j (fun e => hj (by rw [e]; rfl))⟩
      unfold Eff
      simp only [execOp, hf.ev hx, hf.ev hy, hf.ev hz, Sem.run_bind, hl]
      exact ⟨⟨rfl, rfl, rfl⟩, this.1, _, hf.putNone _, this.2⟩
    · exfalso
      have he : e ∈ es.toList := List.mem_of_getElem? h2
      obtain ⟨k', hk', ek⟩ := mapI_keys hks e he
      rw [h3] at ek; cases ek; exact hn hk'
end rules
theorem runJ {R G : Prop} (r : R) (k : Res R → G := by intro r; (repeat (first | (apply s_moveNc; exact rfl) | (apply s_assignNc; exact rfl) | (apply s_moveUc; exact rfl) | (apply s_move; exact rfl; exact rfl) | (apply s_assignUc; exact rfl) | (apply s_assign; exact rfl; exact rfl) | (apply s_extract; exact rfl; exact rfl; exact rfl) | (apply s_pickT; exact rfl; exact rfl; exact rfl) | (apply s_pickF; exact rfl; exact rfl; exact rfl) | (apply s_not; exact rfl; exact rfl) | (apply s_nilCheck; exact rfl; exact Var.ptr (by assumption); exact rfl) | (apply s_eqSNil; exact rfl; exact rfl; exact rfl; (first | assumption | exact OwnF.sl (by assumption)); exact rfl) | (apply s_field; exact rfl; (first | exact (rfl : _ = some 0) | exact (rfl : _ = some 1) | exact (rfl : _ = some 2) | exact (rfl : _ = some 3) | exact (rfl : _ = some 4) | exact (rfl : _ = some 5) | exact (rfl : _ = some 6) | exact (rfl : _ = some 7) | exact (rfl : _ = some 8) | exact (rfl : _ = some 9)); (first | exact Var.ptr (by assumption) | exact Cells.ptr (by assumption)); exact rfl) | (apply s_fieldO; exact rfl; (first | exact (rfl : _ = some 0) | exact (rfl : _ = some 1) | exact (rfl : _ = some 2) | exact (rfl : _ = some 3) | exact (rfl : _ = some 4) | exact (rfl : _ = some 5) | exact (rfl : _ = some 6) | exact (rfl : _ = some 7) | exact (rfl : _ = some 8) | exact (rfl : _ = some 9)); (first | exact Var.ptr (by assumption) | exact Cells.ptr (by assumption)); exact rfl) | (apply s_loadG; exact rfl; exact rfl; (first | exact rd_plain (by assumption) | exact rd_extF (by assumption) | exact rd_plain (OwnF.sl (by assumption)) | exact rd_extF (OwnF.sl (by assumption)) | exact rd_onlyF (by assumption) (by assumption)); exact rfl; assumption) | (apply s_loadP; exact rfl; exact rfl; (first | exact rd_cellP (by assumption) | exact rd_cellX (by assumption) | exact rd_cellO (by assumption) (by assumption)); exact rfl; exact rfl) | (apply s_loadP0; exact rfl; exact rfl; (first | exact rd_cellP (by assumption) | exact rd_cellX (by assumption) | exact rd_cellO (by assumption) (by assumption)); exact rfl; exact rfl) | (apply s_loadPA; exact rfl; exact rfl; (first | exact rd_cellP (by assumption) | exact rd_cellX (by assumption) | exact rd_cellO (by assumption) (by assumption)); exact rfl; exact rfl) | (apply s_lenA; exact rfl; exact rfl; assumption; exact rfl) | (apply s_indexA; exact rfl; (first | exact isK_c | exact isK_t rfl); exact rfl; exact rfl; assumption; exact rfl; assumption; intro _) | (apply s_indexG; exact rfl; (first | exact isK_c | exact isK_t rfl); exact rfl; exact rfl; (first | assumption | exact OwnF.sl (by assumption)); exact rfl; assumption) | (apply s_andI; (first | exact isK_c | exact isK_t rfl); (first | exact isK_c | exact isK_t rfl); exact rfl; (first | assumption | omega)) | (apply s_shlN; (first | exact isK_c | exact isK_t rfl); (first | exact isK_c | exact isK_t rfl); exact rfl; (first | assumption | omega); (first | assumption | omega)) | (apply s_field; exact rfl; exact rfl; exact Var.ptr (by assumption); exact rfl) | (apply s_loadc; exact rfl; exact rfl; (first | exact rd_varP (by assumption) | exact rd_varX (by assumption) | exact rd_varO (by assumption) (by assumption)); exact rfl; exact rfl) | (apply s_load1; exact rfl; exact rfl; (first | exact rd_varP (by assumption) | exact rd_varX (by assumption) | exact rd_varO (by assumption) (by assumption)); exact rfl) | (apply s_loadV; exact rfl; exact rfl; (first | exact rd_varP (by assumption) | exact rd_varX (by assumption) | exact rd_varO (by assumption) (by assumption)); exact rfl; exact rfl) | (apply s_makeFunc; exact rfl; exact rfl; exact rfl) | (apply s_field2; exact rfl; exact rfl; exact rfl; exact rfl; exact rfl) | (apply s_eqB; exact rfl; exact rfl; exact rfl; exact rfl) | (apply s_neB; exact rfl; exact rfl; exact rfl; exact rfl) | (apply s_eqNil0; exact rfl; exact rfl; exact rfl; exact rfl) | (apply s_eqNil; exact rfl; exact rfl; exact Var.ptr (by assumption); exact rfl; exact rfl) | (apply s_lenF; exact rfl; exact rfl; (first | assumption | exact OwnF.sl (by assumption)); exact rfl) | (apply s_indexF; exact rfl; (first | exact isK_c | exact isK_t rfl); exact rfl; exact rfl; (first | assumption | exact OwnF.sl (by assumption)); exact rfl; (first | assumption | omega)) | (apply s_loadF 0; exact rfl; exact rfl; (first | exact rd_plain (by assumption) | exact rd_extF (by assumption) | exact rd_plain (OwnF.sl (by assumption)) | exact rd_extF (OwnF.sl (by assumption)) | exact rd_onlyF (by assumption) (by assumption)); exact rfl; (first | assumption | omega)) | (apply s_loadF undef; exact rfl; exact rfl; (first | exact rd_plain (by assumption) | exact rd_extF (by assumption) | exact rd_plain (OwnF.sl (by assumption)) | exact rd_extF (OwnF.sl (by assumption)) | exact rd_onlyF (by assumption) (by assumption)); exact rfl; (first | assumption | omega)) | (apply s_loadF (undef, []); exact rfl; exact rfl; (first | exact rd_plain (by assumption) | exact rd_extF (by assumption) | exact rd_plain (OwnF.sl (by assumption)) | exact rd_extF (OwnF.sl (by assumption)) | exact rd_onlyF (by assumption) (by assumption)); exact rfl; (first | assumption | omega)) | (apply s_slice_hF; exact rfl; (first | exact isK_c | exact isK_t rfl); exact rfl; exact rfl; (first | assumption | exact OwnF.sl (by assumption)); exact rfl; (first | assumption | omega)) | (apply s_slice_lF; exact rfl; (first | exact isK_c | exact isK_t rfl); exact rfl; exact rfl; (first | assumption | exact OwnF.sl (by assumption)); exact rfl; (first | assumption | omega)) | (apply s_slice_lhF; exact rfl; (first | exact isK_c | exact isK_t rfl); (first | exact isK_c | exact isK_t rfl); exact rfl; exact rfl; (first | assumption | exact OwnF.sl (by assumption)); exact rfl; (first | assumption | omega); (first | assumption | omega)) | (apply s_eqU; (first | exact isK_c | exact isK_t rfl); (first | exact isK_c | exact isK_t rfl); exact rfl) | (apply s_neU; (first | exact isK_c | exact isK_t rfl); (first | exact isK_c | exact isK_t rfl); exact rfl) | (apply s_ltU; (first | exact isK_c | exact isK_t rfl); (first | exact isK_c | exact isK_t rfl); exact rfl) | (apply s_leU; (first | exact isK_c | exact isK_t rfl); (first | exact isK_c | exact isK_t rfl); exact rfl) | (apply s_gtU; (first | exact isK_c | exact isK_t rfl); (first | exact isK_c | exact isK_t rfl); exact rfl) | (apply s_geU; (first | exact isK_c | exact isK_t rfl); (first | exact isK_c | exact isK_t rfl); exact rfl) | (apply s_eqN; (first | exact isK_c | exact isK_t rfl); (first | exact isK_c | exact isK_t rfl); exact rfl) | (apply s_neN; (first | exact isK_c | exact isK_t rfl); (first | exact isK_c | exact isK_t rfl); exact rfl) | (apply s_ltN; (first | exact isK_c | exact isK_t rfl); (first | exact isK_c | exact isK_t rfl); exact rfl) | (apply s_leN; (first | exact isK_c | exact isK_t rfl); (first | exact isK_c | exact isK_t rfl); exact rfl) | (apply s_gtN; (first | exact isK_c | exact isK_t rfl); (first | exact isK_c | exact isK_t rfl); exact rfl) | (apply s_geN; (first | exact isK_c | exact isK_t rfl); (first | exact isK_c | exact isK_t rfl); exact rfl) | (apply s_eqI; exact rfl; exact rfl; exact rfl) | (apply s_neI; exact rfl; exact rfl; exact rfl) | (apply s_ltI; exact rfl; exact rfl; exact rfl) | (apply s_leI; exact rfl; exact rfl; exact rfl) | (apply s_gtI; exact rfl; exact rfl; exact rfl) | (apply s_geI; exact rfl; exact rfl; exact rfl) | (apply s_addN; (first | exact isK_c | exact isK_t rfl); (first | exact isK_c | exact isK_t rfl); exact rfl; (first | assumption | omega)) | (apply s_subN; (first | exact isK_c | exact isK_t rfl); (first | exact isK_c | exact isK_t rfl); exact rfl; (first | assumption | omega)) | (apply s_mulN; (first | exact isK_c | exact isK_t rfl); (first | exact isK_c | exact isK_t rfl); exact rfl; (first | assumption | omega)) | (apply s_addI; exact rfl; exact rfl; exact rfl; (first | assumption | omega)) | (apply s_subI; exact rfl; exact rfl; exact rfl; (first | assumption | omega)) | (apply s_addU; (first | exact isK_c | exact isK_t rfl); (first | exact isK_c | exact isK_t rfl); exact rfl; (first | assumption | omega)) | (apply s_subU; (first | exact isK_c | exact isK_t rfl); (first | exact isK_c | exact isK_t rfl); exact rfl; (first | assumption | omega)) | (apply s_remU; (first | exact isK_c | exact isK_t rfl); (first | exact isK_c | exact isK_t rfl); exact rfl; (first | assumption | omega)) | (apply s_quoU; (first | exact isK_c | exact isK_t rfl); (first | exact isK_c | exact isK_t rfl); exact rfl; (first | assumption | omega)) | (apply s_mulU; (first | exact isK_c | exact isK_t rfl); (first | exact isK_c | exact isK_t rfl); exact rfl; (first | assumption | omega)) | (apply s_shlU'; (first | exact isK_c | exact isK_t rfl); (first | exact isK_c | exact isK_t rfl); exact rfl; (first | assumption | omega); (first | assumption | omega)) | (apply s_shlU; (first | exact isK_c | exact isK_t rfl); (first | exact isK_c | exact isK_t rfl); exact rfl; (first | assumption | omega)) | (apply s_shrU; (first | exact isK_c | exact isK_t rfl); (first | exact isK_c | exact isK_t rfl); exact rfl; (first | assumption | omega)) | (apply s_andU; (first | exact isK_c | exact isK_t rfl); (first | exact isK_c | exact isK_t rfl); exact rfl; (first | assumption | omega)) | (apply s_orU; (first | exact isK_c | exact isK_t rfl); (first | exact isK_c | exact isK_t rfl); exact rfl; (first | assumption | omega)) | (apply s_xorU; (first | exact isK_c | exact isK_t rfl); (first | exact isK_c | exact isK_t rfl); exact rfl; (first | assumption | omega)) | (apply s_negI; exact rfl; exact rfl; (first | assumption | omega)) | (apply s_negU; (first | exact isK_c | exact isK_t rfl); exact rfl; (first | assumption | omega)) | (apply s_convU; (first | exact isK_c | exact isK_t rfl); exact rfl; exact rfl; exact rfl; (first | assumption | omega)) | (apply s_convI; exact rfl; exact rfl; exact rfl; exact rfl; (first | assumption | omega)) | (apply s_quoN; (first | exact isK_c | exact isK_t rfl); (first | exact isK_c | exact isK_t rfl); exact rfl; (first | assumption | omega)) | (apply s_remN; (first | exact isK_c | exact isK_t rfl); (first | exact isK_c | exact isK_t rfl); exact rfl; (first | assumption | omega)) | (apply s_shrN; (first | exact isK_c | exact isK_t rfl); (first | exact isK_c | exact isK_t rfl); exact rfl; (first | assumption | omega)) | (apply s_convN; (first | exact isK_c | exact isK_t rfl); exact rfl; exact rfl; exact rfl; (first | assumption | omega)) | (apply s_op; exact rfl; exact rfl) | (apply s_skip; exact rfl; exact rfl; exact rfl) | (apply s_nil; exact rfl) | (apply s_op0; exact rfl; exact rfl) | apply then_normal | apply then_ret | apply then_exit | apply inb_normal | apply inb_ret | apply inb_here | (apply inb_past; exact rfl) | apply again_exit | apply again_ret | apply cut_exit | apply cut_ret | (apply w_seq; exact rfl) | (apply r_plain; exact rfl) | (apply w_block; exact rfl) | (apply w_ret; exact rfl) | (apply w_cond_true; exact rfl; exact rfl) | (apply w_cond_false; exact rfl; exact rfl) | (apply w_exit; exact rfl) | (apply w_skip; exact rfl) | (apply w_label; exact rfl) | (apply r_drawnX; exact rfl; exact mixed; kernel_rfl))); exact r.get) : G := k ⟨r⟩
theorem runJN {R G : Prop} (r : R) (k : Res R → G := by intro r; (repeat (first | (apply s_moveNc; exact rfl) | (apply s_assignNc; exact rfl) | (apply s_moveUc; exact rfl) | (apply s_move; exact rfl; exact rfl) | (apply s_assignUc; exact rfl) | (apply s_assign; exact rfl; exact rfl) | (apply s_extract; exact rfl; exact rfl; exact rfl) | (apply s_pickT; exact rfl; exact rfl; exact rfl) | (apply s_pickF; exact rfl; exact rfl; exact rfl) | (apply s_not; exact rfl; exact rfl) | (apply s_nilCheck; exact rfl; exact Var.ptr (by assumption); exact rfl) | (apply s_eqSNil; exact rfl; exact rfl; exact rfl; (first | assumption | exact OwnF.sl (by assumption)); exact rfl) | (apply s_field; exact rfl; (first | exact (rfl : _ = some 0) | exact (rfl : _ = some 1) | exact (rfl : _ = some 2) | exact (rfl : _ = some 3) | exact (rfl : _ = some 4) | exact (rfl : _ = some 5) | exact (rfl : _ = some 6) | exact (rfl : _ = some 7) | exact (rfl : _ = some 8) | exact (rfl : _ = some 9)); (first | exact Var.ptr (by assumption) | exact Cells.ptr (by assumption)); exact rfl) | (apply s_fieldO; exact rfl; (first | exact (rfl : _ = some 0) | exact (rfl : _ = some 1) | exact (rfl : _ = some 2) | exact (rfl : _ = some 3) | exact (rfl : _ = some 4) | exact (rfl : _ = some 5) | exact (rfl : _ = some 6) | exact (rfl : _ = some 7) | exact (rfl : _ = some 8) | exact (rfl : _ = some 9)); (first | exact Var.ptr (by assumption) | exact Cells.ptr (by assumption)); exact rfl) | (apply s_loadG; exact rfl; exact rfl; (first | exact rd_plain (by assumption) | exact rd_extF (by assumption) | exact rd_plain (OwnF.sl (by assumption)) | exact rd_extF (OwnF.sl (by assumption)) | exact rd_onlyF (by assumption) (by assumption)); exact rfl; assumption) | (apply s_loadP; exact rfl; exact rfl; (first | exact rd_cellP (by assumption) | exact rd_cellX (by assumption) | exact rd_cellO (by assumption) (by assumption)); exact rfl; exact rfl) | (apply s_loadP0; exact rfl; exact rfl; (first | exact rd_cellP (by assumption) | exact rd_cellX (by assumption) | exact rd_cellO (by assumption) (by assumption)); exact rfl; exact rfl) | (apply s_loadPA; exact rfl; exact rfl; (first | exact rd_cellP (by assumption) | exact rd_cellX (by assumption) | exact rd_cellO (by assumption) (by assumption)); exact rfl; exact rfl) | (apply s_lenA; exact rfl; exact rfl; assumption; exact rfl) | (apply s_indexA; exact rfl; (first | exact isK_c | exact isK_t rfl); exact rfl; exact rfl; assumption; exact rfl; assumption; intro _) | (apply s_indexG; exact rfl; (first | exact isK_c | exact isK_t rfl); exact rfl; exact rfl; (first | assumption | exact OwnF.sl (by assumption)); exact rfl; assumption) | (apply s_andI; (first | exact isK_c | exact isK_t rfl); (first | exact isK_c | exact isK_t rfl); exact rfl; (first | assumption | omega)) | (apply s_shlN; (first | exact isK_c | exact isK_t rfl); (first | exact isK_c | exact isK_t rfl); exact rfl; (first | assumption | omega); (first | assumption | omega)) | (apply s_field; exact rfl; exact rfl; exact Var.ptr (by assumption); exact rfl) | (apply s_loadc; exact rfl; exact rfl; (first | exact rd_varP (by assumption) | exact rd_varX (by assumption) | exact rd_varO (by assumption) (by assumption)); exact rfl; exact rfl) | (apply s_load1; exact rfl; exact rfl; (first | exact rd_varP (by assumption) | exact rd_varX (by assumption) | exact rd_varO (by assumption) (by assumption)); exact rfl) | (apply s_loadV; exact rfl; exact rfl; (first | exact rd_varP (by assumption) | exact rd_varX (by assumption) | exact rd_varO (by assumption) (by assumption)); exact rfl; exact rfl) | (apply s_makeFunc; exact rfl; exact rfl; exact rfl) | (apply s_field2; exact rfl; exact rfl; exact rfl; exact rfl; exact rfl) | (apply s_eqB; exact rfl; exact rfl; exact rfl; exact rfl) | (apply s_neB; exact rfl; exact rfl; exact rfl; exact rfl) | (apply s_eqNil0; exact rfl; exact rfl; exact rfl; exact rfl) | (apply s_eqNil; exact rfl; exact rfl; exact Var.ptr (by assumption); exact rfl; exact rfl) | (apply s_lenF; exact rfl; exact rfl; (first | assumption | exact OwnF.sl (by assumption)); exact rfl) | (apply s_indexF; exact rfl; (first | exact isK_c | exact isK_t rfl); exact rfl; exact rfl; (first | assumption | exact OwnF.sl (by assumption)); exact rfl; (first | assumption | omega)) | (apply s_loadF 0; exact rfl; exact rfl; (first | exact rd_plain (by assumption) | exact rd_extF (by assumption) | exact rd_plain (OwnF.sl (by assumption)) | exact rd_extF (OwnF.sl (by assumption)) | exact rd_onlyF (by assumption) (by assumption)); exact rfl; (first | assumption | omega)) | (apply s_loadF undef; exact rfl; exact rfl; (first | exact rd_plain (by assumption) | exact rd_extF (by assumption) | exact rd_plain (OwnF.sl (by assumption)) | exact rd_extF (OwnF.sl (by assumption)) | exact rd_onlyF (by assumption) (by assumption)); exact rfl; (first | assumption | omega)) | (apply s_loadF (undef, []); exact rfl; exact rfl; (first | exact rd_plain (by assumption) | exact rd_extF (by assumption) | exact rd_plain (OwnF.sl (by assumption)) | exact rd_extF (OwnF.sl (by assumption)) | exact rd_onlyF (by assumption) (by assumption)); exact rfl; (first | assumption | omega)) | (apply s_slice_hF; exact rfl; (first | exact isK_c | exact isK_t rfl); exact rfl; exact rfl; (first | assumption | exact OwnF.sl (by assumption)); exact rfl; (first | assumption | omega)) | (apply s_slice_lF; exact rfl; (first | exact isK_c | exact isK_t rfl); exact rfl; exact rfl; (first | assumption | exact OwnF.sl (by assumption)); exact rfl; (first | assumption | omega)) | (apply s_slice_lhF; exact rfl; (first | exact isK_c | exact isK_t rfl); (first | exact isK_c | exact isK_t rfl); exact rfl; exact rfl; (first | assumption | exact OwnF.sl (by assumption)); exact rfl; (first | assumption | omega); (first | assumption | omega)) | (apply s_eqU; (first | exact isK_c | exact isK_t rfl); (first | exact isK_c | exact isK_t rfl); exact rfl) | (apply s_neU; (first | exact isK_c | exact isK_t rfl); (first | exact isK_c | exact isK_t rfl); exact rfl) | (apply s_ltU; (first | exact isK_c | exact isK_t rfl); (first | exact isK_c | exact isK_t rfl); exact rfl) | (apply s_leU; (first | exact isK_c | exact isK_t rfl); (first | exact isK_c | exact isK_t rfl); exact rfl) | (apply s_gtU; (first | exact isK_c | exact isK_t rfl); (first | exact isK_c | exact isK_t rfl); exact rfl) | (apply s_geU; (first | exact isK_c | exact isK_t rfl); (first | exact isK_c | exact isK_t rfl); exact rfl) | (apply s_eqN; (first | exact isK_c | exact isK_t rfl); (first | exact isK_c | exact isK_t rfl); exact rfl) | (apply s_neN; (first | exact isK_c | exact isK_t rfl); (first | exact isK_c | exact isK_t rfl); exact rfl) | (apply s_ltN; (first | exact isK_c | exact isK_t rfl); (first | exact isK_c | exact isK_t rfl); exact rfl) | (apply s_leN; (first | exact isK_c | exact isK_t rfl); (first | exact isK_c | exact isK_t rfl); exact rfl) | (apply s_gtN; (first | exact isK_c | exact isK_t rfl); (first | exact isK_c | exact isK_t rfl); exact rfl) | (apply s_geN; (first | exact isK_c | exact isK_t rfl); (first | exact isK_c | exact isK_t rfl); exact rfl) | (apply s_eqI; exact rfl; exact rfl; exact rfl) | (apply s_neI; exact rfl; exact rfl; exact rfl) | (apply s_ltI; exact rfl; exact rfl; exact rfl) | (apply s_leI; exact rfl; exact rfl; exact rfl) | (apply s_gtI; exact rfl; exact rfl; exact rfl) | (apply s_geI; exact rfl; exact rfl; exact rfl) | (apply s_addN; (first | exact isK_c | exact isK_t rfl); (first | exact isK_c | exact isK_t rfl); exact rfl; (first | assumption | omega)) | (apply s_subN; (first | exact isK_c | exact isK_t rfl); (first | exact isK_c | exact isK_t rfl); exact rfl; (first | assumption | omega)) | (apply s_mulN; (first | exact isK_c | exact isK_t rfl); (first | exact isK_c | exact isK_t rfl); exact rfl; (first | assumption | omega)) | (apply s_addI; exact rfl; exact rfl; exact rfl; (first | assumption | omega)) | (apply s_subI; exact rfl; exact rfl; exact rfl; (first | assumption | omega)) | (apply s_addU; (first | exact isK_c | exact isK_t rfl); (first | exact isK_c | exact isK_t rfl); exact rfl; (first | assumption | omega)) | (apply s_subU; (first | exact isK_c | exact isK_t rfl); (first | exact isK_c | exact isK_t rfl); exact rfl; (first | assumption | omega)) | (apply s_remU; (first | exact isK_c | exact isK_t rfl); (first | exact isK_c | exact isK_t rfl); exact rfl; (first | assumption | omega)) | (apply s_quoU; (first | exact isK_c | exact isK_t rfl); (first | exact isK_c | exact isK_t rfl); exact rfl; (first | assumption | omega)) | (apply s_mulU; (first | exact isK_c | exact isK_t rfl); (first | exact isK_c | exact isK_t rfl); exact rfl; (first | assumption | omega)) | (apply s_shlU'; (first | exact isK_c | exact isK_t rfl); (first | exact isK_c | exact isK_t rfl); exact rfl; (first | assumption | omega); (first | assumption | omega)) | (apply s_shlU; (first | exact isK_c | exact isK_t rfl); (first | exact isK_c | exact isK_t rfl); exact rfl; (first | assumption | omega)) | (apply s_shrU; (first | exact isK_c | exact isK_t rfl); (first | exact isK_c | exact isK_t rfl); exact rfl; (first | assumption | omega)) | (apply s_andU; (first | exact isK_c | exact isK_t rfl); (first | exact isK_c | exact isK_t rfl); exact rfl; (first | assumption | omega)) | (apply s_orU; (first | exact isK_c | exact isK_t rfl); (first | exact isK_c | exact isK_t rfl); exact rfl; (first | assumption | omega)) | (apply s_xorU; (first | exact isK_c | exact isK_t rfl); (first | exact isK_c | exact isK_t rfl); exact rfl; (first | assumption | omega)) | (apply s_negI; exact rfl; exact rfl; (first | assumption | omega)) | (apply s_negU; (first | exact isK_c | exact isK_t rfl); exact rfl; (first | assumption | omega)) | (apply s_convU; (first | exact isK_c | exact isK_t rfl); exact rfl; exact rfl; exact rfl; (first | assumption | omega)) | (apply s_convI; exact rfl; exact rfl; exact rfl; exact rfl; (first | assumption | omega)) | (apply s_quoN; (first | exact isK_c | exact isK_t rfl); (first | exact isK_c | exact isK_t rfl); exact rfl; (first | assumption | omega)) | (apply s_remN; (first | exact isK_c | exact isK_t rfl); (first | exact isK_c | exact isK_t rfl); exact rfl; (first | assumption | omega)) | (apply s_shrN; (first | exact isK_c | exact isK_t rfl); (first | exact isK_c | exact isK_t rfl); exact rfl; (first | assumption | omega)) | (apply s_convN; (first | exact isK_c | exact isK_t rfl); exact rfl; exact rfl; exact rfl; (first | assumption | omega)) | (apply s_op; exact rfl; exact rfl) | (apply s_skip; exact rfl; exact rfl; exact rfl) | (apply s_nil; exact rfl) | (apply s_op0; exact rfl; exact rfl) | apply then_normal | apply then_ret | apply then_exit | apply inb_normal | apply inb_ret | apply inb_here | (apply inb_past; exact rfl) | apply again_exit | apply again_ret | apply cut_exit | apply cut_ret | (apply w_seq; exact rfl) | (apply r_plain; exact rfl) | (apply w_block; exact rfl) | (apply w_ret; exact rfl) | (apply w_cond_true; exact rfl; exact rfl) | (apply w_cond_false; exact rfl; exact rfl) | (apply w_exit; exact rfl) | (apply w_skip; exact rfl) | (apply w_label; exact rfl))); exact r.get) : G := k ⟨r⟩
end Go.Den

/- Own calculus, part J: append of one element whose like may be of any kind. No condition. -/
namespace Go.Den
set_option linter.unusedVariables false
set_option maxRecDepth 8000
open Go Go.RowKit
section
variable {P : Program} {n : Nat} {Q : Post} {l : Fr} {h : Hp} {ops : List Oper} {Ch : Hp → Prop} {E : Nat → Bool} {i : Nat}
variable {d : Nat} {t : TypeId} {x y z : Operand} {yt : TypeId}
/-- append of one element, which is laid in a row of its own first. -/
theorem s_app1V {α : Type} {f : α → Value} {h0 : Hp} {xs : List α} {v : Value} {e : TypeId} (a : α) (own : OwnF h h0.size e f v xs) (ext : Ext h0 h) {d1 d2 bytes : Nat} {z0 : Value} {ty2 : TypeId} {ps2 : String} {af2 : Array Edge}
    (ho2 : opAt ops (i + 1) = some ⟨some d2, .call ⟨.builtin .append, #[x, .tmp d1], #[t, t]⟩, ty2, ps2, af2, none⟩)
    (hb1 : Nat.blt d1 n = true) (hb2 : Nat.blt d2 n = true) (hn : look l d1 = none) (ht : P.underlying t = some (.slice e)) (hi : (P.info? e).map (fun i => (i.size, i.bytes, i.zero)) = some (1, bytes, some z0)) (hz1 : z0.oneCell' = true)
    (hx : ev ((d1, undef) :: l) x = some v) (hx' : ev l x = some v) (hz : ev l z = some (f a)) (h1 : (f a).oneCell' = true) (hE1 : E i = true) (hE2 : E (i + 1) = true) (hC : ∀ h', Ext h0 h' → Ch h')
    (hby : (xs.length + 1) * bytes ≤ 140737488355328) (h63 : xs.length + 1 ≤ maxLen)
    (k : ∀ v' h', OwnF h' h0.size e f v' (xs ++ [a]) → Ext h0 h' → Only v.ownBlock h h' → (v'.ownBlock = v.ownBlock ∨ ∃ b, v'.ownBlock = some b ∧ h.size ≤ b) → S P n ops Ch E Q (i + 2) ((d2, v') :: l) h') : O P n ops Ch E Q i d1 (.buildSlice t 1 #[(0, z)]) l h := by
  refine (s_lit [a] (vs := [f a]) (by simp only [List.map_cons, List.map_nil, evs, hz]) rfl rfl rfl ht hi (by simpa using h1) hz1 hE1 hb1 (by omega) fun u ha o1 e1 _ => ⟨hC _ (ext.trans e1), ?_⟩)
  have hxu : ev ((d1, u) :: l) x = some v := by
    cases x with
    | tmp t =>
      simp only [ev, look] at hx hx' ⊢
      cases ht : Nat.beq t d1 with
      | true => have := Nat.eq_of_beq_eq_true ht; subst this; rw [hn] at hx'; cases hx'
      | false => exact hx'
    | const c => exact hx'
    | global c => exact hx'
    | func c => exact hx'
  have hsz := ext_size e1
  have hsz0 := ext_size ext
  refine s_op ho2 rfl (s_append (s := 1) (m := xs.length) (k' := 1) (cs := xs.map f) (news := [a].map f) hxu (show ev ((d1, u) :: l) (.tmp d1) = some u by simp only [ev, look, Nat.beq_refl, cond_true]) ht hi (by cases z0 <;> first | rfl | cases hz1) Nat.zero_lt_one hE2 hb2 (own.ext e1) o1.sl (by simp) (by simpa using h1) (by omega) h63 hby fun v' h' o2' k2 b2 => ?_)
  have o2 : OwnF h' h0.size e f v' (xs ++ [a]) := by unfold OwnF; rw [List.length_append, List.map_append]; exact o2'
  have ext2 : Ext h0 h' := (own.ext e1).old k2 (ext.trans e1) (Nat.le_refl _)
  refine ⟨hC _ ext2, s_sub (l' := (d2, v') :: l) ?_ (k v' h' o2 ext2 ((e1.only _).trans k2) ?_)⟩
  · intro j w hw
    simp only [look] at hw ⊢
    cases hj : Nat.beq j d2 with
    | true => rw [hj] at hw; exact hw
    | false =>
      rw [hj] at hw
      simp only [cond_false] at hw ⊢
      cases hj1 : Nat.beq j d1 with
      | true => have := Nat.eq_of_beq_eq_true hj1; subst this; rw [hn] at hw; cases hw
      | false => exact hw
  · rcases b2 with b2 | ⟨b, hb, hlt⟩
    · exact .inl b2
    · exact .inr ⟨b, hb, by omega⟩
end
end Go.Den

/- Own calculus, part K: literals of structs. No condition. -/
namespace Go.Den
set_option linter.unusedVariables false
set_option maxRecDepth 8000
open Go Go.RowKit

def fillP (place : Nat → Option (Nat × Nat)) : List Value → List (Nat × List Value) → Option (List Value)
  | cells, [] => some cells
  | cells, (i, us) :: rest => match place i with
    | none => none
    | some (off, size) => bif Nat.beq us.length size && Nat.ble (off + us.length) cells.length then fillP place (cells.take off ++ us ++ cells.drop (off + us.length)) rest else none

theorem fill_fillP {place : Nat → Option (Nat × Nat)} : ∀ (parts : List (Nat × Value)) (cells cs : List Value), fillP place cells (parts.map fun x => (x.1, x.2.cells.toList)) = some cs → Instr.fill place cells.toArray parts = some cs.toArray
  | [], cells, cs, e => by simp [fillP] at e; simp [Instr.fill, e]
  | (i, v) :: rest, cells, cs, e => by
    simp only [List.map_cons, fillP] at e
    simp only [Instr.fill]
    cases ho : place i with
    | none => rw [ho] at e; cases e
    | some p =>
      obtain ⟨off, size⟩ := p
      rw [ho] at e
      simp only at e
      cases hb : (Nat.beq v.cells.toList.length size && Nat.ble (off + v.cells.toList.length) cells.length) with
      | false => rw [hb] at e; cases e
      | true =>
        rw [hb] at e
        simp only [cond_true] at e
        simp only [Bool.and_eq_true] at hb
        have h1 := Nat.eq_of_beq_eq_true hb.1
        have h2 := Nat.le_of_ble_eq_true hb.2
        simp only [Array.length_toList] at h1 h2
        have h3 : ¬ (v.cells.size ≠ size ∨ off + v.cells.size > cells.toArray.size) := by simp [h1] at h2 ⊢; omega
        simp only [decide_eq_true_eq, Bool.or_eq_true, h3, if_false]
        have hf := fold_set v.cells.toList off 0 cells (by simpa using h2)
        simp only [Nat.add_zero, Array.length_toList] at hf
        have hz : v.cells.zipIdx = (v.cells.toList.zipIdx 0).toArray := by apply Array.ext'; simp
        have hfold : Array.foldl (fun cs x => cs.setIfInBounds (off + x.snd) x.fst) cells.toArray v.cells.zipIdx = (cells.take off ++ v.cells.toList ++ cells.drop (off + v.cells.size)).toArray := by
          apply Array.ext'
          rw [hz, List.foldl_toArray]
          exact hf
        rw [hfold]
        exact fill_fillP rest _ _ (by simpa using e)

section rules
variable {P : Program} {n : Nat} {Q : Post} {l : Fr} {h : Hp} {ops : List Oper} {Ch : Hp → Prop} {E : Nat → Bool} {i : Nat}
variable {d : Nat} {t : TypeId} {x y z : Operand}

/-- []T{..}, T of s cells. -/
theorem s_litC {ln s : Nat} {parts : Array (Nat × Operand)} {vs : List Value} {css : List (List Value)} {e : TypeId} {zc : List Value} (cs : List Value) (he : evs l (parts.toList.map (·.2)) = some vs) (hc : CellsAll vs css)
    (ht : P.underlying t = some (.slice e)) (hi : (P.info? e).map (fun i => (i.size, i.zero.map fun z => z.cells.toList)) = some (s, some zc)) (hs : Nat.beq zc.length s = true) (hs0 : Nat.blt 0 s = true) (h0 : Nat.blt 0 ln = true) (hln : Nat.ble (ln * s) 16777216 = true)
    (hf : fillP (fun i => some (i * s, s)) ((List.range (ln * s)).map fun j => zc.getD (j % s) undef) ((parts.toList.map (·.1)).zip css) = some cs) (hcl : Nat.beq cs.length (ln * s) = true) (hE : E i = true) (hb : Nat.blt d n = true)
    (k : ∀ v h', Own h' h.size e s v ln cs → Ext h h' → v.ownBlock = some h.size → Ch h' ∧ S P n ops Ch E Q (i + 1) ((d, v) :: l) h') : O P n ops Ch E Q i d (.buildSlice t ln parts) l h :=
  O.mk fun hop hg => s_eff hop hE hg fun a w hfit hw => by
    subst hw
    have hs := Nat.eq_of_beq_eq_true hs
    have hcl := Nat.eq_of_beq_eq_true hcl
    have hs0 : 0 < s := Nat.le_of_ble_eq_true hs0
    have h0 : 0 < ln := Nat.le_of_ble_eq_true h0
    have hln := Nat.le_of_ble_eq_true hln
    cases hq : P.info? e with
    | none => rw [hq] at hi; cases hi
    | some inf =>
      rw [hq] at hi
      simp only [Option.map_some, Option.some.injEq, Prod.mk.injEq] at hi
      obtain ⟨i1, i3⟩ := hi
      cases hz : inf.zero with
      | none => rw [hz] at i3; cases i3
      | some z =>
        rw [hz] at i3
        simp only [Option.map_some, Option.some.injEq] at i3
        have hzs : z.cells.size = s := by rw [← hs, ← i3]; simp
        have hpa : (parts.map fun (i, x) => (i, a.eval x)).toList = (parts.toList.map (·.1)).zip vs := by
          rw [← hfit.evs he, Array.toList_map, List.map_map, List.zip_map']; rfl
        have hzip : ((parts.toList.map (·.1)).zip vs).map (fun x => (x.1, x.2.cells.toList)) = (parts.toList.map (·.1)).zip css := by
          rw [← hc.eq, List.zip_map_right]; rfl
        have hmade : ((Array.range (ln * inf.size)).map (z.cells[· % z.cells.size]!)) = ((List.range (ln * s)).map fun j => zc.getD (j % s) undef).toArray := by
          apply Array.ext'
          rw [i1]
          simp only [Array.toList_map, Array.toList_range]
          apply List.map_congr_left
          intro j hj
          have hj1 : j % s < s := Nat.mod_lt _ hs0
          rw [hzs, getElem!_pos z.cells (j % s) (by omega), ← i3, List.getD_eq_getElem?_getD, List.getElem?_eq_getElem (by simp; omega)]
          simp
        have hr := Go.run_buildSlice (P := P) w t e ln (parts.map fun (i, x) => (i, a.eval x)) cs.toArray inf z ht hq hz (by rw [i1]; omega) (by rw [i1]; exact Nat.ne_of_gt (Nat.mul_pos h0 hs0)) (by
          rw [hmade, i1, hpa]
          exact fill_fillP _ _ _ (by rw [hzip]; exact hf))
        have ho : Own (w.alloc (.cells cs.toArray e)).heap w.heap.size e s (.slice (some ⟨w.heap.size, 0, none⟩) ln ln) ln cs :=
          ⟨hcl, .inr ⟨w.heap.size, ln, _, rfl, Nat.le_refl _, heap_alloc_new w _, Nat.le_refl _, by
            have : ln ≤ ln * s := Nat.le_mul_of_pos_right _ hs0
            simp [maxLen]; omega, by simp [hcl], by rw [← hcl]; simp⟩⟩
        have := k _ _ ho (Ext.push _ _) rfl
        unfold Eff
        simp only [execOp, Sem.run_bind, hr]
        exact ⟨⟨rfl, rfl, rfl⟩, this.1, _, hfit.put d _ hb, this.2⟩
end rules
end Go.Den

/- Own calculus, part L: arrays in variables. No condition. -/
namespace Go.Den
set_option linter.unusedVariables false
set_option maxRecDepth 8000
open Go Go.RowKit
theorem look_know {l : Fr} {t : Nat} {v : Value} (e : look l t = some v) (j : Nat) : look ((t, v) :: l) j = look l j := by
  simp only [look]
  cases hj : Nat.beq j t with
  | true => have := Nat.eq_of_beq_eq_true hj; subst this; exact e.symm
  | false => rfl
section rules
variable {P : Program} {n : Nat} {Q : Post} {l : Fr} {h : Hp} {ops : List Oper} {Ch : Hp → Prop} {E : Nat → Bool} {i : Nat}
variable {d : Nat} {t : TypeId} {x y z : Operand}
theorem o_know {op : Op} {t : Nat} {v u : Value} (e : look l t = some v) (hu : v = u) (k : O P n ops Ch E Q i d op ((t, u) :: l) h) : O P n ops Ch E Q i d op l h := by
  subst hu
  refine O.mk fun ho hg => s_know e rfl (k.get ho ?_)
  unfold gd at hg ⊢
  split at hg
  · rfl
  · simp only [look_know e]
    exact hg
theorem s_indexArr {p : Value} {j m : Nat} {e : TypeId} {yk : IntKind} (hx : ev l x = some p) (hp : isPtr p = true) (hy : IsK (ev l y) yk j) (ht : P.underlying t = some (.array m e)) (hz : (P.info? e).map (·.size) = some 1) (hb : Nat.blt d n = true) (hj : j < m)
    (k : S P n ops Ch E Q (i + 1) ((d, ptrOff p j) :: l) h) : O P n ops Ch E Q i d (.indexAddr t x y) l h :=
  s_pure hb (fun a w' hf => by
    cases p <;> try cases hp
    rename_i ad
    cases ad with
    | none => cases hp
    | some ad =>
      cases hi : P.info? e with
      | none => rw [hi] at hz; cases hz
      | some inf =>
        rw [hi] at hz
        simp only [Option.map_some, Option.some.injEq] at hz
        have hj' : (j : Int) < m := by omega
        simp [execOp, hf.ev hx, hf.ev hy.h, Instr.indexAt, run_underlying ht, asIntOf, Instr.sureAddr, sizeOf, typeInfo, hi, hz, hj, ptrOff]) k
end rules
end Go.Den

/- Contracts of Go's library at this dump, laid by the kit's tool in plain words. -/
namespace Go.Proofs
open Go.Shelf
def Tryd.lays128_ren : Go.Shelf.Ren := ⟨fun | 128 => 89 | n => n, fun | 51 => 101 | 3 => 3 | 4 => 4 | 46 => 73 | 5 => 5 | 9 => 9 | n => n, fun | n => n⟩
theorem Tryd.lays128 : Go.Proofs.Lays.n128 Tryd.prog Tryd.lays128_ren := {
  mixed := by kernel_rfl
  f128 := Tryd.func89.trans (congrArg some (by kernel_rfl))
  t3 := Tryd.underlying3
  a3 := Tryd.isAgg3
  z3 := Tryd.sizeOf3
  v3 := Tryd.zeroValue3
  t4 := Tryd.underlying4
  a4 := Tryd.isAgg4
  z4 := Tryd.sizeOf4
  v4 := Tryd.zeroValue4
  t5 := Tryd.underlying5
  a5 := Tryd.isAgg5
  z5 := Tryd.sizeOf5
  v5 := Tryd.zeroValue5
  t9 := Tryd.underlying9
  a9 := Tryd.isAgg9
  z9 := Tryd.sizeOf9
  v9 := Tryd.zeroValue9
  t46 := Tryd.underlying73
  a46 := Tryd.isAgg73
  z46 := Tryd.sizeOf73
  v46 := Tryd.zeroValue73
  t51 := Tryd.underlying101
  a51 := Tryd.isAgg101
  z51 := Tryd.sizeOf101
  v51 := Tryd.zeroValue101 }
theorem Tryd.bits_Len32 (x : Int) (w : World) (h0 : 0 ≤ x) (h1 : x ≤ 4294967295) :
    Calls Tryd.prog 89 #[.int .u32 x] w fun e w' => e = .returned (.int .i64 (Lib.bitLen x.toNat)) ∧ w' = w := Any.bits_Len32 Tryd.lays128 x w h0 h1
def Tryd.lays125_ren : Go.Shelf.Ren := ⟨fun | 125 => 76 | 128 => 89 | 129 => 90 | n => n, fun | 46 => 73 | 3 => 3 | 51 => 101 | 53 => 24 | 4 => 4 | 5 => 5 | 9 => 9 | n => n, fun | n => n⟩
theorem Tryd.lays125 : Go.Proofs.Lays.n125 Tryd.prog Tryd.lays125_ren := {
  mixed := by kernel_rfl
  f125 := Tryd.func76.trans (congrArg some (by kernel_rfl))
  f128 := Tryd.func89.trans (congrArg some (by kernel_rfl))
  f129 := Tryd.func90.trans (congrArg some (by kernel_rfl))
  t3 := Tryd.underlying3
  a3 := Tryd.isAgg3
  z3 := Tryd.sizeOf3
  v3 := Tryd.zeroValue3
  t4 := Tryd.underlying4
  a4 := Tryd.isAgg4
  z4 := Tryd.sizeOf4
  v4 := Tryd.zeroValue4
  t5 := Tryd.underlying5
  a5 := Tryd.isAgg5
  z5 := Tryd.sizeOf5
  v5 := Tryd.zeroValue5
  t9 := Tryd.underlying9
  a9 := Tryd.isAgg9
  z9 := Tryd.sizeOf9
  v9 := Tryd.zeroValue9
  t46 := Tryd.underlying73
  a46 := Tryd.isAgg73
  z46 := Tryd.sizeOf73
  v46 := Tryd.zeroValue73
  t51 := Tryd.underlying101
  a51 := Tryd.isAgg101
  z51 := Tryd.sizeOf101
  v51 := Tryd.zeroValue101
  t53 := Tryd.underlying24
  a53 := Tryd.isAgg24
  z53 := Tryd.sizeOf24
  v53 := Tryd.zeroValue24 }
theorem Tryd.bits_Len (x : Int) (w : World) (h0 : 0 ≤ x) (h1 : x ≤ 18446744073709551615) :
    Calls Tryd.prog 76 #[.int .u64 x] w fun e w' => e = .returned (.int .i64 (Lib.bitLen x.toNat)) ∧ w' = w := Any.bits_Len Tryd.lays125 x w h0 h1
def Tryd.lays134_ren : Go.Shelf.Ren := ⟨fun | 134 => 87 | 129 => 90 | n => n, fun | 53 => 24 | 3 => 3 | 4 => 4 | 46 => 73 | 5 => 5 | 9 => 9 | n => n, fun | n => n⟩
theorem Tryd.lays134 : Go.Proofs.Lays.n134 Tryd.prog Tryd.lays134_ren := {
  mixed := by kernel_rfl
  f129 := Tryd.func90.trans (congrArg some (by kernel_rfl))
  f134 := Tryd.func87.trans (congrArg some (by kernel_rfl))
  t3 := Tryd.underlying3
  a3 := Tryd.isAgg3
  z3 := Tryd.sizeOf3
  v3 := Tryd.zeroValue3
  t4 := Tryd.underlying4
  a4 := Tryd.isAgg4
  z4 := Tryd.sizeOf4
  v4 := Tryd.zeroValue4
  t5 := Tryd.underlying5
  a5 := Tryd.isAgg5
  z5 := Tryd.sizeOf5
  v5 := Tryd.zeroValue5
  t9 := Tryd.underlying9
  a9 := Tryd.isAgg9
  z9 := Tryd.sizeOf9
  v9 := Tryd.zeroValue9
  t46 := Tryd.underlying73
  a46 := Tryd.isAgg73
  z46 := Tryd.sizeOf73
  v46 := Tryd.zeroValue73
  t53 := Tryd.underlying24
  a53 := Tryd.isAgg24
  z53 := Tryd.sizeOf24
  v53 := Tryd.zeroValue24 }
theorem Tryd.bits_LeadingZeros64 (x : Int) (w : World) (h0 : 0 ≤ x) (h1 : x ≤ 18446744073709551615) :
    Calls Tryd.prog 87 #[.int .u64 x] w fun e w' => e = .returned (.int .i64 (64 - (Lib.bitLen x.toNat : Int))) ∧ w' = w := Any.bits_LeadingZeros64 Tryd.lays134 x w h0 h1
def Tryd.lays129_ren : Go.Shelf.Ren := ⟨fun | 129 => 90 | n => n, fun | 53 => 24 | 3 => 3 | 4 => 4 | 46 => 73 | 5 => 5 | 9 => 9 | n => n, fun | n => n⟩
theorem Tryd.lays129 : Go.Proofs.Lays.n129 Tryd.prog Tryd.lays129_ren := {
  mixed := by kernel_rfl
  f129 := Tryd.func90.trans (congrArg some (by kernel_rfl))
  t3 := Tryd.underlying3
  a3 := Tryd.isAgg3
  z3 := Tryd.sizeOf3
  v3 := Tryd.zeroValue3
  t4 := Tryd.underlying4
  a4 := Tryd.isAgg4
  z4 := Tryd.sizeOf4
  v4 := Tryd.zeroValue4
  t5 := Tryd.underlying5
  a5 := Tryd.isAgg5
  z5 := Tryd.sizeOf5
  v5 := Tryd.zeroValue5
  t9 := Tryd.underlying9
  a9 := Tryd.isAgg9
  z9 := Tryd.sizeOf9
  v9 := Tryd.zeroValue9
  t46 := Tryd.underlying73
  a46 := Tryd.isAgg73
  z46 := Tryd.sizeOf73
  v46 := Tryd.zeroValue73
  t53 := Tryd.underlying24
  a53 := Tryd.isAgg24
  z53 := Tryd.sizeOf24
  v53 := Tryd.zeroValue24 }
theorem Tryd.bits_Len64 (x : Int) (w : World) (h0 : 0 ≤ x) (h1 : x ≤ 18446744073709551615) :
    Calls Tryd.prog 90 #[.int .u64 x] w fun e w' => e = .returned (.int .i64 (Lib.bitLen x.toNat)) ∧ w' = w := Any.bits_Len64 Tryd.lays129 x w h0 h1
def Tryd.lays264_ren : Go.Shelf.Ren := ⟨fun | 264 => 73 | n => n, fun | 53 => 24 | 46 => 73 | n => n, fun | n => n⟩
theorem Tryd.lays264 : Go.Proofs.Lays.n264 Tryd.prog Tryd.lays264_ren := {
  mixed := by kernel_rfl
  f264 := Tryd.func73.trans (congrArg some (by kernel_rfl))
  t46 := Tryd.underlying73
  a46 := Tryd.isAgg73
  z46 := Tryd.sizeOf73
  v46 := Tryd.zeroValue73
  t53 := Tryd.underlying24
  a53 := Tryd.isAgg24
  z53 := Tryd.sizeOf24
  v53 := Tryd.zeroValue24 }
open Go.RowKit Go.Lib in
theorem Tryd.bits_Mul64 (x y : Nat) (hx : x < 18446744073709551616) (hy : y < 18446744073709551616) (w : World) :
    Calls Tryd.prog 73 #[.int .u64 x, .int .u64 y] w fun e w' => e = .returned (.tuple #[.int .u64 ((x * y / 18446744073709551616 : Nat) : Int), .int .u64 ((x * y % 18446744073709551616 : Nat) : Int)]) ∧ w' = w := Any.bits_Mul64 Tryd.lays264 x y hx hy w
end Go.Proofs

/- Plain laws on natural numbers: the school method of division by two digits. No condition; no program in sight. -/
namespace Go.Num
set_option linter.unusedVariables false
set_option maxRecDepth 8000

theorem modW (x : Nat) : x % 18446744073709551616 < 18446744073709551616 := Nat.mod_lt _ (by decide)
theorem mulB {q y : Nat} (hq : q ≤ 4294967296 + 1) (hy : y < 4294967296) : q * y < 18446744073709551616 := by
  have : q * y ≤ (4294967296 + 1) * 4294967295 := Nat.mul_le_mul hq (by omega)
  omega

theorem and32 (a : Nat) : a &&& 4294967295 = a % 4294967296 := Nat.and_two_pow_sub_one_eq_mod a 32

/-- What is left of a digit's step, reckoned round the word. -/
theorem rest_wrap {A M d r : Nat} (h : A + d = M + r) (hr : r < 18446744073709551616) :
    ((A % 18446744073709551616 + d) % 18446744073709551616 + (18446744073709551616 - M % 18446744073709551616)) % 18446744073709551616 = r := by omega

/-- One digit's guess is the digit, once the test says no. -/
theorem digit_eq {B y1 y0 u d q r Y : Nat} (hY : y1 * B + y0 = Y) (hy0 : y0 < B) (hq : q * y1 + r = u) (hge : (u * B + d) / Y ≤ q) (hle : q * y0 ≤ B * r + d) (hpos : 0 < Y) : q = (u * B + d) / Y := by
  subst hY
  refine Nat.le_antisymm ?_ hge
  rw [Nat.le_div_iff_mul_le hpos]
  have h1 : q * (y1 * B + y0) = q * y1 * B + q * y0 := by rw [Nat.mul_add, Nat.mul_assoc]
  have h2 : u * B = q * y1 * B + r * B := by rw [← hq, Nat.add_mul]
  have h3 : B * r = r * B := Nat.mul_comm _ _
  omega

/-- .. and once the remainder has a digit too many. -/
theorem digit_eq' {B y1 y0 u d q r Y : Nat} (hY : y1 * B + y0 = Y) (hy0 : y0 < B) (hq : q * y1 + r = u) (hge : (u * B + d) / Y ≤ q) (hr : B ≤ r) (hqB : q ≤ B) (hpos : 0 < Y) : q = (u * B + d) / Y := by
  subst hY
  refine digit_eq rfl hy0 hq hge ?_ hpos
  have h1 : q * y0 ≤ B * r := Nat.mul_le_mul hqB (by omega)
  omega

/-- A guess that the test refuses is too great. -/
theorem digit_gt {B y1 y0 u d q r Y : Nat} (hY : y1 * B + y0 = Y) (hq : q * y1 + r = u) (hlt : B * r + d < q * y0) (hpos : 0 < Y) : (u * B + d) / Y < q := by
  subst hY
  rw [Nat.div_lt_iff_lt_mul hpos]
  have h1 : q * (y1 * B + y0) = q * y1 * B + q * y0 := by rw [Nat.mul_add, Nat.mul_assoc]
  have h2 : u * B = q * y1 * B + r * B := by rw [← hq, Nat.add_mul]
  have h3 : B * r = r * B := Nat.mul_comm _ _
  omega

theorem digit_lt {B y u d : Nat} (hd : d < B) (hu : u < y) : (u * B + d) / y < B := by
  rw [Nat.div_lt_iff_lt_mul (by omega)]
  have h1 : (u + 1) * B ≤ y * B := Nat.mul_le_mul_right _ hu
  rw [Nat.add_mul] at h1
  have : B * y = y * B := Nat.mul_comm _ _
  omega

/-- The first guess is at most one too many beyond a digit. -/
theorem guess_le {B y1 y0 u Y : Nat} (hY : y1 * B + y0 = Y) (hy : B ≤ 2 * y1) (hy0 : y0 < B) (hu : u < Y) (h1 : 0 < y1) : u / y1 ≤ B + 1 := by
  subst hY
  rw [Nat.div_le_iff_le_mul_add_pred h1]
  have : y1 * (B + 1) = y1 * B + y1 := by rw [Nat.mul_add, Nat.mul_one]
  omega
theorem guess_ge {B y1 y0 u d Y : Nat} (hY : y1 * B + y0 = Y) (hd : d < B) (h1 : 0 < y1) : (u * B + d) / Y ≤ u / y1 := by
  subst hY
  have hb : 0 < B := by omega
  have hp : 0 < y1 * B := Nat.mul_pos h1 hb
  have e1 : (u * B + d) / (y1 * B + y0) ≤ (u * B + d) / (y1 * B) := Nat.div_le_div_left (by omega) hp
  have e2 : (u * B + d) / (y1 * B) = u / y1 := by
    rw [Nat.mul_comm y1 B, ← Nat.div_div_eq_div_mul]
    congr 1
    rw [Nat.mul_comm u B, Nat.mul_add_div hb, Nat.div_eq_of_lt hd, Nat.add_zero]
  omega

theorem or_add {a b s : Nat} (h : b < 2 ^ s) : (a * 2 ^ s) ||| b = a * 2 ^ s + b := by
  have := Nat.shiftLeft_add_eq_or_of_lt h a
  rw [Nat.shiftLeft_eq] at this
  exact this.symm

theorem and_mask (a s : Nat) : a &&& (2 ^ s - 1) = a % 2 ^ s := Nat.and_two_pow_sub_one_eq_mod a s

/-- The two digits together, and back from the divisor that was moved up. -/
theorem two_digits {B y u d1 d0 : Nat} (hy : 0 < y) (hB : 0 < B) : ((u * B + d1) * B + d0) / y = (u * B + d1) / y * B + ((u * B + d1) % y * B + d0) / y ∧ ((u * B + d1) * B + d0) % y = ((u * B + d1) % y * B + d0) % y := by
  generalize hN : u * B + d1 = N
  have h := Nat.div_add_mod N y
  have e : N * B + d0 = y * (N / y * B) + (N % y * B + d0) := by
    have h2 : N * B = (y * (N / y) + N % y) * B := by rw [h]
    rw [h2, Nat.add_mul, Nat.mul_assoc, Nat.add_assoc]
  constructor
  · rw [e, Nat.mul_add_div hy]
  · rw [e, Nat.mul_add_mod]

theorem two_end {y u d1 d0 e q1 v q0 r : Nat} (hy : 0 < y) (he : d1 * 4294967296 + d0 = e) (h1 : q1 = (u * 4294967296 + d1) / y) (h2 : v = (u * 4294967296 + d1) % y)
    (h3 : q0 = (v * 4294967296 + d0) / y) (h4 : r = (v * 4294967296 + d0) % y) : (u * 18446744073709551616 + e) / y = q1 * 4294967296 + q0 ∧ (u * 18446744073709551616 + e) % y = r := by
  obtain ⟨t1, t2⟩ := two_digits (y := y) (B := 4294967296) (u := u) (d1 := d1) (d0 := d0) hy (by omega)
  have hN : (u * 4294967296 + d1) * 4294967296 + d0 = u * 18446744073709551616 + e := by
    subst he; rw [Nat.add_mul, Nat.mul_assoc, Nat.add_assoc]
  rw [hN] at t1 t2
  rw [t1, t2, h3, h4, h1, h2]
  exact ⟨rfl, rfl⟩
theorem dm {n y q r : Nat} (h1 : q = n / y) (h2 : r = n % y) : n = q * y + r := by
  rw [h1, h2, Nat.mul_comm]; exact (Nat.div_add_mod n y).symm

theorem shift_div {N y s : Nat} (hy : 0 < y) : (N * 2 ^ s) / (y * 2 ^ s) = N / y ∧ (N * 2 ^ s) % (y * 2 ^ s) / 2 ^ s = N % y := by
  have hp : 0 < 2 ^ s := Nat.pow_pos (by omega)
  constructor
  · exact Nat.mul_div_mul_right _ _ hp
  · rw [Nat.mul_mod_mul_right, Nat.mul_div_cancel _ hp]

/-- lo moved up by s: what falls out above, and what stays. -/
theorem shift_parts {hi lo s : Nat} (hs : s ≤ 64) (hlo : lo < 18446744073709551616) :
    (hi * 18446744073709551616 + lo) * 2 ^ s = (hi * 2 ^ s + lo / 2 ^ (64 - s)) * 18446744073709551616 + lo * 2 ^ s % 18446744073709551616 := by
  have e64 : (18446744073709551616 : Nat) = 2 ^ (64 - s) * 2 ^ s := by rw [← Nat.pow_add, show 64 - s + s = 64 by omega]
  have hp : 0 < 2 ^ (64 - s) := Nat.pow_pos (by omega)
  have h1 : lo * 2 ^ s % 18446744073709551616 = lo % 2 ^ (64 - s) * 2 ^ s := by
    rw [e64, Nat.mul_mod_mul_right]
  have h2 := Nat.div_add_mod lo (2 ^ (64 - s))
  rw [h1, Nat.add_mul, Nat.add_mul]
  have h3 : lo * 2 ^ s = lo / 2 ^ (64 - s) * 18446744073709551616 + lo % 2 ^ (64 - s) * 2 ^ s := by
    rw [e64]
    conv => lhs; rw [← h2]
    rw [Nat.add_mul]
    congr 1
    rw [Nat.mul_comm (2 ^ (64 - s)), Nat.mul_assoc]
  have h4 : hi * 18446744073709551616 * 2 ^ s = hi * 2 ^ s * 18446744073709551616 := by
    rw [Nat.mul_assoc, Nat.mul_comm 18446744073709551616, ← Nat.mul_assoc]
  omega
end Go.Num

/- Go's math/bits as contracts of the own calculus: Mul64, LeadingZeros64, Add64, and Div64 walked. No condition. -/
namespace Go.Proofs.YtfgfmempmkjlnaaDoor
set_option linter.unusedVariables false
set_option maxRecDepth 8000
open Go Go.Den Go.RowKit

theorem mixed : Tryd.prog.follows .mixedOrders = true := by kernel_rfl

theorem callsH_same {P : Program} {f : FuncId} {args : List Value} {h : Hp} {u : Value} (c : ∀ w, Calls P f args.toArray w fun e w' => e = .returned u ∧ w' = w) : CallsH P f args h fun v h' => v = u ∧ h = h' :=
  fun w hw => (c w).mono fun _ _ ⟨he, hw'⟩ => ⟨u, he, ⟨rfl, by rw [hw', hw]⟩, by rw [hw']; exact Oth.refl w⟩

theorem add64_run (x y c : Nat) (hc : c ≤ 1) (hx : x < 18446744073709551616) (hy : y < 18446744073709551616) (w : World) :
    (callFunc 84 #[U x, U y, U c]).run Tryd.prog w =
      .ok (.value (.tuple [U ((x + y + c) % 18446744073709551616), U ((x + y + c) / 18446744073709551616)].toArray)) w := by
  rw [run_callFunc_extern Tryd.func84 (by kernel_rfl) (by kernel_rfl) (by kernel_rfl) (e := add64Entry) (by kernel_rfl), run_add64 x y c (by omega) (by omega) (by omega) (by omega)]
  simp only [Result.andThen]
  congr 5 <;> omega

theorem Tryd_ent73 : Ent Tryd.prog 73 := ent_of Tryd.func73 (by kernel_rfl) rfl
theorem mul64_spec (x y : Nat) (h : Hp) (hx : x < 18446744073709551616) (hy : y < 18446744073709551616) :
    CallsH Tryd.prog 73 [U x, U y] h fun v h' => v = .tuple [U (x * y / 18446744073709551616), U (x * y % 18446744073709551616)].toArray ∧ h = h' :=
  callsH_same fun w => Tryd.bits_Mul64 x y hx hy w

theorem Tryd_ent87 : Ent Tryd.prog 87 := ent_of Tryd.func87 (by kernel_rfl) rfl
theorem lz64_spec (x : Nat) (h : Hp) (hx : x < 18446744073709551616) :
    CallsH Tryd.prog 87 [U x] h fun v h' => v = I (64 - (Lib.bitLen x : Int)) ∧ h = h' :=
  callsH_same fun w => Tryd.bits_LeadingZeros64 x w (by omega) (by omega)

theorem bitLen_one : Lib.bitLen 1 = 1 := by decide +kernel
theorem bitLen_spec : ∀ (k x : Nat), x < 2 ^ k → k ≤ 64 → x ≠ 0 → 1 ≤ Lib.bitLen x ∧ Lib.bitLen x ≤ 64 ∧ 2 ^ (Lib.bitLen x - 1) ≤ x ∧ x < 2 ^ Lib.bitLen x
  | 0, x, h, _, h0 => by simp at h; omega
  | k + 1, x, h, hk, h0 => by
    have h64 : x < 2 ^ 64 := Nat.lt_of_lt_of_le h (Nat.pow_le_pow_right (by omega) hk)
    have e := Lib.bitLen_half x h0 h64
    by_cases h1 : x = 1
    · subst h1; rw [bitLen_one]; decide
    · have hx2 : x / 2 < 2 ^ k := by rw [Nat.pow_succ] at h; omega
      obtain ⟨g1, g2, g3, g4⟩ := bitLen_spec k (x / 2) hx2 (by omega) (by omega)
      have hle := Lib.bitLen_le x 64 (by omega) h64
      rw [e] at hle ⊢
      refine ⟨by omega, hle, ?_, ?_⟩
      · rw [show 1 + Lib.bitLen (x / 2) - 1 = (Lib.bitLen (x / 2) - 1) + 1 by omega, Nat.pow_succ]; omega
      · rw [show 1 + Lib.bitLen (x / 2) = Lib.bitLen (x / 2) + 1 by omega, Nat.pow_succ]; omega

/-- Moved up by its leading noughts a number fills the word. -/
theorem lz_fills (y : Nat) (h0 : y ≠ 0) (h : y < 18446744073709551616) : ∃ s : Nat, 64 - (Lib.bitLen y : Int) = (s : Int) ∧ s < 64 ∧ 9223372036854775808 ≤ y * 2 ^ s ∧ y * 2 ^ s < 18446744073709551616 := by
  obtain ⟨g1, g2, g3, g4⟩ := bitLen_spec 64 y h (by omega) h0
  refine ⟨64 - Lib.bitLen y, by omega, by omega, ?_, ?_⟩
  · have : 2 ^ (Lib.bitLen y - 1) * 2 ^ (64 - Lib.bitLen y) ≤ y * 2 ^ (64 - Lib.bitLen y) := Nat.mul_le_mul_right _ g3
    rw [← Nat.pow_add, show Lib.bitLen y - 1 + (64 - Lib.bitLen y) = 63 by omega] at this
    exact this
  · have : y * 2 ^ (64 - Lib.bitLen y) < 2 ^ Lib.bitLen y * 2 ^ (64 - Lib.bitLen y) := Nat.mul_lt_mul_of_pos_right g4 (Nat.pow_pos (by omega))
    rw [← Nat.pow_add, show Lib.bitLen y + (64 - Lib.bitLen y) = 64 by omega] at this
    exact this

theorem Tryd_ent74 : Ent Tryd.prog 74 := ent_of Tryd.func74 (by kernel_rfl) rfl
set_option maxHeartbeats 1000000 in
theorem div64_spec (hi lo y : Nat) (h : Hp) (hhi : hi < y) (hlo : lo < 18446744073709551616) (hy : y < 18446744073709551616) :
    CallsH Tryd.prog 74 [U hi, U lo, U y] h fun v h' => v = .tuple [U ((hi * 18446744073709551616 + lo) / y), U ((hi * 18446744073709551616 + lo) % y)].toArray ∧ h = h' := by
  (apply enter Tryd.func74 rfl Tryd.ntmps74 rfl)
  refine run ?_
  (apply w_condF; exact rfl; exact rfl; exact (by omega))
  refine run ?_
  (apply w_condF; exact rfl; exact rfl; exact (by omega))
  refine run ?_
  (apply w_condD; exact rfl; exact rfl) <;> intro hz
  · refine run ?_
    exact fin2 rfl rfl rfl ⟨by rw [hz]; simp, rfl⟩
  · refine run ?_
    obtain ⟨s, hs, hs64, hlo63, hhi64⟩ := lz_fills y (by omega) hy
    apply (s_call Tryd_ent87 rfl rfl rfl)
    refine (lz64_spec y h hy).mono ?_
    rintro _ _ ⟨rfl, rfl⟩
    refine ⟨trivial, ?_⟩
    rw [hs]
    have hhis : hi * 2 ^ s < 18446744073709551616 := Nat.lt_of_le_of_lt (Nat.mul_le_mul_right _ (Nat.le_of_lt hhi)) hhi64
    have hpow : 0 < 2 ^ s := Nat.pow_pos (by omega)
    have hlos : lo / 2 ^ (64 - s) < 2 ^ s := by
      rw [Nat.div_lt_iff_lt_mul (Nat.pow_pos (by omega)), ← Nat.pow_add, show s + (64 - s) = 64 by omega]; exact hlo
    have hlow : lo / 2 ^ (64 - s) < 18446744073709551616 := Nat.lt_of_le_of_lt (Nat.div_le_self _ _) hlo
    have hor : hi * 2 ^ s ||| lo / 2 ^ (64 - s) = hi * 2 ^ s + lo / 2 ^ (64 - s) := Num.or_add hlos
    have hparts := Num.shift_parts (hi := hi) (lo := lo) (s := s) (by omega) hlo
    have hult : hi * 2 ^ s + lo / 2 ^ (64 - s) < y * 2 ^ s := by
      have : (hi + 1) * 2 ^ s ≤ y * 2 ^ s := Nat.mul_le_mul_right _ hhi
      rw [Nat.add_mul] at this; omega
    clear hs
    refine run ?_
    rw [hor]
    obtain ⟨hsd, hsm⟩ := Num.shift_div (N := hi * 18446744073709551616 + lo) (y := y) (s := s) (by omega)
    rw [hparts] at hsd hsm
    rw [← hsd, ← hsm]
    have hy0 : y * 2 ^ s &&& 4294967295 = y * 2 ^ s % 4294967296 := Num.and32 _
    have hd0 : lo * 2 ^ s % 18446744073709551616 &&& 4294967295 = lo * 2 ^ s % 18446744073709551616 % 4294967296 := Num.and32 _
    rw [hy0, hd0]
    have hel : lo * 2 ^ s % 18446744073709551616 < 18446744073709551616 := Num.modW _
    clear hy0 hd0 hsd hsm hparts hor hhis hlos hlow
    generalize lo * 2 ^ s % 18446744073709551616 = e at *
    generalize hi * 2 ^ s + lo / 2 ^ (64 - s) = u at *
    generalize y * 2 ^ s = Y at *
    simp only [show (2 : Nat) ^ 32 = 4294967296 from rfl]
    have hYd := Nat.div_add_mod Y 4294967296
    have hed := Nat.div_add_mod e 4294967296
    have hy0B : Y % 4294967296 < 4294967296 := Nat.mod_lt _ (by omega)
    have hd0B : e % 4294967296 < 4294967296 := Nat.mod_lt _ (by omega)
    have hy1a : 2147483648 ≤ Y / 4294967296 := by omega
    have hy1b : Y / 4294967296 < 4294967296 := by omega
    have hd1B : e / 4294967296 < 4294967296 := by omega
    have hYd' : Y / 4294967296 * 4294967296 + Y % 4294967296 = Y := by rw [Nat.mul_comm]; exact hYd
    have hed' : e / 4294967296 * 4294967296 + e % 4294967296 = e := by rw [Nat.mul_comm]; exact hed
    clear hYd hed
    generalize Y / 4294967296 = y1 at *
    generalize Y % 4294967296 = y0 at *
    generalize e / 4294967296 = d1 at *
    generalize e % 4294967296 = d0 at *
    have hqm : u / y1 * y1 ≤ u := Nat.div_mul_le_self _ _
    have hqm' : u / y1 * y1 < 18446744073709551616 := by omega
    have hqB : (u * 4294967296 + d1) / Y < 4294967296 := Num.digit_lt hd1B hult
    have hgle : u / y1 ≤ 4294967296 + 1 := Num.guess_le hYd' (by omega) hy0B hult (by omega)
    have hgge : (u * 4294967296 + d1) / Y ≤ u / y1 := Num.guess_ge hYd' hd1B (by omega)
    have hrem : u - u / y1 * y1 < 4294967296 := by
      have := Nat.div_add_mod u y1
      have h2 : u % y1 < y1 := Nat.mod_lt _ (by omega)
      rw [Nat.mul_comm] at this; omega
    refine run ?_
    apply (w_cut (σ := Nat × Nat) rfl (fun p => [(2, U Y), (8, U s), (9, U y1), (10, U y0), (11, U u), (13, U d1), (14, U d0), (15, U p.1)]) (fun p h' => h = h' ∧ p.1 = (u * 4294967296 + d1) / Y ∧ p.2 = (u * 4294967296 + d1) % Y))
    · apply w_block; exact rfl
      apply (w_loop (σ := Nat × Nat) rfl (fun p => [(2, U Y), (8, U s), (9, U y1), (10, U y0), (11, U u), (13, U d1), (14, U d0), (15, U p.1), (16, U p.2)])
        (fun p h' => h = h' ∧ p.1 * y1 + p.2 = u ∧ (u * 4294967296 + d1) / Y ≤ p.1 ∧ p.1 ≤ 4294967296 + 1 ∧ p.2 < 4294967296) (fun p => p.1) (u / y1, u - u / y1 * y1))
      · exact (Sub.cons rfl (Sub.cons rfl (Sub.cons rfl (Sub.cons rfl (Sub.cons rfl (Sub.cons rfl (Sub.cons rfl (Sub.cons rfl (Sub.cons rfl (Sub.nil _))))))))))
      · exact ⟨rfl, by simp only []; omega, hgge, hgle, hrem⟩
      · rintro ⟨q, r⟩ h' ⟨rfl, i1, i2, i3, i4⟩
        dsimp only at i1 i2 i3 i4 ⊢
        have hqy : q * y0 < 18446744073709551616 := Num.mulB i3 hy0B
        refine run ?_
        (apply s_split 69; exact rfl) <;> intro hc
        · have hq1 : 1 ≤ q := by omega
          refine run ?_
          (apply w_condD; exact rfl; exact rfl) <;> intro hb
          · refine run ?_
            apply cut_normal ((u * 4294967296 + d1) / Y, (u * 4294967296 + d1) % Y)
            · exact (Sub.cons rfl (Sub.cons rfl (Sub.cons rfl (Sub.cons rfl (Sub.cons rfl (Sub.cons rfl (Sub.cons rfl (Sub.consE rfl (by rw [← Num.digit_eq' hYd' hy0B (q := q - 1) (r := r + y1) (by rw [← i1, Nat.sub_mul]; have := Nat.mul_le_mul_right y1 hq1; omega) (by omega) hb (by omega) (by omega)]) (Sub.nil _)))))))))
            · exact ⟨rfl, rfl, rfl⟩
          · refine run ?_
            apply again_normal (q - 1, r + y1)
            · exact (Sub.cons rfl (Sub.cons rfl (Sub.cons rfl (Sub.cons rfl (Sub.cons rfl (Sub.cons rfl (Sub.cons rfl (Sub.cons rfl (Sub.cons rfl (Sub.nil _))))))))))
            · exact ⟨rfl, by simp only []; rw [← i1, Nat.sub_mul]; have := Nat.mul_le_mul_right y1 hq1; omega, by simp only []; omega, by simp only []; omega, by simp only []; omega⟩
            · simp only []; omega
        · refine run ?_
          (apply w_condD; exact rfl; exact rfl) <;> intro hd
          · have hqgt := Num.digit_gt hYd' i1 hd (by omega)
            have hq1 : 1 ≤ q := Nat.lt_of_le_of_lt (Nat.zero_le _) hqgt
            refine run ?_
            (apply w_condD; exact rfl; exact rfl) <;> intro hb
            · refine run ?_
              apply cut_normal ((u * 4294967296 + d1) / Y, (u * 4294967296 + d1) % Y)
              · exact (Sub.cons rfl (Sub.cons rfl (Sub.cons rfl (Sub.cons rfl (Sub.cons rfl (Sub.cons rfl (Sub.cons rfl (Sub.consE rfl (by rw [← Num.digit_eq' hYd' hy0B (q := q - 1) (r := r + y1) (by rw [← i1, Nat.sub_mul]; have := Nat.mul_le_mul_right y1 hq1; omega) (by omega) hb (by omega) (by omega)]) (Sub.nil _)))))))))
              · exact ⟨rfl, rfl, rfl⟩
            · refine run ?_
              apply again_normal (q - 1, r + y1)
              · exact (Sub.cons rfl (Sub.cons rfl (Sub.cons rfl (Sub.cons rfl (Sub.cons rfl (Sub.cons rfl (Sub.cons rfl (Sub.cons rfl (Sub.cons rfl (Sub.nil _))))))))))
              · exact ⟨rfl, by simp only []; rw [← i1, Nat.sub_mul]; have := Nat.mul_le_mul_right y1 hq1; omega, by simp only []; omega, by simp only []; omega, by simp only []; omega⟩
              · simp only []; omega
          · refine run ?_
            apply cut_normal ((u * 4294967296 + d1) / Y, (u * 4294967296 + d1) % Y)
            · exact (Sub.cons rfl (Sub.cons rfl (Sub.cons rfl (Sub.cons rfl (Sub.cons rfl (Sub.cons rfl (Sub.cons rfl (Sub.consE rfl (by rw [← Num.digit_eq hYd' hy0B i1 i2 (by omega) (by omega)]) (Sub.nil _)))))))))
            · exact ⟨rfl, rfl, rfl⟩
    · rintro ⟨q1, v⟩ _ ⟨rfl, e1, e2⟩
      dsimp only at e1 e2 ⊢
      rw [← e1] at hqB
      have hvY : v < Y := by rw [e2]; exact Nat.mod_lt _ (by omega)
      have hdm := Num.dm e1 e2
      clear hqm hqm' hgle hgge hrem
      have hw : ((u * 4294967296 % 18446744073709551616 + d1) % 18446744073709551616 + (18446744073709551616 - q1 * Y % 18446744073709551616)) % 18446744073709551616 = v := Num.rest_wrap hdm (Nat.lt_trans hvY hhi64)
      have hm1 : q1 * Y % 18446744073709551616 ≤ 18446744073709551616 := Nat.le_of_lt (Num.modW _)
      refine runS ?_
      (apply s_mulUw; (first | exact isK_c | exact isK_t rfl); (first | exact isK_c | exact isK_t rfl); exact rfl)
      refine runS ?_
      (apply s_addUw; (first | exact isK_c | exact isK_t rfl); (first | exact isK_c | exact isK_t rfl); exact rfl)
      refine runS ?_
      (apply s_mulUw; (first | exact isK_c | exact isK_t rfl); (first | exact isK_c | exact isK_t rfl); exact rfl)
      refine runS ?_
      (apply s_subUw; (first | exact isK_c | exact isK_t rfl); (first | exact isK_c | exact isK_t rfl); exact rfl; omega)
      rw [hw]
      clear hw hm1 hdm
      have hqm : v / y1 * y1 ≤ v := Nat.div_mul_le_self _ _
      have hqm' : v / y1 * y1 < 18446744073709551616 := by omega
      have hqB2 : (v * 4294967296 + d0) / Y < 4294967296 := Num.digit_lt hd0B hvY
      have hgle : v / y1 ≤ 4294967296 + 1 := Num.guess_le hYd' (by omega) hy0B hvY (by omega)
      have hgge : (v * 4294967296 + d0) / Y ≤ v / y1 := Num.guess_ge hYd' hd0B (by omega)
      have hrem : v - v / y1 * y1 < 4294967296 := by
        have := Nat.div_add_mod v y1
        have h2 : v % y1 < y1 := Nat.mod_lt _ (by omega)
        rw [Nat.mul_comm] at this; omega
      refine run ?_
      apply (w_cut (σ := Nat × Nat) rfl (fun p => [(2, U Y), (8, U s), (9, U y1), (10, U y0), (15, U q1), (17, U v), (14, U d0), (18, U p.1)]) (fun p h' => h = h' ∧ p.1 = (v * 4294967296 + d0) / Y ∧ p.2 = (v * 4294967296 + d0) % Y))
      · apply w_block; exact rfl
        apply (w_loop (σ := Nat × Nat) rfl (fun p => [(2, U Y), (8, U s), (9, U y1), (10, U y0), (15, U q1), (17, U v), (14, U d0), (18, U p.1), (16, U p.2)])
          (fun p h' => h = h' ∧ p.1 * y1 + p.2 = v ∧ (v * 4294967296 + d0) / Y ≤ p.1 ∧ p.1 ≤ 4294967296 + 1 ∧ p.2 < 4294967296) (fun p => p.1) (v / y1, v - v / y1 * y1))
        · exact (Sub.cons rfl (Sub.cons rfl (Sub.cons rfl (Sub.cons rfl (Sub.cons rfl (Sub.cons rfl (Sub.cons rfl (Sub.cons rfl (Sub.cons rfl (Sub.nil _))))))))))
        · exact ⟨rfl, by simp only []; omega, hgge, hgle, hrem⟩
        · rintro ⟨q, r⟩ h' ⟨rfl, i1, i2, i3, i4⟩
          dsimp only at i1 i2 i3 i4 ⊢
          have hqy : q * y0 < 18446744073709551616 := Num.mulB i3 hy0B
          refine run ?_
          (apply s_split 104; exact rfl) <;> intro hc
          · have hq1 : 1 ≤ q := by omega
            refine run ?_
            (apply w_condD; exact rfl; exact rfl) <;> intro hb
            · refine run ?_
              apply cut_normal ((v * 4294967296 + d0) / Y, (v * 4294967296 + d0) % Y)
              · exact (Sub.cons rfl (Sub.cons rfl (Sub.cons rfl (Sub.cons rfl (Sub.cons rfl (Sub.cons rfl (Sub.cons rfl (Sub.consE rfl (by rw [← Num.digit_eq' hYd' hy0B (q := q - 1) (r := r + y1) (by rw [← i1, Nat.sub_mul]; have := Nat.mul_le_mul_right y1 hq1; omega) (by omega) hb (by omega) (by omega)]) (Sub.nil _)))))))))
              · exact ⟨rfl, rfl, rfl⟩
            · refine run ?_
              apply again_normal (q - 1, r + y1)
              · exact (Sub.cons rfl (Sub.cons rfl (Sub.cons rfl (Sub.cons rfl (Sub.cons rfl (Sub.cons rfl (Sub.cons rfl (Sub.cons rfl (Sub.cons rfl (Sub.nil _))))))))))
              · exact ⟨rfl, by simp only []; rw [← i1, Nat.sub_mul]; have := Nat.mul_le_mul_right y1 hq1; omega, by simp only []; omega, by simp only []; omega, by simp only []; omega⟩
              · simp only []; omega
          · refine run ?_
            (apply w_condD; exact rfl; exact rfl) <;> intro hd
            · have hqgt := Num.digit_gt hYd' i1 hd (by omega)
              have hq1 : 1 ≤ q := Nat.lt_of_le_of_lt (Nat.zero_le _) hqgt
              refine run ?_
              (apply w_condD; exact rfl; exact rfl) <;> intro hb
              · refine run ?_
                apply cut_normal ((v * 4294967296 + d0) / Y, (v * 4294967296 + d0) % Y)
                · exact (Sub.cons rfl (Sub.cons rfl (Sub.cons rfl (Sub.cons rfl (Sub.cons rfl (Sub.cons rfl (Sub.cons rfl (Sub.consE rfl (by rw [← Num.digit_eq' hYd' hy0B (q := q - 1) (r := r + y1) (by rw [← i1, Nat.sub_mul]; have := Nat.mul_le_mul_right y1 hq1; omega) (by omega) hb (by omega) (by omega)]) (Sub.nil _)))))))))
                · exact ⟨rfl, rfl, rfl⟩
              · refine run ?_
                apply again_normal (q - 1, r + y1)
                · exact (Sub.cons rfl (Sub.cons rfl (Sub.cons rfl (Sub.cons rfl (Sub.cons rfl (Sub.cons rfl (Sub.cons rfl (Sub.cons rfl (Sub.cons rfl (Sub.nil _))))))))))
                · exact ⟨rfl, by simp only []; rw [← i1, Nat.sub_mul]; have := Nat.mul_le_mul_right y1 hq1; omega, by simp only []; omega, by simp only []; omega, by simp only []; omega⟩
                · simp only []; omega
            · refine run ?_
              apply cut_normal ((v * 4294967296 + d0) / Y, (v * 4294967296 + d0) % Y)
              · exact (Sub.cons rfl (Sub.cons rfl (Sub.cons rfl (Sub.cons rfl (Sub.cons rfl (Sub.cons rfl (Sub.cons rfl (Sub.consE rfl (by rw [← Num.digit_eq hYd' hy0B i1 i2 (by omega) (by omega)]) (Sub.nil _)))))))))
              · exact ⟨rfl, rfl, rfl⟩
      · rintro ⟨q0, _⟩ _ ⟨rfl, e3, -⟩
        dsimp only at e3 ⊢
        rw [← e3] at hqB2
        clear hqm hqm' hgle hgge hrem
        obtain ⟨r, e4⟩ : ∃ r, r = (v * 4294967296 + d0) % Y := ⟨_, rfl⟩
        have hrY : r < Y := by rw [e4]; exact Nat.mod_lt _ (by omega)
        have hdm := Num.dm e3 e4
        obtain ⟨f1, f2⟩ := Num.two_end (by omega) hed' e1 e2 e3 e4
        rw [f1, f2]
        have hw : ((v * 4294967296 % 18446744073709551616 + d0) % 18446744073709551616 + (18446744073709551616 - q0 * Y % 18446744073709551616)) % 18446744073709551616 = r := Num.rest_wrap hdm (Nat.lt_trans hrY hhi64)
        have hm1 : q0 * Y % 18446744073709551616 ≤ 18446744073709551616 := Nat.le_of_lt (Num.modW _)
        clear f1 f2 hdm e1 e2 e3 e4
        refine runS ?_
        (apply s_mulU; (first | exact isK_c | exact isK_t rfl); (first | exact isK_c | exact isK_t rfl); exact rfl; omega)
        refine runS ?_
        (apply s_addU; (first | exact isK_c | exact isK_t rfl); (first | exact isK_c | exact isK_t rfl); exact rfl; omega)
        refine runS ?_
        (apply s_mulUw; (first | exact isK_c | exact isK_t rfl); (first | exact isK_c | exact isK_t rfl); exact rfl)
        refine runS ?_
        (apply s_addUw; (first | exact isK_c | exact isK_t rfl); (first | exact isK_c | exact isK_t rfl); exact rfl)
        refine runS ?_
        (apply s_mulUw; (first | exact isK_c | exact isK_t rfl); (first | exact isK_c | exact isK_t rfl); exact rfl)
        refine runS ?_
        (apply s_subUw; (first | exact isK_c | exact isK_t rfl); (first | exact isK_c | exact isK_t rfl); exact rfl; omega)
        rw [hw]
        refine run ?_
        exact fin2 rfl rfl rfl ⟨rfl, rfl⟩
end Go.Proofs.YtfgfmempmkjlnaaDoor
