/- Texts DenG to DenG of this work, joined: each says in its own head what it proves, and of which condition. -/
import Derived.Test.YtbhhagdnbkkjpaaDoorMPr5
/- Own calculus, part G: variables in memory: structs, their fields, function values. No condition. -/
namespace Go.Den
set_option linter.unusedVariables false
set_option maxRecDepth 8000
open Go Go.RowKit

/-- p points to a variable of its own block: its cells are cs. -/
def Var (h : Hp) (p : Value) (e : TypeId) (cs : List Value) : Prop := ∃ g, p = .pointer (some ⟨g, 0, none⟩) ∧ h[g]? = some (.cells cs.toArray e (0, 0))
/-- The block that a pointer names. -/
def pblk : Value → Option Nat
  | .pointer (some a) => some a.block
  | _ => none
/-- The pointer so many cells further. -/
def ptrOff : Value → Nat → Value
  | .pointer (some a), k => .pointer (some (a.add k))
  | _, _ => undef
def isPtr : Value → Bool
  | .pointer (some _) => true
  | _ => false

section
variable {h h' : Hp} {p : Value} {e : TypeId} {cs : List Value}
theorem Var.ptr (s : Var h p e cs) : isPtr p = true := by obtain ⟨g, rfl, -⟩ := s; rfl
theorem Var.one (s : Var h p e cs) : p.oneCell' = true := by obtain ⟨g, rfl, -⟩ := s; rfl
theorem Var.only {r : Option Nat} (s : Var h p e cs) (k : Only r h h') (hne : pblk p ≠ r) : Var h' p e cs := by
  obtain ⟨g, rfl, hg⟩ := s
  exact ⟨g, rfl, by rw [k.2 g (Array.getElem?_eq_some_iff.1 hg).1 hne]; exact hg⟩
theorem Var.ext (s : Var h p e cs) (k : Ext h h') : Var h' p e cs := s.only (k.only none) (by obtain ⟨g, rfl, -⟩ := s; simp [pblk])
theorem Var.blk (s : Var h p e cs) : ∃ k, pblk p = some k ∧ k < h.size := by
  obtain ⟨g, rfl, hg⟩ := s
  exact ⟨g, rfl, (Array.getElem?_eq_some_iff.1 hg).1⟩
theorem Var.cell (s : Var h p e cs) {off : Nat} {u : Value} (hu : cs[off]? = some u) : ∃ g, p = .pointer (some ⟨g, 0, none⟩) ∧ cellH h g off = some u := by
  obtain ⟨g, rfl, hg⟩ := s
  exact ⟨g, rfl, by simp [cellH, hg, hu]⟩
/-- A variable made later is another one. -/
theorem Var.ne_new (s : Var h p e cs) {q : Value} {k : Nat} (hq : pblk q = some k) (hk : h.size ≤ k) : pblk p ≠ pblk q := by
  obtain ⟨j, hj, hlt⟩ := s.blk
  rw [hj, hq]; intro e; cases e; omega
end

theorem OwnF.neV {α : Type} {f : α → Value} {h : Hp} {B k : Nat} {e : TypeId} {v p : Value} {xs : List α} (o : OwnF h B e f v xs) (hp : pblk p = some k) (hk : k < B) : v.ownBlock = none ∨ v.ownBlock ≠ pblk p := by
  cases hv : v.ownBlock with
  | none => exact .inl rfl
  | some j =>
    refine .inr fun e => ?_
    have := (OwnF.blk o j hv).1
    rw [hp] at e; cases e; omega
theorem SlF.neV {α : Type} {f : α → Value} {h : Hp} {k : Nat} {v p : Value} {xs : List α} (hv : ∀ j, v.ownBlock = some j → j < h.size) (hp : pblk p = some k) (hk : h.size ≤ k) : v.ownBlock = none ∨ v.ownBlock ≠ pblk p := by
  cases hb : v.ownBlock with
  | none => exact .inl rfl
  | some j =>
    refine .inr fun e => ?_
    have := hv j hb
    rw [hp] at e; cases e; omega
theorem Only.oldV {h0 h h' : Hp} {p : Value} {k : Nat} (o : Only (pblk p) h h') (e : Ext h0 h) (hp : pblk p = some k) (hk : h0.size ≤ k) : Ext h0 h' := o.old e fun j hj => by rw [hp] at hj; cases hj; exact hk

def fieldOff (P : Program) (s : TypeId) (f : Nat) : Option Nat := match P.underlying s with
  | some (.struct fs) => match fs[f]? with
    | some fd => match P.info? fd.type with
      | some i => if i.size = 0 then none else some fd.offset
      | none => none
    | none => none
  | _ => none

theorem run_fieldAt {P : Program} {s : TypeId} {f off : Nat} {p : Value} {w : World} (ho : fieldOff P s f = some off) (hp : isPtr p = true) : (Instr.fieldAt s p f).run P w = .ok (ptrOff p off) w := by
  unfold fieldOff at ho
  cases hu : P.underlying s with
  | none => rw [hu] at ho; cases ho
  | some d =>
    rw [hu] at ho
    cases d <;> simp only at ho <;> try cases ho
    rename_i fs
    cases hf : fs[f]? with
    | none => rw [hf] at ho; cases ho
    | some fd =>
      rw [hf] at ho
      simp only at ho
      cases hi : P.info? fd.type with
      | none => rw [hi] at ho; cases ho
      | some i =>
        rw [hi] at ho
        simp only at ho
        split at ho
        · cases ho
        · rename_i hz
          cases ho
          cases p <;> try cases hp
          rename_i a
          cases a with
          | none => cases hp
          | some a => simp [Instr.fieldAt, run_underlying hu, hf, Instr.sureAddr, fieldPlace, sizeOf, typeInfo, hi, hz, ptrOff]

def fieldPlain (P : Program) (s : TypeId) (f : Nat) : Bool := match P.underlying s with
  | some (.struct fs) => match fs[f]? with
    | some fd => plainTy P fd.type
    | none => false
  | _ => false
theorem run_field {P : Program} {s : TypeId} {f off : Nat} {cs : List Value} {u : Value} {w : World} (ho : fieldOff P s f = some off) (ht : fieldPlain P s f = true) (hj : cs[off]? = some u) : (Instr.field s (.agg cs.toArray) f).run P w = .ok u w := by
  unfold fieldOff at ho
  unfold fieldPlain at ht
  cases hu : P.underlying s with
  | none => rw [hu] at ho; cases ho
  | some d =>
    rw [hu] at ho ht
    cases d <;> simp only at ho ht <;> try cases ho
    rename_i fs
    cases hf : fs[f]? with
    | none => rw [hf] at ho; cases ho
    | some fd =>
      rw [hf] at ho ht
      simp only at ho ht
      cases hi : P.info? fd.type with
      | none => rw [hi] at ho; cases ho
      | some i =>
        rw [hi] at ho
        simp only at ho
        split at ho
        · cases ho
        · cases ho
          simp [Instr.field, run_underlying hu, hf, part, run_isAgg_plain ht, asAgg, hj]
def aggTy (P : Program) (t : TypeId) : Bool := match P.underlying t with
  | some (.struct _) | some (.array _ _) => true
  | _ => false
theorem run_isAgg_agg {P : Program} {t : TypeId} (ht : aggTy P t = true) (w : World) : (isAgg t).run P w = .ok true w := by
  unfold aggTy at ht
  cases hu : P.underlying t with
  | none => rw [hu] at ht; cases ht
  | some d =>
    rw [hu] at ht
    unfold isAgg
    rw [Sem.run_bind, run_underlying hu w]
    cases d <;> first | rfl | cases ht

theorem run_loadAgg {P : Program} {t : TypeId} {a : Addr} {w : World} {ds : List Value} (ht : aggTy P t = true) (hz : (P.info? t).map (·.size) = some ds.length) (hc : ∀ j u, ds[j]? = some u → w.cell? (a.add j) = some u) : (loadVar t a).run P w = .ok (.agg ds.toArray) w := by
  cases hi : P.info? t with
  | none => rw [hi] at hz; cases hz
  | some i =>
    rw [hi] at hz
    simp only [Option.map_some, Option.some.injEq] at hz
    unfold loadVar
    rw [Sem.run_bind, run_isAgg_agg ht w]
    simp [sizeOf, typeInfo, hi, hz, run_loadCells_list w a ds hc]

/-- The cells that a build writes, part by part. -/
def fillL (offs : List (Nat × Nat)) : List Value → List (Nat × List Value) → Option (List Value)
  | cells, [] => some cells
  | cells, (i, us) :: rest => match offs[i]? with
    | none => none
    | some (off, size) => bif Nat.beq us.length size && Nat.ble (off + us.length) cells.length then fillL offs (cells.take off ++ us ++ cells.drop (off + us.length)) rest else none

theorem fold_set : ∀ (us : List Value) (off j : Nat) (cells : List Value), off + j + us.length ≤ cells.length →
    ((us.zipIdx j).foldl (fun (cs : Array Value) (x : Value × Nat) => cs.setIfInBounds (off + x.2) x.1) cells.toArray).toList = cells.take (off + j) ++ us ++ cells.drop (off + j + us.length)
  | [], off, j, cells, _ => by simp
  | u :: us, off, j, cells, hl => by
    simp only [List.length_cons] at hl
    simp only [List.zipIdx_cons, List.foldl_cons]
    have e : (cells.toArray.setIfInBounds (off + j) u) = (cells.set (off + j) u).toArray := by apply Array.ext'; simp
    rw [e, fold_set us off (j + 1) (cells.set (off + j) u) (by simp; omega)]
    rw [List.take_set, List.drop_set_of_lt (by omega), ← Nat.add_assoc, show off + j + 1 + us.length = off + j + (us.length + 1) by omega, List.length_cons]
    rw [List.take_succ_eq_append_getElem (by omega), List.set_append_right _ _ (by simp; omega)]
    simp [Nat.min_eq_left (show off + j ≤ cells.length by omega)]

theorem fill_fillL {offs : List (Nat × Nat)} {place : Nat → Option (Nat × Nat)} (hp : ∀ i, place i = offs[i]?) : ∀ (parts : List (Nat × Value)) (cells cs : List Value), fillL offs cells (parts.map fun x => (x.1, x.2.cells.toList)) = some cs → Instr.fill place cells.toArray parts = some cs.toArray
  | [], cells, cs, e => by simp [fillL] at e; simp [Instr.fill, e]
  | (i, v) :: rest, cells, cs, e => by
    simp only [List.map_cons, fillL] at e
    simp only [Instr.fill, hp]
    cases ho : offs[i]? with
    | none => rw [ho] at e; cases e
    | some p =>
      obtain ⟨off, size⟩ := p
      rw [ho] at e
      simp only at e
      cases hb : (Nat.beq v.cells.toList.length size && Nat.ble (off + v.cells.toList.length) cells.length) with
      | false => rw [hb] at e; cases e
      | true =>
        rw [hb] at e
        simp only [cond_true] at e
        simp only [Bool.and_eq_true] at hb
        have h1 := Nat.eq_of_beq_eq_true hb.1
        have h2 := Nat.le_of_ble_eq_true hb.2
        simp only [Array.length_toList] at h1 h2
        have h3 : ¬ (v.cells.size ≠ size ∨ off + v.cells.size > cells.toArray.size) := by simp [h1] at h2 ⊢; omega
        simp only [decide_eq_true_eq, Bool.or_eq_true, h3, if_false]
        have hf := fold_set v.cells.toList off 0 cells (by simpa using h2)
        simp only [Nat.add_zero, Array.length_toList] at hf
        have hz : v.cells.zipIdx = (v.cells.toList.zipIdx 0).toArray := by apply Array.ext'; simp
        have hfold : Array.foldl (fun cs x => cs.setIfInBounds (off + x.snd) x.fst) cells.toArray v.cells.zipIdx = (cells.take off ++ v.cells.toList ++ cells.drop (off + v.cells.size)).toArray := by
          apply Array.ext'
          rw [hz, List.foldl_toArray]
          exact hf
        rw [hfold]
        exact fill_fillL hp rest _ _ (by simpa using e)

def placesOf (P : Program) (t : TypeId) : Option (List (Nat × Nat)) := match P.underlying t with
  | some (.struct fs) => fs.toList.mapM fun f => (P.info? f.type).map fun i => (f.offset, i.size)
  | _ => none

theorem sem_mapM_places {P : Program} {w : World} : ∀ (fs : List Field) (offs : List (Nat × Nat)), (fs.mapM fun f => (P.info? f.type).map fun i => (f.offset, i.size)) = some offs →
    (fs.mapM (fun f => do pure (f.offset, ← sizeOf f.type) : Field → Sem (Nat × Nat))).run P w = .ok offs w
  | [], offs, e => by simp at e; subst e; simp
  | f :: fs, offs, e => by
    rw [List.mapM_cons] at e
    cases hi : P.info? f.type with
    | none => rw [hi] at e; cases e
    | some i =>
      rw [hi] at e
      simp only [Option.map_some, Option.bind_eq_bind, Option.bind_some] at e
      cases hr : (fs.mapM fun f => (P.info? f.type).map fun i => (f.offset, i.size)) with
      | none => rw [hr] at e; cases e
      | some rs =>
        rw [hr] at e
        simp only [Option.bind_some, Option.pure_def, Option.some.injEq] at e
        subst e
        have h1 : (do pure (f.offset, ← sizeOf f.type) : Sem (Nat × Nat)).run P w = .ok (f.offset, i.size) w := by simp [sizeOf, typeInfo, hi]
        rw [List.mapM_cons, Sem.run_bind, h1, Result.andThen_ok, Sem.run_bind, sem_mapM_places fs rs hr]; rfl

theorem run_build {P : Program} {t : TypeId} {w : World} {z : Value} {i : TypeInfo} {offs : List (Nat × Nat)} {parts : List (Nat × Value)} {cs : List Value} (ho : placesOf P t = some offs) (hi : P.info? t = some i) (hz : i.zero = some z)
    (hc : fillL offs z.cells.toList (parts.map fun x => (x.1, x.2.cells.toList)) = some cs) : (Instr.build t parts.toArray).run P w = .ok (.agg cs.toArray) w := by
  unfold placesOf at ho
  cases hu : P.underlying t with
  | none => rw [hu] at ho; cases ho
  | some d =>
    rw [hu] at ho
    cases d <;> simp only at ho <;> try cases ho
    rename_i fs
    have hm := sem_mapM_places (P := P) (w := w) _ _ ho
    have hma : (fs.mapM (fun f => do pure (f.offset, ← sizeOf f.type) : Field → Sem (Nat × Nat))).run P w = .ok offs.toArray w := by
      rw [Array.mapM_eq_mapM_toList, ← bind_pure_comp, Sem.run_bind, hm]; rfl
    have hf := fill_fillL (place := fun x => offs.toArray[x]?) (by simp) parts _ _ hc
    have hz' : (zeroValue t).run P w = .ok z w := by simp [zeroValue, typeInfo, hi, hz]
    unfold Instr.build
    simp only [Sem.run_bind, hz', Result.andThen_ok, run_underlying hu w, hma]
    have e : z.cells.toList.toArray = z.cells := by simp
    rw [e] at hf
    simp only [hf]
    rfl

/-- The cells of a value that a build takes. -/
inductive CellsAll : List Value → List (List Value) → Prop where
  | nil : CellsAll [] []
  | cons {v : Value} {c : List Value} {vs : List Value} {cs : List (List Value)} : v.cells.toList = c → CellsAll vs cs → CellsAll (v :: vs) (c :: cs)
theorem CellsAll.eq : ∀ {vs : List Value} {cs : List (List Value)}, CellsAll vs cs → vs.map (fun v => v.cells.toList) = cs
  | _, _, .nil => rfl
  | _, _, .cons h k => by rw [List.map_cons, h, k.eq]
theorem oneL {u : Value} (h1 : u.oneCell' = true) : u.cells.toList = [u] := by rw [cells_one h1]

inductive OneAll : List Value → Prop where
  | nil : OneAll []
  | cons {v : Value} {vs : List Value} : v.oneCell' = true → OneAll vs → OneAll (v :: vs)
theorem OneAll.all : ∀ {vs : List Value}, OneAll vs → ∀ x ∈ vs, x.oneCell' = true
  | _, .nil => fun x hx => by cases hx
  | _, .cons h k => fun x hx => by
    rcases List.mem_cons.1 hx with rfl | hx
    · exact h
    · exact k.all x hx
theorem run_box {P : Program} {w : World} {t : TypeId} {v : Value} : (Instr.box t v).run P w = .ok (.pointer (some ⟨w.heap.size, 0, none⟩)) (w.alloc (.cells v.cells t)) := by
  simp [Instr.box, newVar, newRow]
theorem run_allocV {P : Program} {w : World} {t : TypeId} {i : TypeInfo} {z : Value} (hi : P.info? t = some i) (hz : i.zero = some z) : (Instr.alloc t true (.tuple #[])).run P w = .ok (.pointer (some ⟨w.heap.size, 0, none⟩)) (w.alloc (.cells z.cells t)) := by
  simp [Instr.alloc, zeroValue, typeInfo, hi, hz, newVar, newRow]

theorem run_storeVar {P : Program} {w : World} {t e : TypeId} {g off : Nat} {cs : List Value} {u : Value} (hg : w.heap[g]? = some (.cells cs.toArray e (0, 0))) (ht : (P.info? t).map (·.size) = some u.cells.size) (h1 : ∀ x ∈ u.cells.toList, x.oneCell' = true) (hl : off + u.cells.size ≤ cs.length) :
    (storeVar t ⟨g, off, none⟩ u).run P w = .ok () (w.setRow g (cs.take off ++ u.cells.toList ++ cs.drop (off + u.cells.size)).toArray) := by
  cases hi : P.info? t with
  | none => rw [hi] at ht; cases ht
  | some i =>
    rw [hi] at ht
    simp only [Option.map_some, Option.some.injEq] at ht
    have := run_storeCells_at P g off e u.cells.toList 0 cs.toArray w hg (by simpa using hl) h1
    simp only [Nat.add_zero, Array.length_toList] at this
    simp [storeVar, sizeOf, typeInfo, hi, ht, this]

section rules
variable {P : Program} {n : Nat} {Q : Post} {l : Fr} {h : Hp} {ops : List Oper} {Ch : Hp → Prop} {E : Nat → Bool} {i : Nat}
variable {d : Nat} {t : TypeId} {x y z : Operand}

theorem rd_varP {i : Nat} {h : Hp} {p : Value} {e : TypeId} {cs : List Value} (hp : Var h p e cs) : Rd (fun _ => True) (fun _ => true) i h (fun h' => Var h' p e cs) := ⟨.inl ⟨rfl, trivial, hp⟩⟩
theorem rd_varX {E : Nat → Bool} {i : Nat} {h h0 : Hp} {p : Value} {e : TypeId} {cs : List Value} (hp : Var h0 p e cs) : Rd (Ext h0) E i h (fun h' => Var h' p e cs) := ⟨.inr fun _ k => hp.ext k⟩
theorem rd_varO {E : Nat → Bool} {i : Nat} {h h0 : Hp} {r : Option Nat} {p : Value} {e : TypeId} {cs : List Value} (hp : Var h0 p e cs) (hne : pblk p ≠ r) : Rd (Only r h0) E i h (fun h' => Var h' p e cs) := ⟨.inr fun _ k => hp.only k hne⟩

theorem s_field {f off : Nat} {p : Value} (hx : ev l x = some p) (ho : fieldOff P t f = some off) (hp : isPtr p = true) (hb : Nat.blt d n = true)
    (k : S P n ops Ch E Q (i + 1) ((d, ptrOff p off) :: l) h) : O P n ops Ch E Q i d (.fieldAddr t x f) l h :=
  s_pure hb (fun a w' hf => by simp only [execOp, hf.ev hx, Sem.run_bind, run_fieldAt ho hp]; rfl) k

theorem s_loadc {p u : Value} {e : TypeId} {off : Nat} {cs : List Value} (hx : ev l x = some (ptrOff p off)) (ht : plainTy P t = true) (hs : Rd Ch E i h (fun h' => Var h' p e cs)) (hb : Nat.blt d n = true) (hj : nth cs off = some u)
    (k : S P n ops Ch E Q (i + 1) ((d, u) :: l) h) : O P n ops Ch E Q i d (.load t x) l h :=
  s_read hb _ hs (fun a w' hf hs => by
    rw [nth_eq] at hj
    obtain ⟨g, rfl, hc⟩ := hs.cell hj
    have hl := run_load1 (P := P) (t := t) (a := (⟨g, 0, none⟩ : Addr).add off) (w := w') ht (by rw [Addr.add_lit, cell?_cellH, Nat.zero_add]; exact hc)
    simp only [execOp, hf.ev hx, ptrOff, Sem.run_bind, hl]; rfl) k
theorem s_load1 {p u : Value} {e : TypeId} (hx : ev l x = some p) (ht : plainTy P t = true) (hs : Rd Ch E i h (fun h' => Var h' p e [u])) (hb : Nat.blt d n = true)
    (k : S P n ops Ch E Q (i + 1) ((d, u) :: l) h) : O P n ops Ch E Q i d (.load t x) l h :=
  s_read hb _ hs (fun a w' hf hs => by
    obtain ⟨g, rfl, hc⟩ := hs.cell (off := 0) (u := u) rfl
    have hl := run_load1 (P := P) (t := t) (a := (⟨g, 0, none⟩ : Addr)) (w := w') ht (by rw [cell?_cellH]; exact hc)
    simp only [execOp, hf.ev hx, Sem.run_bind, hl]; rfl) k
theorem s_loadV {p : Value} {e : TypeId} {cs : List Value} (hx : ev l x = some p) (ht : aggTy P t = true) (hs : Rd Ch E i h (fun h' => Var h' p e cs)) (hz : (P.info? t).map (·.size) = some cs.length) (hb : Nat.blt d n = true)
    (k : S P n ops Ch E Q (i + 1) ((d, .agg cs.toArray) :: l) h) : O P n ops Ch E Q i d (.load t x) l h :=
  s_read hb _ hs (fun a w' hf hs => by
    obtain ⟨g, rfl, hg⟩ := hs
    have hl := run_loadAgg (P := P) (t := t) (a := ⟨g, 0, none⟩) (w := w') (ds := cs) ht hz (fun j u hu => by rw [Addr.add_lit, cell?_cellH, Nat.zero_add]; simp [cellH, hg, hu])
    simp only [execOp, hf.ev hx, Instr.loadAt, Instr.sureAddr, Sem.run_bind, Sem.run_pure, Result.andThen_ok, hl]) k
theorem s_loadA {p : Value} {e : TypeId} {off : Nat} {cs : List Value} (ds : List Value) (hx : ev l x = some (ptrOff p off)) (ht : aggTy P t = true) (hs : Rd Ch E i h (fun h' => Var h' p e cs)) (hd : (cs.drop off).take ds.length = ds) (hz : (P.info? t).map (·.size) = some ds.length) (hb : Nat.blt d n = true)
    (k : S P n ops Ch E Q (i + 1) ((d, .agg ds.toArray) :: l) h) : O P n ops Ch E Q i d (.load t x) l h :=
  s_read hb _ hs (fun a w' hf hs => by
    obtain ⟨g, rfl, hg⟩ := hs
    have hl := run_loadAgg (P := P) (t := t) (a := (⟨g, 0, none⟩ : Addr).add off) (w := w') (ds := ds) ht hz (fun j u hu => by
      rw [Addr.add_lit, Addr.add_lit, cell?_cellH, Nat.zero_add]
      have : cs[off + j]? = some u := by
        rw [← hd, List.getElem?_take] at hu
        split at hu
        · rwa [List.getElem?_drop] at hu
        · cases hu
      simp [cellH, hg, this])
    simp only [execOp, hf.ev hx, ptrOff, Instr.loadAt, Instr.sureAddr, Sem.run_bind, Sem.run_pure, Result.andThen_ok, hl]) k

theorem s_box {v : Value} {cs : List Value} (hx : ev l x = some v) (hc : v.cells.toList = cs) (hE : E i = true) (hb : Nat.blt d n = true)
    (k : ∀ p h', Var h' p t cs → Ext h h' → pblk p = some h.size → Ch h' ∧ S P n ops Ch E Q (i + 1) ((d, p) :: l) h') : O P n ops Ch E Q i d (.box t x) l h :=
  O.mk fun hop hg => s_eff hop hE hg fun a w hf hw => by
    subst hw
    have hv : Var (w.alloc (.cells v.cells t)).heap (.pointer (some ⟨w.heap.size, 0, none⟩)) t cs := ⟨w.heap.size, rfl, by rw [← hc, Array.toArray_toList]; exact heap_alloc_new w _⟩
    have := k _ _ hv (Ext.push _ _) rfl
    unfold Eff
    simp only [execOp, hf.ev hx, Sem.run_bind, run_box]
    exact ⟨⟨rfl, rfl, rfl⟩, this.1, _, hf.put d _ hb, this.2⟩
theorem s_alloc {cs : List Value} (hi : (P.info? t).bind (fun i => i.zero.map fun z => z.cells.toList) = some cs) (hE : E i = true) (hb : Nat.blt d n = true)
    (k : ∀ p h', Var h' p t cs → Ext h h' → pblk p = some h.size → Ch h' ∧ S P n ops Ch E Q (i + 1) ((d, p) :: l) h') : O P n ops Ch E Q i d (.alloc t) l h :=
  O.mk fun hop hg => s_eff hop hE hg fun a w hf hw => by
    subst hw
    cases hq : P.info? t with
    | none => rw [hq] at hi; cases hi
    | some inf =>
      rw [hq] at hi
      simp only [Option.bind_some] at hi
      cases hz : inf.zero with
      | none => rw [hz] at hi; cases hi
      | some z =>
        rw [hz] at hi
        simp only [Option.map_some, Option.some.injEq] at hi
        have hv : Var (w.alloc (.cells z.cells t)).heap (.pointer (some ⟨w.heap.size, 0, none⟩)) t cs := ⟨w.heap.size, rfl, by rw [← hi, Array.toArray_toList]; exact heap_alloc_new w _⟩
        have := k _ _ hv (Ext.push _ _) rfl
        unfold Eff
        simp only [execOp, Sem.run_bind, run_allocV hq hz]
        exact ⟨⟨rfl, rfl, rfl⟩, this.1, _, hf.put d _ hb, this.2⟩

/-- A store into a variable: the whole of it, or a part of it from a cell on. -/
theorem s_storeP {p u : Value} {e : TypeId} {off : Nat} {cs us : List Value} (hx : ev l x = some (ptrOff p off)) (hy : ev l y = some u) (hu : u.cells.toList = us) (h1 : OneAll us) (ht : (P.info? t).map (·.size) = some us.length) (hE : E i = true) (hv : Var h p e cs) (hl : Nat.ble (off + us.length) cs.length = true)
    (k : ∀ h', Var h' p e (cs.take off ++ us ++ cs.drop (off + us.length)) → Only (pblk p) h h' → Ch h' ∧ S P n ops Ch E Q (i + 1) l h') : O0 P n ops Ch E Q i (.store t x y) l h :=
  O0.mk fun hop hg => s_eff hop hE hg fun a w hf hw => by
    subst hw
    obtain ⟨g, rfl, hgc⟩ := hv
    have hus : u.cells.size = us.length := by rw [← hu]; simp
    have hr := run_storeVar (P := P) (w := w) (t := t) (off := off) (u := u) hgc (by rw [hus]; exact ht) (by rw [hu]; exact h1.all) (by rw [hus]; exact Nat.le_of_ble_eq_true hl)
    rw [hu, hus] at hr
    have hg' := setRow_heap w g cs.toArray (cs.take off ++ us ++ cs.drop (off + us.length)).toArray e _ hgc
    have := k _ ⟨g, rfl, hg'⟩ ⟨by simp, fun j _ hj => setRow_other w g j _ (fun q => hj (by simp [pblk, q]))⟩
    unfold Eff
    simp only [execOp, hf.ev hx, hf.ev hy, ptrOff, Addr.add_lit, Nat.zero_add, Instr.storeAt, Instr.sureAddr, Sem.run_bind, Sem.run_pure, Result.andThen_ok, hr]
    exact ⟨⟨rfl, rfl, rfl⟩, this.1, _, hf.putNone _, this.2⟩
theorem ptrOff_zero {p : Value} {h : Hp} {e : TypeId} {cs : List Value} (hv : Var h p e cs) : ptrOff p 0 = p := by
  obtain ⟨g, rfl, -⟩ := hv
  simp [ptrOff, Addr.add_lit]
theorem s_storeV {p u : Value} {e : TypeId} {cs us : List Value} (hx : ev l x = some p) (hy : ev l y = some u) (hu : u.cells.toList = us) (h1 : OneAll us) (ht : (P.info? t).map (·.size) = some us.length) (hE : E i = true) (hv : Var h p e cs) (hl : us.length = cs.length)
    (k : ∀ h', Var h' p e us → Only (pblk p) h h' → Ch h' ∧ S P n ops Ch E Q (i + 1) l h') : O0 P n ops Ch E Q i (.store t x y) l h :=
  s_storeP (off := 0) (by rw [ptrOff_zero hv]; exact hx) hy hu h1 ht hE hv (by simp [hl]) fun h' g1 g2 => k h' (by
    rw [List.take_zero, List.nil_append, Nat.zero_add, hl, List.drop_of_length_le (Nat.le_refl _), List.append_nil] at g1; exact g1) g2
/-- One cell of a variable. -/
theorem s_storeC {p u : Value} {e : TypeId} {off : Nat} {cs : List Value} (hx : ev l x = some (ptrOff p off)) (hy : ev l y = some u) (h1 : u.oneCell' = true) (ht : (P.info? t).map (·.size) = some 1) (hE : E i = true) (hv : Var h p e cs) (hl : Nat.blt off cs.length = true)
    (k : ∀ h', Var h' p e (cs.set off u) → Only (pblk p) h h' → Ch h' ∧ S P n ops Ch E Q (i + 1) l h') : O0 P n ops Ch E Q i (.store t x y) l h :=
  s_storeP hx hy (oneL h1) (.cons h1 .nil) ht hE hv (Nat.ble_eq_true_of_le (Nat.le_of_ble_eq_true hl)) fun h' g1 g2 => k h' (by
    have hlt : off < cs.length := Nat.le_of_ble_eq_true hl
    rw [List.length_singleton, set_seg _ _ _ hlt] at g1; exact g1) g2

theorem s_build {parts : Array (Nat × Operand)} {vs : List Value} {css : List (List Value)} {offs : List (Nat × Nat)} (cs : List Value) (he : evs l (parts.toList.map (·.2)) = some vs) (ho : placesOf P t = some offs) {zs : List Value} (hi : (P.info? t).bind (fun i => i.zero.map fun z => z.cells.toList) = some zs)
    (hc : CellsAll vs css) (hcs : fillL offs zs ((parts.toList.map (·.1)).zip css) = some cs) (hb : Nat.blt d n = true)
    (k : S P n ops Ch E Q (i + 1) ((d, .agg cs.toArray) :: l) h) : O P n ops Ch E Q i d (.build t parts) l h :=
  s_pure hb (fun a w' hf => by
    cases hq : P.info? t with
    | none => rw [hq] at hi; cases hi
    | some inf =>
      rw [hq] at hi
      simp only [Option.bind_some] at hi
      cases hz : inf.zero with
      | none => rw [hz] at hi; cases hi
      | some z =>
        rw [hz] at hi
        simp only [Option.map_some, Option.some.injEq] at hi
        have hpa : (parts.map fun (i, x) => (i, a.eval x)) = ((parts.toList.map (·.1)).zip vs).toArray := by
          apply Array.ext'
          rw [← hf.evs he, Array.toList_map, List.map_map, List.zip_map']; rfl
        have hzip : ∀ (is : List Nat) (vs : List Value), (is.zip vs).map (fun x => (x.1, x.2.cells.toList)) = is.zip (vs.map fun v => v.cells.toList) := fun is vs => by
          rw [List.zip_map_right]; rfl
        have := run_build (P := P) (t := t) (w := w') (z := z) (parts := (parts.toList.map (·.1)).zip vs) ho hq hz (by rw [hi, hzip, hc.eq]; exact hcs)
        simp only [execOp, hpa, Sem.run_bind, this]; rfl) k

theorem s_eqB {a b : Bool} {yt : TypeId} (hx : ev l x = some (.bool a)) (hy : ev l y = some (.bool b)) (ht : P.underlying t = some .bool) (hb : Nat.blt d n = true)
    (k : S P n ops Ch E Q (i + 1) ((d, .bool (decide (a = b))) :: l) h) : O P n ops Ch E Q i d (.binOp .eql t x y yt) l h :=
  s_bin hx hy hb (fun w' => by
    rw [Sem.run_bind]
    have h1 : (eqGuard .eql t x y (.bool a) (.bool b)).run P w' = .ok () w' := rfl
    rw [h1, Result.andThen_ok, run_eql_bool w' t a b ht]
    congr 2) k
theorem s_neB {a b : Bool} {yt : TypeId} (hx : ev l x = some (.bool a)) (hy : ev l y = some (.bool b)) (ht : P.underlying t = some .bool) (hb : Nat.blt d n = true)
    (k : S P n ops Ch E Q (i + 1) ((d, .bool (decide (a ≠ b))) :: l) h) : O P n ops Ch E Q i d (.binOp .neq t x y yt) l h :=
  s_bin hx hy hb (fun w' => by
    rw [Sem.run_bind]
    have h1 : (eqGuard .neq t x y (.bool a) (.bool b)).run P w' = .ok () w' := rfl
    rw [h1, Result.andThen_ok, run_neq_bool w' t a b ht]
    cases a <;> cases b <;> rfl) k
/-- Is a pointer nil? -/
theorem s_eqNil {p : Value} {yt : TypeId} (hx : ev l x = some p) (hy : ev l y = some (.pointer none)) (hp : isPtr p = true) (ht : P.underlying t = some (.pointer (P.pointee t))) (hb : Nat.blt d n = true)
    (k : S P n ops Ch E Q (i + 1) ((d, .bool false) :: l) h) : O P n ops Ch E Q i d (.binOp .eql t x y yt) l h :=
  s_bin hx hy hb (fun w' => by
    cases p <;> first | cases hp | skip
    rename_i a
    cases a with
    | none => cases hp
    | some a =>
      rw [Sem.run_bind]
      have h1 : (eqGuard .eql t x y (.pointer (some a)) (.pointer none)).run P w' = .ok () w' := rfl
      rw [h1, Result.andThen_ok, run_eql_pointer_nil w' t _ ht]; rfl) k
theorem s_eqNil0 {yt : TypeId} (hx : ev l x = some (.pointer none)) (hy : ev l y = some (.pointer none)) (ht : P.underlying t = some (.pointer (P.pointee t))) (hb : Nat.blt d n = true)
    (k : S P n ops Ch E Q (i + 1) ((d, .bool true) :: l) h) : O P n ops Ch E Q i d (.binOp .eql t x y yt) l h :=
  s_bin hx hy hb (fun w' => by
    rw [Sem.run_bind]
    have h1 : (eqGuard .eql t x y (.pointer none) (.pointer none)).run P w' = .ok () w' := rfl
    rw [h1, Result.andThen_ok, run_eql_pointer_nil w' t _ ht]; rfl) k
theorem s_splitGB {o : Oper} {j t : Nat} {want : Bool} {b : Bool} (ho : opAt ops i = some o) (hg : o.guard = some (j, want)) (hj : (ops[j]?).bind (·.dst) = some t) (e : look l t = some (.bool b))
    (ht : b = true → S P n ops Ch E Q i ((t, .bool true) :: l) h) (hf : b = false → S P n ops Ch E Q i ((t, .bool false) :: l) h) : S P n ops Ch E Q i l h := by
  cases b with
  | true => exact s_know e rfl (ht rfl)
  | false => exact s_know e rfl (hf rfl)
theorem s_field2 {f off : Nat} {cs : List Value} {u : Value} (hx : ev l x = some (.agg cs.toArray)) (ho : fieldOff P t f = some off) (ht : fieldPlain P t f = true) (hj : nth cs off = some u) (hb : Nat.blt d n = true)
    (k : S P n ops Ch E Q (i + 1) ((d, u) :: l) h) : O P n ops Ch E Q i d (.field t x f) l h :=
  s_pure hb (fun a w' hf => by
    rw [nth_eq] at hj
    simp only [execOp, hf.ev hx, Sem.run_bind, run_field ho ht hj]; rfl) k
theorem mix_mono {ops : Array Oper} {C : World → Prop} {E : Nat → Bool} {Q Q' : Act → World → Prop} (hq : ∀ a w, Q a w → Q' a w) : ∀ (L : List Nat) (a : Act) (w : World), Mix P ops C E Q L a w → Mix P ops C E Q' L a w
  | [], a, w, k => hq a w k
  | i :: L, a, w, ⟨o, ho, k⟩ => ⟨o, ho, k.imp (fun ⟨v, hv, k⟩ => ⟨v, hv, mix_mono hq L _ _ k⟩) (fun ⟨h1, h2, k⟩ => ⟨h1, h2, Eff_mono (fun _ _ hk => ⟨hk.1, mix_mono hq L _ _ hk.2⟩) k⟩)⟩
theorem s_mono {Q' : Post} (k : S P n ops Ch E Q i l h) (hq : ∀ l h, Q .normal l h → Q' .normal l h) : S P n ops Ch E Q' i l h :=
  S.mk fun a w w0 hf hw ho => mix_mono (fun _ _ ⟨l', h1, h2, h3⟩ => ⟨l', h1, hq _ _ h2, h3⟩) _ _ _ (k.run a w w0 hf hw ho)
/-- What is known behind a region. -/
theorem s_tcut {σ : Type} {y : Code} (F : σ → Fr) (D : σ → Hp → Prop) (k : S P n ops Ch E (Cut F D Q) i l h) (k2 : ∀ s h', D s h' → W P n y Q (F s) h') : S P n ops Ch E (Then P n y Q) i l h :=
  s_mono k fun l' h' ⟨s, g1, g2⟩ => w_sub g1 (k2 s h' g2)
/-- What is known behind the code that follows a region. -/
theorem s_tcut2 {σ : Type} {c y : Code} (F : σ → Fr) (D : σ → Hp → Prop) (k : S P n ops Ch E (Then P n c (Cut F D Q)) i l h) (k2 : ∀ s h', D s h' → W P n y Q (F s) h') : S P n ops Ch E (Then P n c (Then P n y Q)) i l h :=
  s_mono k fun l' h' hc => w_tcut F D hc k2
/-! ### function values -/
theorem s_makeFunc {fn : Fn} {first captured : Array Operand} {fs cs : List Value} (h1 : evs l first.toList = some fs) (h2 : evs l captured.toList = some cs) (hb : Nat.blt d n = true)
    (k : S P n ops Ch E Q (i + 1) ((d, .func fn fs.toArray cs.toArray) :: l) h) : O P n ops Ch E Q i d (.makeFunc fn first captured) l h :=
  s_pure hb (fun a w' hf => by
    have e1 : first.map a.eval = fs.toArray := by apply Array.ext'; simp [← hf.evs h1]
    have e2 : captured.map a.eval = cs.toArray := by apply Array.ext'; simp [← hf.evs h2]
    simp only [execOp, e1, e2, Instr.makeFunc]; rfl) k
/-- A call of a function value. -/
theorem s_callV {f : FuncId} {t0 : Operand} {args : List Operand} {at_ : Array TypeId} {fs cs vs : List Value} (hf0 : ev l t0 = some (.func (.func f) fs.toArray cs.toArray)) (he : Ent P f) (ha : evs l args = some vs) (hE : E i = true) (hb : Nat.blt d n = true)
    (k : CallsH P f (fs ++ vs ++ cs) h fun v h' => Ch h' ∧ S P n ops Ch E Q (i + 1) ((d, v) :: l) h') : O P n ops Ch E Q i d (.call ⟨.value t0, args.toArray, at_⟩) l h :=
  O.mk fun {ty} {ps} {af} {g} ho hg => s_eff ho hE hg fun a w hf hw => by
    have hr : (execOp a.eval ⟨some d, .call ⟨.value t0, args.toArray, at_⟩, ty, ps, af, g⟩).run P w = (callFunc f (fs ++ vs ++ cs).toArray).run P w := by
      have : args.toArray.map a.eval = vs.toArray := by simp [hf.evs ha]
      simp [execOp, resolve, Deferred.ofValue, invoke, hf.ev hf0, hf.evs ha]
    unfold Eff
    rw [hr, he]
    refine (k w hw).mono fun e w' hq => ?_
    obtain ⟨v, rfl, ⟨h1, h2⟩, h3⟩ := hq
    exact ⟨h3, h1, _, hf.put d v hb, h2⟩
end rules

section fin
variable {P : Program} {n : Nat} {fn : Func} {R : Value → Hp → Prop} {l : Fr} {h : Hp}
theorem run_resCell {t e : TypeId} {p : Value} {cs : List Value} {w : World} (hv : Var w.heap p e cs) (ht : aggTy P t = true) (hz : (P.info? t).map (·.size) = some cs.length) : ∃ a, (asAddr p).run P w = .ok a w ∧ (loadVar t a).run P w = .ok (.agg cs.toArray) w := by
  obtain ⟨g, rfl, hg⟩ := hv
  exact ⟨⟨g, 0, none⟩, rfl, run_loadAgg (P := P) (t := t) (a := ⟨g, 0, none⟩) (w := w) (ds := cs) ht hz (fun j u hu => by rw [Addr.add_lit, cell?_cellH, Nat.zero_add]; simp [cellH, hg, hu])⟩
theorem finC {s : Nat} {t e : TypeId} {p : Value} {cs : List Value} (hr : fn.results = #[.cell s t]) (hl : look l s = some p) (hv : Var h p e cs) (ht : aggTy P t = true) (hz : (P.info? t).map (·.size) = some cs.length) (k : R (.agg cs.toArray) h) : At (Fin P n fn R) .ret l h :=
  ⟨⟨_, fun a w hf hw => by
    obtain ⟨ad, h1, h2⟩ := run_resCell (P := P) (w := w) (by rw [hw]; exact hv) ht hz
    simp [results, hr, hf.slots s p hl, h1, h2], k⟩⟩
theorem finCT {s u : Nat} {t e : TypeId} {p v2 : Value} {cs : List Value} (hr : fn.results = #[.cell s t, .tmp u]) (hl : look l s = some p) (hl2 : look l u = some v2) (hv : Var h p e cs) (ht : aggTy P t = true) (hz : (P.info? t).map (·.size) = some cs.length) (k : R (.tuple #[.agg cs.toArray, v2]) h) : At (Fin P n fn R) .ret l h :=
  ⟨⟨_, fun a w hf hw => by
    obtain ⟨ad, h1, h2⟩ := run_resCell (P := P) (w := w) (by rw [hw]; exact hv) ht hz
    simp [results, hr, hf.slots s p hl, hf.slots u v2 hl2, h1, h2], k⟩⟩
end fin
theorem runG {R G : Prop} (r : R) (k : Res R → G := by intro r; (repeat (first | (apply s_moveNc; exact rfl) | (apply s_assignNc; exact rfl) | (apply s_moveUc; exact rfl) | (apply s_move; exact rfl; exact rfl) | (apply s_assignUc; exact rfl) | (apply s_assign; exact rfl; exact rfl) | (apply s_extract; exact rfl; exact rfl; exact rfl) | (apply s_pickT; exact rfl; exact rfl; exact rfl) | (apply s_pickF; exact rfl; exact rfl; exact rfl) | (apply s_not; exact rfl; exact rfl) | (apply s_shlN; (first | exact isK_c | exact isK_t rfl); (first | exact isK_c | exact isK_t rfl); exact rfl; (first | assumption | omega); (first | assumption | omega)) | (apply s_field; exact rfl; exact rfl; exact Var.ptr (by assumption); exact rfl) | (apply s_loadc; exact rfl; exact rfl; (first | exact rd_varP (by assumption) | exact rd_varX (by assumption) | exact rd_varO (by assumption) (by assumption)); exact rfl; exact rfl) | (apply s_load1; exact rfl; exact rfl; (first | exact rd_varP (by assumption) | exact rd_varX (by assumption) | exact rd_varO (by assumption) (by assumption)); exact rfl) | (apply s_loadV; exact rfl; exact rfl; (first | exact rd_varP (by assumption) | exact rd_varX (by assumption) | exact rd_varO (by assumption) (by assumption)); exact rfl; exact rfl) | (apply s_makeFunc; exact rfl; exact rfl; exact rfl) | (apply s_field2; exact rfl; exact rfl; exact rfl; exact rfl; exact rfl) | (apply s_eqB; exact rfl; exact rfl; exact rfl; exact rfl) | (apply s_neB; exact rfl; exact rfl; exact rfl; exact rfl) | (apply s_eqNil0; exact rfl; exact rfl; exact rfl; exact rfl) | (apply s_eqNil; exact rfl; exact rfl; exact Var.ptr (by assumption); exact rfl; exact rfl) | (apply s_lenF; exact rfl; exact rfl; (first | assumption | exact OwnF.sl (by assumption)); exact rfl) | (apply s_indexF; exact rfl; (first | exact isK_c | exact isK_t rfl); exact rfl; exact rfl; (first | assumption | exact OwnF.sl (by assumption)); exact rfl; (first | assumption | omega)) | (apply s_loadF 0; exact rfl; exact rfl; (first | exact rd_plain (by assumption) | exact rd_extF (by assumption) | exact rd_plain (OwnF.sl (by assumption)) | exact rd_extF (OwnF.sl (by assumption)) | exact rd_onlyF (by assumption) (by assumption)); exact rfl; (first | assumption | omega)) | (apply s_loadF undef; exact rfl; exact rfl; (first | exact rd_plain (by assumption) | exact rd_extF (by assumption) | exact rd_plain (OwnF.sl (by assumption)) | exact rd_extF (OwnF.sl (by assumption)) | exact rd_onlyF (by assumption) (by assumption)); exact rfl; (first | assumption | omega)) | (apply s_loadF (undef, []); exact rfl; exact rfl; (first | exact rd_plain (by assumption) | exact rd_extF (by assumption) | exact rd_plain (OwnF.sl (by assumption)) | exact rd_extF (OwnF.sl (by assumption)) | exact rd_onlyF (by assumption) (by assumption)); exact rfl; (first | assumption | omega)) | (apply s_slice_hF; exact rfl; (first | exact isK_c | exact isK_t rfl); exact rfl; exact rfl; (first | assumption | exact OwnF.sl (by assumption)); exact rfl; (first | assumption | omega)) | (apply s_slice_lF; exact rfl; (first | exact isK_c | exact isK_t rfl); exact rfl; exact rfl; (first | assumption | exact OwnF.sl (by assumption)); exact rfl; (first | assumption | omega)) | (apply s_slice_lhF; exact rfl; (first | exact isK_c | exact isK_t rfl); (first | exact isK_c | exact isK_t rfl); exact rfl; exact rfl; (first | assumption | exact OwnF.sl (by assumption)); exact rfl; (first | assumption | omega); (first | assumption | omega)) | (apply s_eqU; (first | exact isK_c | exact isK_t rfl); (first | exact isK_c | exact isK_t rfl); exact rfl) | (apply s_neU; (first | exact isK_c | exact isK_t rfl); (first | exact isK_c | exact isK_t rfl); exact rfl) | (apply s_ltU; (first | exact isK_c | exact isK_t rfl); (first | exact isK_c | exact isK_t rfl); exact rfl) | (apply s_leU; (first | exact isK_c | exact isK_t rfl); (first | exact isK_c | exact isK_t rfl); exact rfl) | (apply s_gtU; (first | exact isK_c | exact isK_t rfl); (first | exact isK_c | exact isK_t rfl); exact rfl) | (apply s_geU; (first | exact isK_c | exact isK_t rfl); (first | exact isK_c | exact isK_t rfl); exact rfl) | (apply s_eqN; (first | exact isK_c | exact isK_t rfl); (first | exact isK_c | exact isK_t rfl); exact rfl) | (apply s_neN; (first | exact isK_c | exact isK_t rfl); (first | exact isK_c | exact isK_t rfl); exact rfl) | (apply s_ltN; (first | exact isK_c | exact isK_t rfl); (first | exact isK_c | exact isK_t rfl); exact rfl) | (apply s_leN; (first | exact isK_c | exact isK_t rfl); (first | exact isK_c | exact isK_t rfl); exact rfl) | (apply s_gtN; (first | exact isK_c | exact isK_t rfl); (first | exact isK_c | exact isK_t rfl); exact rfl) | (apply s_geN; (first | exact isK_c | exact isK_t rfl); (first | exact isK_c | exact isK_t rfl); exact rfl) | (apply s_eqI; exact rfl; exact rfl; exact rfl) | (apply s_neI; exact rfl; exact rfl; exact rfl) | (apply s_ltI; exact rfl; exact rfl; exact rfl) | (apply s_leI; exact rfl; exact rfl; exact rfl) | (apply s_gtI; exact rfl; exact rfl; exact rfl) | (apply s_geI; exact rfl; exact rfl; exact rfl) | (apply s_addN; (first | exact isK_c | exact isK_t rfl); (first | exact isK_c | exact isK_t rfl); exact rfl; (first | assumption | omega)) | (apply s_subN; (first | exact isK_c | exact isK_t rfl); (first | exact isK_c | exact isK_t rfl); exact rfl; (first | assumption | omega)) | (apply s_mulN; (first | exact isK_c | exact isK_t rfl); (first | exact isK_c | exact isK_t rfl); exact rfl; (first | assumption | omega)) | (apply s_addI; exact rfl; exact rfl; exact rfl; (first | assumption | omega)) | (apply s_subI; exact rfl; exact rfl; exact rfl; (first | assumption | omega)) | (apply s_addU; (first | exact isK_c | exact isK_t rfl); (first | exact isK_c | exact isK_t rfl); exact rfl; (first | assumption | omega)) | (apply s_subU; (first | exact isK_c | exact isK_t rfl); (first | exact isK_c | exact isK_t rfl); exact rfl; (first | assumption | omega)) | (apply s_remU; (first | exact isK_c | exact isK_t rfl); (first | exact isK_c | exact isK_t rfl); exact rfl; (first | assumption | omega)) | (apply s_quoU; (first | exact isK_c | exact isK_t rfl); (first | exact isK_c | exact isK_t rfl); exact rfl; (first | assumption | omega)) | (apply s_mulU; (first | exact isK_c | exact isK_t rfl); (first | exact isK_c | exact isK_t rfl); exact rfl; (first | assumption | omega)) | (apply s_shlU'; (first | exact isK_c | exact isK_t rfl); (first | exact isK_c | exact isK_t rfl); exact rfl; (first | assumption | omega); (first | assumption | omega)) | (apply s_shlU; (first | exact isK_c | exact isK_t rfl); (first | exact isK_c | exact isK_t rfl); exact rfl; (first | assumption | omega)) | (apply s_shrU; (first | exact isK_c | exact isK_t rfl); (first | exact isK_c | exact isK_t rfl); exact rfl; (first | assumption | omega)) | (apply s_andU; (first | exact isK_c | exact isK_t rfl); (first | exact isK_c | exact isK_t rfl); exact rfl; (first | assumption | omega)) | (apply s_orU; (first | exact isK_c | exact isK_t rfl); (first | exact isK_c | exact isK_t rfl); exact rfl; (first | assumption | omega)) | (apply s_xorU; (first | exact isK_c | exact isK_t rfl); (first | exact isK_c | exact isK_t rfl); exact rfl; (first | assumption | omega)) | (apply s_negI; exact rfl; exact rfl; (first | assumption | omega)) | (apply s_negU; (first | exact isK_c | exact isK_t rfl); exact rfl; (first | assumption | omega)) | (apply s_convU; (first | exact isK_c | exact isK_t rfl); exact rfl; exact rfl; exact rfl; (first | assumption | omega)) | (apply s_convI; exact rfl; exact rfl; exact rfl; exact rfl; (first | assumption | omega)) | (apply s_quoN; (first | exact isK_c | exact isK_t rfl); (first | exact isK_c | exact isK_t rfl); exact rfl; (first | assumption | omega)) | (apply s_remN; (first | exact isK_c | exact isK_t rfl); (first | exact isK_c | exact isK_t rfl); exact rfl; (first | assumption | omega)) | (apply s_shrN; (first | exact isK_c | exact isK_t rfl); (first | exact isK_c | exact isK_t rfl); exact rfl; (first | assumption | omega)) | (apply s_convN; (first | exact isK_c | exact isK_t rfl); exact rfl; exact rfl; exact rfl; (first | assumption | omega)) | (apply s_op; exact rfl; exact rfl) | (apply s_skip; exact rfl; exact rfl; exact rfl) | (apply s_nil; exact rfl) | (apply s_op0; exact rfl; exact rfl) | apply then_normal | apply then_ret | apply then_exit | apply inb_normal | apply inb_ret | apply inb_here | (apply inb_past; exact rfl) | apply again_exit | apply again_ret | apply cut_exit | apply cut_ret | (apply w_seq; exact rfl) | (apply r_plain; exact rfl) | (apply w_block; exact rfl) | (apply w_ret; exact rfl) | (apply w_cond_true; exact rfl; exact rfl) | (apply w_cond_false; exact rfl; exact rfl) | (apply w_exit; exact rfl) | (apply w_skip; exact rfl) | (apply w_label; exact rfl) | (apply r_drawnX; exact rfl; exact mixed; kernel_rfl))); exact r.get) : G := k ⟨r⟩
theorem runGN {R G : Prop} (r : R) (k : Res R → G := by intro r; (repeat (first | (apply s_moveNc; exact rfl) | (apply s_assignNc; exact rfl) | (apply s_moveUc; exact rfl) | (apply s_move; exact rfl; exact rfl) | (apply s_assignUc; exact rfl) | (apply s_assign; exact rfl; exact rfl) | (apply s_extract; exact rfl; exact rfl; exact rfl) | (apply s_pickT; exact rfl; exact rfl; exact rfl) | (apply s_pickF; exact rfl; exact rfl; exact rfl) | (apply s_not; exact rfl; exact rfl) | (apply s_shlN; (first | exact isK_c | exact isK_t rfl); (first | exact isK_c | exact isK_t rfl); exact rfl; (first | assumption | omega); (first | assumption | omega)) | (apply s_field; exact rfl; exact rfl; exact Var.ptr (by assumption); exact rfl) | (apply s_loadc; exact rfl; exact rfl; (first | exact rd_varP (by assumption) | exact rd_varX (by assumption) | exact rd_varO (by assumption) (by assumption)); exact rfl; exact rfl) | (apply s_load1; exact rfl; exact rfl; (first | exact rd_varP (by assumption) | exact rd_varX (by assumption) | exact rd_varO (by assumption) (by assumption)); exact rfl) | (apply s_loadV; exact rfl; exact rfl; (first | exact rd_varP (by assumption) | exact rd_varX (by assumption) | exact rd_varO (by assumption) (by assumption)); exact rfl; exact rfl) | (apply s_makeFunc; exact rfl; exact rfl; exact rfl) | (apply s_field2; exact rfl; exact rfl; exact rfl; exact rfl; exact rfl) | (apply s_eqB; exact rfl; exact rfl; exact rfl; exact rfl) | (apply s_neB; exact rfl; exact rfl; exact rfl; exact rfl) | (apply s_eqNil0; exact rfl; exact rfl; exact rfl; exact rfl) | (apply s_eqNil; exact rfl; exact rfl; exact Var.ptr (by assumption); exact rfl; exact rfl) | (apply s_lenF; exact rfl; exact rfl; (first | assumption | exact OwnF.sl (by assumption)); exact rfl) | (apply s_indexF; exact rfl; (first | exact isK_c | exact isK_t rfl); exact rfl; exact rfl; (first | assumption | exact OwnF.sl (by assumption)); exact rfl; (first | assumption | omega)) | (apply s_loadF 0; exact rfl; exact rfl; (first | exact rd_plain (by assumption) | exact rd_extF (by assumption) | exact rd_plain (OwnF.sl (by assumption)) | exact rd_extF (OwnF.sl (by assumption)) | exact rd_onlyF (by assumption) (by assumption)); exact rfl; (first | assumption | omega)) | (apply s_loadF undef; exact rfl; exact rfl; (first | exact rd_plain (by assumption) | exact rd_extF (by assumption) | exact rd_plain (OwnF.sl (by assumption)) | exact rd_extF (OwnF.sl (by assumption)) | exact rd_onlyF (by assumption) (by assumption)); exact rfl; (first | assumption | omega)) | (apply s_loadF (undef, []); exact rfl; exact rfl; (first | exact rd_plain (by assumption) | exact rd_extF (by assumption) | exact rd_plain (OwnF.sl (by assumption)) | exact rd_extF (OwnF.sl (by assumption)) | exact rd_onlyF (by assumption) (by assumption)); exact rfl; (first | assumption | omega)) | (apply s_slice_hF; exact rfl; (first | exact isK_c | exact isK_t rfl); exact rfl; exact rfl; (first | assumption | exact OwnF.sl (by assumption)); exact rfl; (first | assumption | omega)) | (apply s_slice_lF; exact rfl; (first | exact isK_c | exact isK_t rfl); exact rfl; exact rfl; (first | assumption | exact OwnF.sl (by assumption)); exact rfl; (first | assumption | omega)) | (apply s_slice_lhF; exact rfl; (first | exact isK_c | exact isK_t rfl); (first | exact isK_c | exact isK_t rfl); exact rfl; exact rfl; (first | assumption | exact OwnF.sl (by assumption)); exact rfl; (first | assumption | omega); (first | assumption | omega)) | (apply s_eqU; (first | exact isK_c | exact isK_t rfl); (first | exact isK_c | exact isK_t rfl); exact rfl) | (apply s_neU; (first | exact isK_c | exact isK_t rfl); (first | exact isK_c | exact isK_t rfl); exact rfl) | (apply s_ltU; (first | exact isK_c | exact isK_t rfl); (first | exact isK_c | exact isK_t rfl); exact rfl) | (apply s_leU; (first | exact isK_c | exact isK_t rfl); (first | exact isK_c | exact isK_t rfl); exact rfl) | (apply s_gtU; (first | exact isK_c | exact isK_t rfl); (first | exact isK_c | exact isK_t rfl); exact rfl) | (apply s_geU; (first | exact isK_c | exact isK_t rfl); (first | exact isK_c | exact isK_t rfl); exact rfl) | (apply s_eqN; (first | exact isK_c | exact isK_t rfl); (first | exact isK_c | exact isK_t rfl); exact rfl) | (apply s_neN; (first | exact isK_c | exact isK_t rfl); (first | exact isK_c | exact isK_t rfl); exact rfl) | (apply s_ltN; (first | exact isK_c | exact isK_t rfl); (first | exact isK_c | exact isK_t rfl); exact rfl) | (apply s_leN; (first | exact isK_c | exact isK_t rfl); (first | exact isK_c | exact isK_t rfl); exact rfl) | (apply s_gtN; (first | exact isK_c | exact isK_t rfl); (first | exact isK_c | exact isK_t rfl); exact rfl) | (apply s_geN; (first | exact isK_c | exact isK_t rfl); (first | exact isK_c | exact isK_t rfl); exact rfl) | (apply s_eqI; exact rfl; exact rfl; exact rfl) | (apply s_neI; exact rfl; exact rfl; exact rfl) | (apply s_ltI; exact rfl; exact rfl; exact rfl) | (apply s_leI; exact rfl; exact rfl; exact rfl) | (apply s_gtI; exact rfl; exact rfl; exact rfl) | (apply s_geI; exact rfl; exact rfl; exact rfl) | (apply s_addN; (first | exact isK_c | exact isK_t rfl); (first | exact isK_c | exact isK_t rfl); exact rfl; (first | assumption | omega)) | (apply s_subN; (first | exact isK_c | exact isK_t rfl); (first | exact isK_c | exact isK_t rfl); exact rfl; (first | assumption | omega)) | (apply s_mulN; (first | exact isK_c | exact isK_t rfl); (first | exact isK_c | exact isK_t rfl); exact rfl; (first | assumption | omega)) | (apply s_addI; exact rfl; exact rfl; exact rfl; (first | assumption | omega)) | (apply s_subI; exact rfl; exact rfl; exact rfl; (first | assumption | omega)) | (apply s_addU; (first | exact isK_c | exact isK_t rfl); (first | exact isK_c | exact isK_t rfl); exact rfl; (first | assumption | omega)) | (apply s_subU; (first | exact isK_c | exact isK_t rfl); (first | exact isK_c | exact isK_t rfl); exact rfl; (first | assumption | omega)) | (apply s_remU; (first | exact isK_c | exact isK_t rfl); (first | exact isK_c | exact isK_t rfl); exact rfl; (first | assumption | omega)) | (apply s_quoU; (first | exact isK_c | exact isK_t rfl); (first | exact isK_c | exact isK_t rfl); exact rfl; (first | assumption | omega)) | (apply s_mulU; (first | exact isK_c | exact isK_t rfl); (first | exact isK_c | exact isK_t rfl); exact rfl; (first | assumption | omega)) | (apply s_shlU'; (first | exact isK_c | exact isK_t rfl); (first | exact isK_c | exact isK_t rfl); exact rfl; (first | assumption | omega); (first | assumption | omega)) | (apply s_shlU; (first | exact isK_c | exact isK_t rfl); (first | exact isK_c | exact isK_t rfl); exact rfl; (first | assumption | omega)) | (apply s_shrU; (first | exact isK_c | exact isK_t rfl); (first | exact isK_c | exact isK_t rfl); exact rfl; (first | assumption | omega)) | (apply s_andU; (first | exact isK_c | exact isK_t rfl); (first | exact isK_c | exact isK_t rfl); exact rfl; (first | assumption | omega)) | (apply s_orU; (first | exact isK_c | exact isK_t rfl); (first | exact isK_c | exact isK_t rfl); exact rfl; (first | assumption | omega)) | (apply s_xorU; (first | exact isK_c | exact isK_t rfl); (first | exact isK_c | exact isK_t rfl); exact rfl; (first | assumption | omega)) | (apply s_negI; exact rfl; exact rfl; (first | assumption | omega)) | (apply s_negU; (first | exact isK_c | exact isK_t rfl); exact rfl; (first | assumption | omega)) | (apply s_convU; (first | exact isK_c | exact isK_t rfl); exact rfl; exact rfl; exact rfl; (first | assumption | omega)) | (apply s_convI; exact rfl; exact rfl; exact rfl; exact rfl; (first | assumption | omega)) | (apply s_quoN; (first | exact isK_c | exact isK_t rfl); (first | exact isK_c | exact isK_t rfl); exact rfl; (first | assumption | omega)) | (apply s_remN; (first | exact isK_c | exact isK_t rfl); (first | exact isK_c | exact isK_t rfl); exact rfl; (first | assumption | omega)) | (apply s_shrN; (first | exact isK_c | exact isK_t rfl); (first | exact isK_c | exact isK_t rfl); exact rfl; (first | assumption | omega)) | (apply s_convN; (first | exact isK_c | exact isK_t rfl); exact rfl; exact rfl; exact rfl; (first | assumption | omega)) | (apply s_op; exact rfl; exact rfl) | (apply s_skip; exact rfl; exact rfl; exact rfl) | (apply s_nil; exact rfl) | (apply s_op0; exact rfl; exact rfl) | apply then_normal | apply then_ret | apply then_exit | apply inb_normal | apply inb_ret | apply inb_here | (apply inb_past; exact rfl) | apply again_exit | apply again_ret | apply cut_exit | apply cut_ret | (apply w_seq; exact rfl) | (apply r_plain; exact rfl) | (apply w_block; exact rfl) | (apply w_ret; exact rfl) | (apply w_cond_true; exact rfl; exact rfl) | (apply w_cond_false; exact rfl; exact rfl) | (apply w_exit; exact rfl) | (apply w_skip; exact rfl) | (apply w_label; exact rfl))); exact r.get) : G := k ⟨r⟩
end Go.Den
