/- Texts DenI to DenL of this work, joined: each says in its own head what it proves, and of which condition. -/
import Derived.Test.YtbhhagdnbkkjpaaDoorMPr8
import Derived.MapKept
import Derived.Great.BuildSlice
/- Own calculus, part I: parts of structs wherever they lie, rows of structs, maps whose keys are ints, and on ints. No condition. -/
namespace Go.Den
set_option linter.unusedVariables false
set_option maxRecDepth 8000
open Go Go.RowKit

/-- p points to these cells, one behind the other. -/
def Cells (h : Hp) (p : Value) (cs : List Value) : Prop := ∃ b o, p = .pointer (some ⟨b, o, none⟩) ∧ ∀ j u, cs[j]? = some u → cellH h b (o + j) = some u
theorem Cells.ptr {h : Hp} {p : Value} {cs : List Value} (s : Cells h p cs) : isPtr p = true := by obtain ⟨b, o, rfl, -⟩ := s; rfl
theorem Cells.only {r : Option Nat} {h h' : Hp} {p : Value} {cs : List Value} (s : Cells h p cs) (e : Only r h h') (hne : pblk p ≠ r) : Cells h' p cs := by
  obtain ⟨b, o, rfl, s⟩ := s
  exact ⟨b, o, rfl, fun j u hu => cellH_only e hne (s j u hu)⟩
theorem Cells.ext {h h' : Hp} {p : Value} {cs : List Value} (s : Cells h p cs) (e : Ext h h') : Cells h' p cs := by
  obtain ⟨b, o, rfl, s⟩ := s
  exact ⟨b, o, rfl, fun j u hu => cellH_only (e.only none) (by simp) (s j u hu)⟩
theorem Var.cells {h : Hp} {p : Value} {e : TypeId} {cs : List Value} (s : Var h p e cs) : Cells h p cs := by
  obtain ⟨g, rfl, hg⟩ := s
  exact ⟨g, 0, rfl, fun j u hu => by simp [cellH, hg, hu]⟩

theorem SlF.lt {α : Type} {f : α → Value} {h : Hp} {v : Value} {xs : List α} (s : SlF h f v xs) (hne : 0 < xs.length) : ∀ k, v.ownBlock = some k → k < h.size := fun k hk => by
  rcases s with ⟨-, h0, -⟩ | ⟨b, o, c, rfl, -, hc⟩
  · omega
  · simp only [Value.ownBlock, Option.some.injEq] at hk
    subst hk
    have : (xs.map f)[0]? = some (f xs[0]) := by rw [List.getElem?_map, List.getElem?_eq_getElem hne]; rfl
    exact cellH_lt (hc 0 _ this)
theorem SlF.neq {α : Type} {f : α → Value} {h : Hp} {v u : Value} {xs : List α} {k : Nat} (s : SlF h f v xs) (hne : 0 < xs.length) (hu : u.ownBlock = some k) (hk : h.size ≤ k) : v.ownBlock = none ∨ v.ownBlock ≠ u.ownBlock := by
  refine .inr fun e => ?_
  rw [hu] at e
  have := s.lt hne k e; omega
theorem Var.neq {h : Hp} {p u : Value} {e : TypeId} {cs : List Value} {k : Nat} (s : Var h p e cs) (hu : u.ownBlock = some k) (hk : h.size ≤ k) : pblk p ≠ u.ownBlock := fun e => by
  obtain ⟨j, hj, hlt⟩ := s.blk
  rw [hj, hu] at e; cases e; omega

/-- A row of elements of s cells each. -/
def SlA {α : Type} (h : Hp) (f : α → List Value) (s : Nat) (v : Value) (xs : List α) : Prop := (∀ x, (f x).length = s) ∧ Sl h v xs.length (xs.flatMap f)
section
variable {α : Type} {f : α → List Value} {s : Nat} {h h' : Hp} {v : Value} {xs : List α}
theorem SlA.ext (k : SlA h f s v xs) (e : Ext h h') : SlA h' f s v xs := ⟨k.1, k.2.ext e⟩
theorem SlA.only {r : Option Nat} (k : SlA h f s v xs) (e : Only r h h') (hne : v.ownBlock = none ∨ v.ownBlock ≠ r) : SlA h' f s v xs := ⟨k.1, k.2.only e hne⟩
theorem SlA.one (k : SlA h f s v xs) : v.oneCell' = true := Sl.one k.2
theorem flat_get (hf : ∀ x, (f x).length = s) : ∀ (xs : List α) (j r : Nat) (x : α) (u : Value), xs[j]? = some x → (f x)[r]? = some u → (xs.flatMap f)[j * s + r]? = some u
  | [], j, r, x, u, h, _ => by simp at h
  | y :: ys, 0, r, x, u, h, hu => by
    simp at h; subst h
    rw [List.flatMap_cons, Nat.zero_mul, Nat.zero_add, List.getElem?_append_left (List.getElem?_eq_some_iff.1 hu).1]; exact hu
  | y :: ys, j + 1, r, x, u, h, hu => by
    rw [List.flatMap_cons, List.getElem?_append_right (by rw [hf y, Nat.succ_mul]; omega), hf y, show (j + 1) * s + r - s = j * s + r by rw [Nat.succ_mul]; omega]
    exact flat_get hf ys j r x u (by simpa using h) hu
theorem SlA.cells (k : SlA h f s v xs) {j : Nat} {x : α} (hx : xs[j]? = some x) : Cells h (ptrAt v (j * s)) (f x) := by
  obtain ⟨hf, ⟨-, h2, -⟩ | ⟨b, o, c, rfl, -, hc⟩⟩ := k
  · have : xs = [] := List.eq_nil_of_length_eq_zero h2
    subst this; simp at hx
  · refine ⟨b, o + j * s, by simp [ptrAt, Addr.add_lit], fun r u hu => ?_⟩
    rw [Nat.add_assoc]; exact hc _ _ (flat_get hf xs j r x u hx hu)
end

/-- A map of ints to true. -/
def MapI (h : Hp) (v : Value) (ks : List Int) : Prop := ∃ r es clock, v = .map (some r) ∧ h[r]? = some (.map es clock) ∧ es.toList.map (·.key) = ks.map I ∧ ∀ x ∈ es.toList, x.val = .bool true
def mblk : Value → Option Nat
  | .map r => r
  | _ => none
theorem MapI.only {r : Option Nat} {h h' : Hp} {v : Value} {ks : List Int} (s : MapI h v ks) (e : Only r h h') (hne : mblk v ≠ r) : MapI h' v ks := by
  obtain ⟨b, es, c, rfl, hb, s⟩ := s
  exact ⟨b, es, c, rfl, by rw [e.2 b (Array.getElem?_eq_some_iff.1 hb).1 hne]; exact hb, s⟩
theorem MapI.ext {h h' : Hp} {v : Value} {ks : List Int} (s : MapI h v ks) (e : Ext h h') : MapI h' v ks := by
  obtain ⟨b, es, c, rfl, hb, s⟩ := s
  exact ⟨b, es, c, rfl, by rw [e.2 b (Array.getElem?_eq_some_iff.1 hb).1]; exact hb, s⟩

section rules
variable {P : Program} {n : Nat} {Q : Post} {l : Fr} {h : Hp} {ops : List Oper} {Ch : Hp → Prop} {E : Nat → Bool} {i : Nat}
variable {d : Nat} {t : TypeId} {x y z : Operand}

theorem rd_cellP {i : Nat} {h : Hp} {p : Value} {cs : List Value} (hp : Cells h p cs) : Rd (fun _ => True) (fun _ => true) i h (fun h' => Cells h' p cs) := ⟨.inl ⟨rfl, trivial, hp⟩⟩
theorem rd_cellX {E : Nat → Bool} {i : Nat} {h h0 : Hp} {p : Value} {cs : List Value} (hp : Cells h0 p cs) : Rd (Ext h0) E i h (fun h' => Cells h' p cs) := ⟨.inr fun _ k => hp.ext k⟩
theorem rd_cellO {E : Nat → Bool} {i : Nat} {h h0 : Hp} {r : Option Nat} {p : Value} {cs : List Value} (hp : Cells h0 p cs) (hne : pblk p ≠ r) : Rd (Only r h0) E i h (fun h' => Cells h' p cs) := ⟨.inr fun _ k => hp.only k hne⟩

theorem s_fieldO {f off o1 : Nat} {p : Value} (hx : ev l x = some (ptrOff p o1)) (ho : fieldOff P t f = some off) (hp : isPtr p = true) (hb : Nat.blt d n = true)
    (k : S P n ops Ch E Q (i + 1) ((d, ptrOff p (o1 + off)) :: l) h) : O P n ops Ch E Q i d (.fieldAddr t x f) l h := by
  cases p <;> try cases hp
  rename_i a
  cases a with
  | none => cases hp
  | some a =>
    refine s_field hx ho rfl hb ?_
    simp only [ptrOff, Addr.add_add] at k ⊢
    exact k
theorem s_loadP {p u : Value} {off : Nat} {cs : List Value} (hx : ev l x = some (ptrOff p off)) (ht : plainTy P t = true) (hs : Rd Ch E i h (fun h' => Cells h' p cs)) (hb : Nat.blt d n = true) (hj : nth cs off = some u)
    (k : S P n ops Ch E Q (i + 1) ((d, u) :: l) h) : O P n ops Ch E Q i d (.load t x) l h :=
  s_read hb _ hs (fun a w' hf hs => by
    rw [nth_eq] at hj
    obtain ⟨b, o, rfl, hc⟩ := hs
    have hl := run_load1 (P := P) (t := t) (a := (⟨b, o, none⟩ : Addr).add off) (w := w') ht (by rw [Addr.add_lit, cell?_cellH]; exact hc _ _ hj)
    simp only [execOp, hf.ev hx, ptrOff, Sem.run_bind, hl]; rfl) k
theorem s_loadP0 {p u : Value} {cs : List Value} (hx : ev l x = some p) (ht : plainTy P t = true) (hs : Rd Ch E i h (fun h' => Cells h' p cs)) (hb : Nat.blt d n = true) (hj : nth cs 0 = some u)
    (k : S P n ops Ch E Q (i + 1) ((d, u) :: l) h) : O P n ops Ch E Q i d (.load t x) l h :=
  s_read hb _ hs (fun a w' hf hs => by
    rw [nth_eq] at hj
    obtain ⟨b, o, rfl, hc⟩ := hs
    have hl := run_load1 (P := P) (t := t) (a := (⟨b, o, none⟩ : Addr)) (w := w') ht (by rw [cell?_cellH]; exact hc _ _ hj)
    simp only [execOp, hf.ev hx, Sem.run_bind, hl]; rfl) k
theorem s_loadPA {p : Value} {cs : List Value} (hx : ev l x = some p) (ht : aggTy P t = true) (hs : Rd Ch E i h (fun h' => Cells h' p cs)) (hz : (P.info? t).map (·.size) = some cs.length) (hb : Nat.blt d n = true)
    (k : S P n ops Ch E Q (i + 1) ((d, .agg cs.toArray) :: l) h) : O P n ops Ch E Q i d (.load t x) l h :=
  s_read hb _ hs (fun a w' hf hs => by
    obtain ⟨b, o, rfl, hc⟩ := hs
    have hl := run_loadAgg (P := P) (t := t) (a := (⟨b, o, none⟩ : Addr)) (w := w') (ds := cs) ht hz (fun j u hu => by rw [Addr.add_lit, cell?_cellH]; exact hc _ _ hu)
    simp only [execOp, hf.ev hx, Instr.loadAt, Instr.sureAddr, Sem.run_bind, Sem.run_pure, Result.andThen_ok, hl]) k
theorem s_lenA {α : Type} {f : α → List Value} {s : Nat} {v : Value} {xs : List α} {e : TypeId} {h0 : Hp} (hx : ev l x = some v) (ht : P.underlying t = some (.slice e)) (hs : SlA h0 f s v xs) (hb : Nat.blt d n = true)
    (k : S P n ops Ch E Q (i + 1) ((d, N xs.length) :: l) h) : O P n ops Ch E Q i d (.call ⟨.builtin .len, #[x], #[t]⟩) l h := s_len hx ht hs.2 hb k
theorem s_indexA {α : Type} {f : α → List Value} {v : Value} {j s : Nat} {xs : List α} {x0 : α} {e : TypeId} {yk : IntKind} {h0 : Hp} (hx : ev l x = some v) (hy : IsK (ev l y) yk j) (ht : P.underlying t = some (.slice e)) (hz : (P.info? e).map (·.size) = some s)
    (hs : SlA h0 f s v xs) (hb : Nat.blt d n = true) (hj : xs[j]? = some x0)
    (k : Cells h0 (ptrAt v (j * s)) (f x0) → S P n ops Ch E Q (i + 1) ((d, ptrAt v (j * s)) :: l) h) : O P n ops Ch E Q i d (.indexAddr t x y) l h :=
  s_index hx hy ht hz hs.2 hb (List.getElem?_eq_some_iff.1 hj).1 (k (hs.cells hj))

theorem bitsI_and (a b : Nat) (ha : a < 9223372036854775808) (hb : b < 9223372036854775808) : bits .and .i64 (a : Int) (b : Int) = ((a &&& b : Nat) : Int) := by
  have hx : a &&& b < 2 ^ 63 := Nat.and_lt_two_pow _ (by omega)
  have h1 : (BitVec.ofInt 64 (a : Int)).toNat = a := by
    rw [BitVec.ofInt_natCast, BitVec.toNat_ofNat]; exact Nat.mod_eq_of_lt (by omega)
  have h2 : (BitVec.ofInt 64 (b : Int)).toNat = b := by
    rw [BitVec.ofInt_natCast, BitVec.toNat_ofNat]; exact Nat.mod_eq_of_lt (by omega)
  show IntKind.i64.wrap ((BitVec.ofInt 64 (a : Int) &&& BitVec.ofInt 64 (b : Int)).toNat : Int) = _
  rw [BitVec.toNat_and, h1, h2]
  exact wrapI_in _ (by omega)
theorem s_andI {a b : Nat} {yt : TypeId} (hx : IsK (ev l x) .i64 a) (hy : IsK (ev l y) .i64 b) (hb : Nat.blt d n = true) (hn : a < 9223372036854775808 ∧ b < 9223372036854775808)
    (k : S P n ops Ch E Q (i + 1) ((d, N (a &&& b)) :: l) h) : O P n ops Ch E Q i d (.binOp .and t x y yt) l h :=
  s_bin hx.h hy.h hb (fun w' => by
    show Result.ok (Value.int .i64 (bits .and .i64 (a : Int) b)) w' = _
    rw [bitsI_and _ _ hn.1 hn.2]) k
theorem s_loadG {α : Type} {f : α → Value} {v : Value} {j : Nat} {cs : List α} {x0 : α} (hx : ev l x = some (ptrAt v j)) (ht : plainTy P t = true) (hs : Rd Ch E i h (fun h' => SlF h' f v cs)) (hb : Nat.blt d n = true) (hj : cs[j]? = some x0)
    (k : S P n ops Ch E Q (i + 1) ((d, f x0) :: l) h) : O P n ops Ch E Q i d (.load t x) l h :=
  s_load (cs := cs.map f) (m := cs.length) hx ht hs hb (by simp [hj]) k
theorem s_indexG {α : Type} {f : α → Value} {v : Value} {j : Nat} {cs : List α} {x0 : α} {e : TypeId} {yk : IntKind} {h0 : Hp} (hx : ev l x = some v) (hy : IsK (ev l y) yk j) (ht : P.underlying t = some (.slice e)) (hz : (P.info? e).map (·.size) = some 1)
    (hs : SlF h0 f v cs) (hb : Nat.blt d n = true) (hj : cs[j]? = some x0)
    (k : S P n ops Ch E Q (i + 1) ((d, ptrAt v j) :: l) h) : O P n ops Ch E Q i d (.indexAddr t x y) l h := s_indexF hx hy ht hz hs hb (List.getElem?_eq_some_iff.1 hj).1 k

theorem s_makeMapI (hE : E i = true) (hb : Nat.blt d n = true)
    (k : ∀ v h', MapI h' v [] → Ext h h' → mblk v = some h.size → Ch h' ∧ S P n ops Ch E Q (i + 1) ((d, v) :: l) h') : O P n ops Ch E Q i d (.makeMap t none) l h :=
  O.mk fun hop hg => s_eff hop hE hg fun a w hf hw => by
    subst hw
    have hm : MapI (w.alloc (.map #[] 0)).heap (.map (some w.heap.size)) [] := ⟨_, #[], 0, rfl, (Go.MapKept.heap_alloc w _).1, rfl, by simp⟩
    have := k _ _ hm (Ext.push _ _) rfl
    have hr : (Instr.makeMap t none).run P w = .ok (.map (some w.heap.size)) (w.alloc (.map #[] 0)) := rfl
    unfold Eff
    simp only [execOp, Option.map_none, Sem.run_bind, hr]
    exact ⟨⟨rfl, rfl, rfl⟩, this.1, _, hf.put d _ hb, this.2⟩

theorem mapI_keys {es : List MapEntry} {ks : List Int} (h : es.map (·.key) = ks.map I) : ∀ x ∈ es, ∃ k ∈ ks, x.key = I k := fun x hx => by
  have : x.key ∈ es.map (·.key) := List.mem_map.2 ⟨x, hx, rfl⟩
  rw [h] at this
  obtain ⟨k, hk, e⟩ := List.mem_map.1 this
  exact ⟨k, hk, e.symm⟩
theorem mapI_mem {es : List MapEntry} {ks : List Int} (h : es.map (·.key) = ks.map I) {k : Int} (hk : k ∈ ks) : ∃ x ∈ es, x.key = I k := by
  have : I k ∈ ks.map I := List.mem_map.2 ⟨k, hk, rfl⟩
  rw [← h] at this
  exact List.mem_map.1 this

theorem rd_mapP {i : Nat} {h : Hp} {v : Value} {ks : List Int} (hp : MapI h v ks) : Rd (fun _ => True) (fun _ => true) i h (fun h' => MapI h' v ks) := ⟨.inl ⟨rfl, trivial, hp⟩⟩
theorem s_lookupI {kt et : TypeId} {v : Value} {ks : List Int} {k0 : Int} (hx : ev l x = some v) (hy : ev l y = some (I k0)) (ht : P.underlying t = some (.map kt et)) (hk : P.underlying kt = some (.int .i64)) (hz : (P.info? et).map (·.zero) = some (some (.bool false)))
    (hs : Rd Ch E i h (fun h' => MapI h' v ks)) (hb : Nat.blt d n = true)
    (k : S P n ops Ch E Q (i + 1) ((d, .bool (decide (k0 ∈ ks))) :: l) h) : O P n ops Ch E Q i d (.lookup t x y false) l h :=
  s_read hb _ hs (fun a w' hf hs => by
    obtain ⟨r, es, c, rfl, hr, hks, hv⟩ := hs
    have hik : Go.MapKept.IsKey (.int .i64) (I k0) := rfl
    have hall : ∀ x ∈ es.toList, Go.MapKept.IsKey (.int .i64) x.key := fun x hx => by
      obtain ⟨k, -, e⟩ := mapI_keys hks x hx
      rw [e]; rfl
    have hzv : (zeroValue et).run P w' = .ok (.bool false) w' := by
      cases hi : P.info? et with
      | none => rw [hi] at hz; cases hz
      | some inf =>
        rw [hi] at hz
        simp only [Option.map_some, Option.some.injEq] at hz
        simp [zeroValue, typeInfo, hi, hz]
    have hl : (Instr.lookup t (.map (some r)) (I k0) false).run P w' = .ok (.bool (decide (k0 ∈ ks))) w' := by
      rcases Go.MapKept.findNow_spec hik es.toList 0 hall with ⟨h1, h2⟩ | ⟨j, e, h1, h2, h3⟩
      · have hn : k0 ∉ ks := fun hm => by
          obtain ⟨x, hx, e⟩ := mapI_mem hks hm
          exact h2 x hx e
        simp [Instr.lookup, run_underlying ht, Go.MapKept.run_getObj_map hr, Go.MapKept.run_checkKey hk hik, Go.MapKept.run_findKey hk h1, hzv, Result.andThen, hn]
      · have he : e ∈ es.toList := List.mem_of_getElem? h2
        have hm : k0 ∈ ks := by
          obtain ⟨k, hk, ek⟩ := mapI_keys hks e he
          rw [h3] at ek; cases ek; exact hk
        simp [Instr.lookup, run_underlying ht, Go.MapKept.run_getObj_map hr, Go.MapKept.run_checkKey hk hik, Go.MapKept.run_findKey hk h1, Result.andThen, hm, hv e he]
    simp only [execOp, hf.ev hx, hf.ev hy, Sem.run_bind, hl]; rfl) k
theorem s_mapUpdI {kt et : TypeId} {v : Value} {ks : List Int} {k0 : Int} (hx : ev l x = some v) (hy : ev l y = some (I k0)) (hz : ev l z = some (.bool true)) (ht : P.underlying t = some (.map kt et)) (hk : P.underlying kt = some (.int .i64))
    (hE : E i = true) (hs : MapI h v ks) (hn : k0 ∉ ks)
    (k : ∀ h', MapI h' v (ks ++ [k0]) → Only (mblk v) h h' → Ch h' ∧ S P n ops Ch E Q (i + 1) l h') : O0 P n ops Ch E Q i (.mapUpdate t x y z) l h :=
  O0.mk fun hop hg => s_eff hop hE hg fun a w hf hw => by
    subst hw
    obtain ⟨r, es, c, rfl, hr, hks, hv⟩ := hs
    have hik : Go.MapKept.IsKey (.int .i64) (I k0) := rfl
    have hall : ∀ x ∈ es.toList, Go.MapKept.IsKey (.int .i64) x.key := fun x hx => by
      obtain ⟨k, -, e⟩ := mapI_keys hks x hx
      rw [e]; rfl
    rcases Go.MapKept.findNow_spec hik es.toList 0 hall with ⟨h1, h2⟩ | ⟨j, e, h1, h2, h3⟩
    · have hl : (Instr.mapUpdate t (.map (some r)) (I k0) (.bool true)).run P w = .ok () { w with heap := w.heap.setIfInBounds r (.map (es.push { key := I k0, val := .bool true, born := c }) (c + 1)) } := by
        simp [Instr.mapUpdate, run_underlying ht, Go.MapKept.run_getObj_map hr, Go.MapKept.run_checkKey hk hik, Go.MapKept.run_findKey hk h1, Go.MapKept.run_setObj_map _ hr, Result.andThen]
      have := k _ ⟨r, es.push { key := I k0, val := .bool true, born := c }, c + 1, rfl, (Go.MapKept.heap_set hr).1, by simp [hks], fun x hx => by
        simp only [Array.toList_push, List.mem_append, List.mem_singleton] at hx
        rcases hx with hx | rfl
        · exact hv x hx
        · rfl⟩ ⟨by simp, fun j _ hj => (Go.MapKept.heap_set hr).2 j (fun e => hj (by rw [e]; rfl))⟩
      unfold Eff
      simp only [execOp, hf.ev hx, hf.ev hy, hf.ev hz, Sem.run_bind, hl]
      exact ⟨⟨rfl, rfl, rfl⟩, this.1, _, hf.putNone _, this.2⟩
    · exfalso
      have he : e ∈ es.toList := List.mem_of_getElem? h2
      obtain ⟨k', hk', ek⟩ := mapI_keys hks e he
      rw [h3] at ek; cases ek; exact hn hk'
end rules
theorem runJ {R G : Prop} (r : R) (k : Res R → G := by intro r; (repeat (first | (apply s_moveNc; exact rfl) | (apply s_assignNc; exact rfl) | (apply s_moveUc; exact rfl) | (apply s_move; exact rfl; exact rfl) | (apply s_assignUc; exact rfl) | (apply s_assign; exact rfl; exact rfl) | (apply s_extract; exact rfl; exact rfl; exact rfl) | (apply s_pickT; exact rfl; exact rfl; exact rfl) | (apply s_pickF; exact rfl; exact rfl; exact rfl) | (apply s_not; exact rfl; exact rfl) | (apply s_nilCheck; exact rfl; exact Var.ptr (by assumption); exact rfl) | (apply s_eqSNil; exact rfl; exact rfl; exact rfl; (first | assumption | exact OwnF.sl (by assumption)); exact rfl) | (apply s_field; exact rfl; (first | exact (rfl : _ = some 0) | exact (rfl : _ = some 1) | exact (rfl : _ = some 2) | exact (rfl : _ = some 3) | exact (rfl : _ = some 4) | exact (rfl : _ = some 5) | exact (rfl : _ = some 6) | exact (rfl : _ = some 7) | exact (rfl : _ = some 8) | exact (rfl : _ = some 9)); (first | exact Var.ptr (by assumption) | exact Cells.ptr (by assumption)); exact rfl) | (apply s_fieldO; exact rfl; (first | exact (rfl : _ = some 0) | exact (rfl : _ = some 1) | exact (rfl : _ = some 2) | exact (rfl : _ = some 3) | exact (rfl : _ = some 4) | exact (rfl : _ = some 5) | exact (rfl : _ = some 6) | exact (rfl : _ = some 7) | exact (rfl : _ = some 8) | exact (rfl : _ = some 9)); (first | exact Var.ptr (by assumption) | exact Cells.ptr (by assumption)); exact rfl) | (apply s_loadG; exact rfl; exact rfl; (first | exact rd_plain (by assumption) | exact rd_extF (by assumption) | exact rd_plain (OwnF.sl (by assumption)) | exact rd_extF (OwnF.sl (by assumption)) | exact rd_onlyF (by assumption) (by assumption)); exact rfl; assumption) | (apply s_loadP; exact rfl; exact rfl; (first | exact rd_cellP (by assumption) | exact rd_cellX (by assumption) | exact rd_cellO (by assumption) (by assumption)); exact rfl; exact rfl) | (apply s_loadP0; exact rfl; exact rfl; (first | exact rd_cellP (by assumption) | exact rd_cellX (by assumption) | exact rd_cellO (by assumption) (by assumption)); exact rfl; exact rfl) | (apply s_loadPA; exact rfl; exact rfl; (first | exact rd_cellP (by assumption) | exact rd_cellX (by assumption) | exact rd_cellO (by assumption) (by assumption)); exact rfl; exact rfl) | (apply s_lenA; exact rfl; exact rfl; assumption; exact rfl) | (apply s_indexA; exact rfl; (first | exact isK_c | exact isK_t rfl); exact rfl; exact rfl; assumption; exact rfl; assumption; intro _) | (apply s_indexG; exact rfl; (first | exact isK_c | exact isK_t rfl); exact rfl; exact rfl; (first | assumption | exact OwnF.sl (by assumption)); exact rfl; assumption) | (apply s_andI; (first | exact isK_c | exact isK_t rfl); (first | exact isK_c | exact isK_t rfl); exact rfl; (first | assumption | omega)) | (apply s_shlN; (first | exact isK_c | exact isK_t rfl); (first | exact isK_c | exact isK_t rfl); exact rfl; (first | assumption | omega); (first | assumption | omega)) | (apply s_field; exact rfl; exact rfl; exact Var.ptr (by assumption); exact rfl) | (apply s_loadc; exact rfl; exact rfl; (first | exact rd_varP (by assumption) | exact rd_varX (by assumption) | exact rd_varO (by assumption) (by assumption)); exact rfl; exact rfl) | (apply s_load1; exact rfl; exact rfl; (first | exact rd_varP (by assumption) | exact rd_varX (by assumption) | exact rd_varO (by assumption) (by assumption)); exact rfl) | (apply s_loadV; exact rfl; exact rfl; (first | exact rd_varP (by assumption) | exact rd_varX (by assumption) | exact rd_varO (by assumption) (by assumption)); exact rfl; exact rfl) | (apply s_makeFunc; exact rfl; exact rfl; exact rfl) | (apply s_field2; exact rfl; exact rfl; exact rfl; exact rfl; exact rfl) | (apply s_eqB; exact rfl; exact rfl; exact rfl; exact rfl) | (apply s_neB; exact rfl; exact rfl; exact rfl; exact rfl) | (apply s_eqNil0; exact rfl; exact rfl; exact rfl; exact rfl) | (apply s_eqNil; exact rfl; exact rfl; exact Var.ptr (by assumption); exact rfl; exact rfl) | (apply s_lenF; exact rfl; exact rfl; (first | assumption | exact OwnF.sl (by assumption)); exact rfl) | (apply s_indexF; exact rfl; (first | exact isK_c | exact isK_t rfl); exact rfl; exact rfl; (first | assumption | exact OwnF.sl (by assumption)); exact rfl; (first | assumption | omega)) | (apply s_loadF 0; exact rfl; exact rfl; (first | exact rd_plain (by assumption) | exact rd_extF (by assumption) | exact rd_plain (OwnF.sl (by assumption)) | exact rd_extF (OwnF.sl (by assumption)) | exact rd_onlyF (by assumption) (by assumption)); exact rfl; (first | assumption | omega)) | (apply s_loadF undef; exact rfl; exact rfl; (first | exact rd_plain (by assumption) | exact rd_extF (by assumption) | exact rd_plain (OwnF.sl (by assumption)) | exact rd_extF (OwnF.sl (by assumption)) | exact rd_onlyF (by assumption) (by assumption)); exact rfl; (first | assumption | omega)) | (apply s_loadF (undef, []); exact rfl; exact rfl; (first | exact rd_plain (by assumption) | exact rd_extF (by assumption) | exact rd_plain (OwnF.sl (by assumption)) | exact rd_extF (OwnF.sl (by assumption)) | exact rd_onlyF (by assumption) (by assumption)); exact rfl; (first | assumption | omega)) | (apply s_slice_hF; exact rfl; (first | exact isK_c | exact isK_t rfl); exact rfl; exact rfl; (first | assumption | exact OwnF.sl (by assumption)); exact rfl; (first | assumption | omega)) | (apply s_slice_lF; exact rfl; (first | exact isK_c | exact isK_t rfl); exact rfl; exact rfl; (first | assumption | exact OwnF.sl (by assumption)); exact rfl; (first | assumption | omega)) | (apply s_slice_lhF; exact rfl; (first | exact isK_c | exact isK_t rfl); (first | exact isK_c | exact isK_t rfl); exact rfl; exact rfl; (first | assumption | exact OwnF.sl (by assumption)); exact rfl; (first | assumption | omega); (first | assumption | omega)) | (apply s_eqU; (first | exact isK_c | exact isK_t rfl); (first | exact isK_c | exact isK_t rfl); exact rfl) | (apply s_neU; (first | exact isK_c | exact isK_t rfl); (first | exact isK_c | exact isK_t rfl); exact rfl) | (apply s_ltU; (first | exact isK_c | exact isK_t rfl); (first | exact isK_c | exact isK_t rfl); exact rfl) | (apply s_leU; (first | exact isK_c | exact isK_t rfl); (first | exact isK_c | exact isK_t rfl); exact rfl) | (apply s_gtU; (first | exact isK_c | exact isK_t rfl); (first | exact isK_c | exact isK_t rfl); exact rfl) | (apply s_geU; (first | exact isK_c | exact isK_t rfl); (first | exact isK_c | exact isK_t rfl); exact rfl) | (apply s_eqN; (first | exact isK_c | exact isK_t rfl); (first | exact isK_c | exact isK_t rfl); exact rfl) | (apply s_neN; (first | exact isK_c | exact isK_t rfl); (first | exact isK_c | exact isK_t rfl); exact rfl) | (apply s_ltN; (first | exact isK_c | exact isK_t rfl); (first | exact isK_c | exact isK_t rfl); exact rfl) | (apply s_leN; (first | exact isK_c | exact isK_t rfl); (first | exact isK_c | exact isK_t rfl); exact rfl) | (apply s_gtN; (first | exact isK_c | exact isK_t rfl); (first | exact isK_c | exact isK_t rfl); exact rfl) | (apply s_geN; (first | exact isK_c | exact isK_t rfl); (first | exact isK_c | exact isK_t rfl); exact rfl) | (apply s_eqI; exact rfl; exact rfl; exact rfl) | (apply s_neI; exact rfl; exact rfl; exact rfl) | (apply s_ltI; exact rfl; exact rfl; exact rfl) | (apply s_leI; exact rfl; exact rfl; exact rfl) | (apply s_gtI; exact rfl; exact rfl; exact rfl) | (apply s_geI; exact rfl; exact rfl; exact rfl) | (apply s_addN; (first | exact isK_c | exact isK_t rfl); (first | exact isK_c | exact isK_t rfl); exact rfl; (first | assumption | omega)) | (apply s_subN; (first | exact isK_c | exact isK_t rfl); (first | exact isK_c | exact isK_t rfl); exact rfl; (first | assumption | omega)) | (apply s_mulN; (first | exact isK_c | exact isK_t rfl); (first | exact isK_c | exact isK_t rfl); exact rfl; (first | assumption | omega)) | (apply s_addI; exact rfl; exact rfl; exact rfl; (first | assumption | omega)) | (apply s_subI; exact rfl; exact rfl; exact rfl; (first | assumption | omega)) | (apply s_addU; (first | exact isK_c | exact isK_t rfl); (first | exact isK_c | exact isK_t rfl); exact rfl; (first | assumption | omega)) | (apply s_subU; (first | exact isK_c | exact isK_t rfl); (first | exact isK_c | exact isK_t rfl); exact rfl; (first | assumption | omega)) | (apply s_remU; (first | exact isK_c | exact isK_t rfl); (first | exact isK_c | exact isK_t rfl); exact rfl; (first | assumption | omega)) | (apply s_quoU; (first | exact isK_c | exact isK_t rfl); (first | exact isK_c | exact isK_t rfl); exact rfl; (first | assumption | omega)) | (apply s_mulU; (first | exact isK_c | exact isK_t rfl); (first | exact isK_c | exact isK_t rfl); exact rfl; (first | assumption | omega)) | (apply s_shlU'; (first | exact isK_c | exact isK_t rfl); (first | exact isK_c | exact isK_t rfl); exact rfl; (first | assumption | omega); (first | assumption | omega)) | (apply s_shlU; (first | exact isK_c | exact isK_t rfl); (first | exact isK_c | exact isK_t rfl); exact rfl; (first | assumption | omega)) | (apply s_shrU; (first | exact isK_c | exact isK_t rfl); (first | exact isK_c | exact isK_t rfl); exact rfl; (first | assumption | omega)) | (apply s_andU; (first | exact isK_c | exact isK_t rfl); (first | exact isK_c | exact isK_t rfl); exact rfl; (first | assumption | omega)) | (apply s_orU; (first | exact isK_c | exact isK_t rfl); (first | exact isK_c | exact isK_t rfl); exact rfl; (first | assumption | omega)) | (apply s_xorU; (first | exact isK_c | exact isK_t rfl); (first | exact isK_c | exact isK_t rfl); exact rfl; (first | assumption | omega)) | (apply s_negI; exact rfl; exact rfl; (first | assumption | omega)) | (apply s_negU; (first | exact isK_c | exact isK_t rfl); exact rfl; (first | assumption | omega)) | (apply s_convU; (first | exact isK_c | exact isK_t rfl); exact rfl; exact rfl; exact rfl; (first | assumption | omega)) | (apply s_convI; exact rfl; exact rfl; exact rfl; exact rfl; (first | assumption | omega)) | (apply s_quoN; (first | exact isK_c | exact isK_t rfl); (first | exact isK_c | exact isK_t rfl); exact rfl; (first | assumption | omega)) | (apply s_remN; (first | exact isK_c | exact isK_t rfl); (first | exact isK_c | exact isK_t rfl); exact rfl; (first | assumption | omega)) | (apply s_shrN; (first | exact isK_c | exact isK_t rfl); (first | exact isK_c | exact isK_t rfl); exact rfl; (first | assumption | omega)) | (apply s_convN; (first | exact isK_c | exact isK_t rfl); exact rfl; exact rfl; exact rfl; (first | assumption | omega)) | (apply s_op; exact rfl; exact rfl) | (apply s_skip; exact rfl; exact rfl; exact rfl) | (apply s_nil; exact rfl) | (apply s_op0; exact rfl; exact rfl) | apply then_normal | apply then_ret | apply then_exit | apply inb_normal | apply inb_ret | apply inb_here | (apply inb_past; exact rfl) | apply again_exit | apply again_ret | apply cut_exit | apply cut_ret | (apply w_seq; exact rfl) | (apply r_plain; exact rfl) | (apply w_block; exact rfl) | (apply w_ret; exact rfl) | (apply w_cond_true; exact rfl; exact rfl) | (apply w_cond_false; exact rfl; exact rfl) | (apply w_exit; exact rfl) | (apply w_skip; exact rfl) | (apply w_label; exact rfl) | (apply r_drawnX; exact rfl; exact mixed; kernel_rfl))); exact r.get) : G := k ⟨r⟩
theorem runJN {R G : Prop} (r : R) (k : Res R → G := by intro r; (repeat (first | (apply s_moveNc; exact rfl) | (apply s_assignNc; exact rfl) | (apply s_moveUc; exact rfl) | (apply s_move; exact rfl; exact rfl) | (apply s_assignUc; exact rfl) | (apply s_assign; exact rfl; exact rfl) | (apply s_extract; exact rfl; exact rfl; exact rfl) | (apply s_pickT; exact rfl; exact rfl; exact rfl) | (apply s_pickF; exact rfl; exact rfl; exact rfl) | (apply s_not; exact rfl; exact rfl) | (apply s_nilCheck; exact rfl; exact Var.ptr (by assumption); exact rfl) | (apply s_eqSNil; exact rfl; exact rfl; exact rfl; (first | assumption | exact OwnF.sl (by assumption)); exact rfl) | (apply s_field; exact rfl; (first | exact (rfl : _ = some 0) | exact (rfl : _ = some 1) | exact (rfl : _ = some 2) | exact (rfl : _ = some 3) | exact (rfl : _ = some 4) | exact (rfl : _ = some 5) | exact (rfl : _ = some 6) | exact (rfl : _ = some 7) | exact (rfl : _ = some 8) | exact (rfl : _ = some 9)); (first | exact Var.ptr (by assumption) | exact Cells.ptr (by assumption)); exact rfl) | (apply s_fieldO; exact rfl; (first | exact (rfl : _ = some 0) | exact (rfl : _ = some 1) | exact (rfl : _ = some 2) | exact (rfl : _ = some 3) | exact (rfl : _ = some 4) | exact (rfl : _ = some 5) | exact (rfl : _ = some 6) | exact (rfl : _ = some 7) | exact (rfl : _ = some 8) | exact (rfl : _ = some 9)); (first | exact Var.ptr (by assumption) | exact Cells.ptr (by assumption)); exact rfl) | (apply s_loadG; exact rfl; exact rfl; (first | exact rd_plain (by assumption) | exact rd_extF (by assumption) | exact rd_plain (OwnF.sl (by assumption)) | exact rd_extF (OwnF.sl (by assumption)) | exact rd_onlyF (by assumption) (by assumption)); exact rfl; assumption) | (apply s_loadP; exact rfl; exact rfl; (first | exact rd_cellP (by assumption) | exact rd_cellX (by assumption) | exact rd_cellO (by assumption) (by assumption)); exact rfl; exact rfl) | (apply s_loadP0; exact rfl; exact rfl; (first | exact rd_cellP (by assumption) | exact rd_cellX (by assumption) | exact rd_cellO (by assumption) (by assumption)); exact rfl; exact rfl) | (apply s_loadPA; exact rfl; exact rfl; (first | exact rd_cellP (by assumption) | exact rd_cellX (by assumption) | exact rd_cellO (by assumption) (by assumption)); exact rfl; exact rfl) | (apply s_lenA; exact rfl; exact rfl; assumption; exact rfl) | (apply s_indexA; exact rfl; (first | exact isK_c | exact isK_t rfl); exact rfl; exact rfl; assumption; exact rfl; assumption; intro _) | (apply s_indexG; exact rfl; (first | exact isK_c | exact isK_t rfl); exact rfl; exact rfl; (first | assumption | exact OwnF.sl (by assumption)); exact rfl; assumption) | (apply s_andI; (first | exact isK_c | exact isK_t rfl); (first | exact isK_c | exact isK_t rfl); exact rfl; (first | assumption | omega)) | (apply s_shlN; (first | exact isK_c | exact isK_t rfl); (first | exact isK_c | exact isK_t rfl); exact rfl; (first | assumption | omega); (first | assumption | omega)) | (apply s_field; exact rfl; exact rfl; exact Var.ptr (by assumption); exact rfl) | (apply s_loadc; exact rfl; exact rfl; (first | exact rd_varP (by assumption) | exact rd_varX (by assumption) | exact rd_varO (by assumption) (by assumption)); exact rfl; exact rfl) | (apply s_load1; exact rfl; exact rfl; (first | exact rd_varP (by assumption) | exact rd_varX (by assumption) | exact rd_varO (by assumption) (by assumption)); exact rfl) | (apply s_loadV; exact rfl; exact rfl; (first | exact rd_varP (by assumption) | exact rd_varX (by assumption) | exact rd_varO (by assumption) (by assumption)); exact rfl; exact rfl) | (apply s_makeFunc; exact rfl; exact rfl; exact rfl) | (apply s_field2; exact rfl; exact rfl; exact rfl; exact rfl; exact rfl) | (apply s_eqB; exact rfl; exact rfl; exact rfl; exact rfl) | (apply s_neB; exact rfl; exact rfl; exact rfl; exact rfl) | (apply s_eqNil0; exact rfl; exact rfl; exact rfl; exact rfl) | (apply s_eqNil; exact rfl; exact rfl; exact Var.ptr (by assumption); exact rfl; exact rfl) | (apply s_lenF; exact rfl; exact rfl; (first | assumption | exact OwnF.sl (by assumption)); exact rfl) | (apply s_indexF; exact rfl; (first | exact isK_c | exact isK_t rfl); exact rfl; exact rfl; (first | assumption | exact OwnF.sl (by assumption)); exact rfl; (first | assumption | omega)) | (apply s_loadF 0; exact rfl; exact rfl; (first | exact rd_plain (by assumption) | exact rd_extF (by assumption) | exact rd_plain (OwnF.sl (by assumption)) | exact rd_extF (OwnF.sl (by assumption)) | exact rd_onlyF (by assumption) (by assumption)); exact rfl; (first | assumption | omega)) | (apply s_loadF undef; exact rfl; exact rfl; (first | exact rd_plain (by assumption) | exact rd_extF (by assumption) | exact rd_plain (OwnF.sl (by assumption)) | exact rd_extF (OwnF.sl (by assumption)) | exact rd_onlyF (by assumption) (by assumption)); exact rfl; (first | assumption | omega)) | (apply s_loadF (undef, []); exact rfl; exact rfl; (first | exact rd_plain (by assumption) | exact rd_extF (by assumption) | exact rd_plain (OwnF.sl (by assumption)) | exact rd_extF (OwnF.sl (by assumption)) | exact rd_onlyF (by assumption) (by assumption)); exact rfl; (first | assumption | omega)) | (apply s_slice_hF; exact rfl; (first | exact isK_c | exact isK_t rfl); exact rfl; exact rfl; (first | assumption | exact OwnF.sl (by assumption)); exact rfl; (first | assumption | omega)) | (apply s_slice_lF; exact rfl; (first | exact isK_c | exact isK_t rfl); exact rfl; exact rfl; (first | assumption | exact OwnF.sl (by assumption)); exact rfl; (first | assumption | omega)) | (apply s_slice_lhF; exact rfl; (first | exact isK_c | exact isK_t rfl); (first | exact isK_c | exact isK_t rfl); exact rfl; exact rfl; (first | assumption | exact OwnF.sl (by assumption)); exact rfl; (first | assumption | omega); (first | assumption | omega)) | (apply s_eqU; (first | exact isK_c | exact isK_t rfl); (first | exact isK_c | exact isK_t rfl); exact rfl) | (apply s_neU; (first | exact isK_c | exact isK_t rfl); (first | exact isK_c | exact isK_t rfl); exact rfl) | (apply s_ltU; (first | exact isK_c | exact isK_t rfl); (first | exact isK_c | exact isK_t rfl); exact rfl) | (apply s_leU; (first | exact isK_c | exact isK_t rfl); (first | exact isK_c | exact isK_t rfl); exact rfl) | (apply s_gtU; (first | exact isK_c | exact isK_t rfl); (first | exact isK_c | exact isK_t rfl); exact rfl) | (apply s_geU; (first | exact isK_c | exact isK_t rfl); (first | exact isK_c | exact isK_t rfl); exact rfl) | (apply s_eqN; (first | exact isK_c | exact isK_t rfl); (first | exact isK_c | exact isK_t rfl); exact rfl) | (apply s_neN; (first | exact isK_c | exact isK_t rfl); (first | exact isK_c | exact isK_t rfl); exact rfl) | (apply s_ltN; (first | exact isK_c | exact isK_t rfl); (first | exact isK_c | exact isK_t rfl); exact rfl) | (apply s_leN; (first | exact isK_c | exact isK_t rfl); (first | exact isK_c | exact isK_t rfl); exact rfl) | (apply s_gtN; (first | exact isK_c | exact isK_t rfl); (first | exact isK_c | exact isK_t rfl); exact rfl) | (apply s_geN; (first | exact isK_c | exact isK_t rfl); (first | exact isK_c | exact isK_t rfl); exact rfl) | (apply s_eqI; exact rfl; exact rfl; exact rfl) | (apply s_neI; exact rfl; exact rfl; exact rfl) | (apply s_ltI; exact rfl; exact rfl; exact rfl) | (apply s_leI; exact rfl; exact rfl; exact rfl) | (apply s_gtI; exact rfl; exact rfl; exact rfl) | (apply s_geI; exact rfl; exact rfl; exact rfl) | (apply s_addN; (first | exact isK_c | exact isK_t rfl); (first | exact isK_c | exact isK_t rfl); exact rfl; (first | assumption | omega)) | (apply s_subN; (first | exact isK_c | exact isK_t rfl); (first | exact isK_c | exact isK_t rfl); exact rfl; (first | assumption | omega)) | (apply s_mulN; (first | exact isK_c | exact isK_t rfl); (first | exact isK_c | exact isK_t rfl); exact rfl; (first | assumption | omega)) | (apply s_addI; exact rfl; exact rfl; exact rfl; (first | assumption | omega)) | (apply s_subI; exact rfl; exact rfl; exact rfl; (first | assumption | omega)) | (apply s_addU; (first | exact isK_c | exact isK_t rfl); (first | exact isK_c | exact isK_t rfl); exact rfl; (first | assumption | omega)) | (apply s_subU; (first | exact isK_c | exact isK_t rfl); (first | exact isK_c | exact isK_t rfl); exact rfl; (first | assumption | omega)) | (apply s_remU; (first | exact isK_c | exact isK_t rfl); (first | exact isK_c | exact isK_t rfl); exact rfl; (first | assumption | omega)) | (apply s_quoU; (first | exact isK_c | exact isK_t rfl); (first | exact isK_c | exact isK_t rfl); exact rfl; (first | assumption | omega)) | (apply s_mulU; (first | exact isK_c | exact isK_t rfl); (first | exact isK_c | exact isK_t rfl); exact rfl; (first | assumption | omega)) | (apply s_shlU'; (first | exact isK_c | exact isK_t rfl); (first | exact isK_c | exact isK_t rfl); exact rfl; (first | assumption | omega); (first | assumption | omega)) | (apply s_shlU; (first | exact isK_c | exact isK_t rfl); (first | exact isK_c | exact isK_t rfl); exact rfl; (first | assumption | omega)) | (apply s_shrU; (first | exact isK_c | exact isK_t rfl); (first | exact isK_c | exact isK_t rfl); exact rfl; (first | assumption | omega)) | (apply s_andU; (first | exact isK_c | exact isK_t rfl); (first | exact isK_c | exact isK_t rfl); exact rfl; (first | assumption | omega)) | (apply s_orU; (first | exact isK_c | exact isK_t rfl); (first | exact isK_c | exact isK_t rfl); exact rfl; (first | assumption | omega)) | (apply s_xorU; (first | exact isK_c | exact isK_t rfl); (first | exact isK_c | exact isK_t rfl); exact rfl; (first | assumption | omega)) | (apply s_negI; exact rfl; exact rfl; (first | assumption | omega)) | (apply s_negU; (first | exact isK_c | exact isK_t rfl); exact rfl; (first | assumption | omega)) | (apply s_convU; (first | exact isK_c | exact isK_t rfl); exact rfl; exact rfl; exact rfl; (first | assumption | omega)) | (apply s_convI; exact rfl; exact rfl; exact rfl; exact rfl; (first | assumption | omega)) | (apply s_quoN; (first | exact isK_c | exact isK_t rfl); (first | exact isK_c | exact isK_t rfl); exact rfl; (first | assumption | omega)) | (apply s_remN; (first | exact isK_c | exact isK_t rfl); (first | exact isK_c | exact isK_t rfl); exact rfl; (first | assumption | omega)) | (apply s_shrN; (first | exact isK_c | exact isK_t rfl); (first | exact isK_c | exact isK_t rfl); exact rfl; (first | assumption | omega)) | (apply s_convN; (first | exact isK_c | exact isK_t rfl); exact rfl; exact rfl; exact rfl; (first | assumption | omega)) | (apply s_op; exact rfl; exact rfl) | (apply s_skip; exact rfl; exact rfl; exact rfl) | (apply s_nil; exact rfl) | (apply s_op0; exact rfl; exact rfl) | apply then_normal | apply then_ret | apply then_exit | apply inb_normal | apply inb_ret | apply inb_here | (apply inb_past; exact rfl) | apply again_exit | apply again_ret | apply cut_exit | apply cut_ret | (apply w_seq; exact rfl) | (apply r_plain; exact rfl) | (apply w_block; exact rfl) | (apply w_ret; exact rfl) | (apply w_cond_true; exact rfl; exact rfl) | (apply w_cond_false; exact rfl; exact rfl) | (apply w_exit; exact rfl) | (apply w_skip; exact rfl) | (apply w_label; exact rfl))); exact r.get) : G := k ⟨r⟩
end Go.Den

/- Own calculus, part J: append of one element whose like may be of any kind. No condition. -/
namespace Go.Den
set_option linter.unusedVariables false
set_option maxRecDepth 8000
open Go Go.RowKit
section
variable {P : Program} {n : Nat} {Q : Post} {l : Fr} {h : Hp} {ops : List Oper} {Ch : Hp → Prop} {E : Nat → Bool} {i : Nat}
variable {d : Nat} {t : TypeId} {x y z : Operand} {yt : TypeId}
/-- append of one element, which is laid in a row of its own first. -/
theorem s_app1V {α : Type} {f : α → Value} {h0 : Hp} {xs : List α} {v : Value} {e : TypeId} (a : α) (own : OwnF h h0.size e f v xs) (ext : Ext h0 h) {d1 d2 bytes : Nat} {z0 : Value} {ty2 : TypeId} {ps2 : String} {af2 : Array Edge}
    (ho2 : opAt ops (i + 1) = some ⟨some d2, .call ⟨.builtin .append, #[x, .tmp d1], #[t, t]⟩, ty2, ps2, af2, none⟩)
    (hb1 : Nat.blt d1 n = true) (hb2 : Nat.blt d2 n = true) (hn : look l d1 = none) (ht : P.underlying t = some (.slice e)) (hi : (P.info? e).map (fun i => (i.size, i.bytes, i.zero)) = some (1, bytes, some z0)) (hz1 : z0.oneCell' = true)
    (hx : ev ((d1, undef) :: l) x = some v) (hx' : ev l x = some v) (hz : ev l z = some (f a)) (h1 : (f a).oneCell' = true) (hE1 : E i = true) (hE2 : E (i + 1) = true) (hC : ∀ h', Ext h0 h' → Ch h')
    (hby : (xs.length + 1) * bytes ≤ 140737488355328) (h63 : xs.length + 1 ≤ maxLen)
    (k : ∀ v' h', OwnF h' h0.size e f v' (xs ++ [a]) → Ext h0 h' → Only v.ownBlock h h' → (v'.ownBlock = v.ownBlock ∨ ∃ b, v'.ownBlock = some b ∧ h.size ≤ b) → S P n ops Ch E Q (i + 2) ((d2, v') :: l) h') : O P n ops Ch E Q i d1 (.buildSlice t 1 #[(0, z)]) l h := by
  refine (s_lit [a] (vs := [f a]) (by simp only [List.map_cons, List.map_nil, evs, hz]) rfl rfl rfl ht hi (by simpa using h1) hz1 hE1 hb1 (by omega) fun u ha o1 e1 _ => ⟨hC _ (ext.trans e1), ?_⟩)
  have hxu : ev ((d1, u) :: l) x = some v := by
    cases x with
    | tmp t =>
      simp only [ev, look] at hx hx' ⊢
      cases ht : Nat.beq t d1 with
      | true => have := Nat.eq_of_beq_eq_true ht; subst this; rw [hn] at hx'; cases hx'
      | false => exact hx'
    | const c => exact hx'
    | global c => exact hx'
    | func c => exact hx'
  have hsz := ext_size e1
  have hsz0 := ext_size ext
  refine s_op ho2 rfl (s_append (s := 1) (m := xs.length) (k' := 1) (cs := xs.map f) (news := [a].map f) hxu (show ev ((d1, u) :: l) (.tmp d1) = some u by simp only [ev, look, Nat.beq_refl, cond_true]) ht hi (by cases z0 <;> first | rfl | cases hz1) Nat.zero_lt_one hE2 hb2 (own.ext e1) o1.sl (by simp) (by simpa using h1) (by omega) h63 hby fun v' h' o2' k2 b2 => ?_)
  have o2 : OwnF h' h0.size e f v' (xs ++ [a]) := by unfold OwnF; rw [List.length_append, List.map_append]; exact o2'
  have ext2 : Ext h0 h' := (own.ext e1).old k2 (ext.trans e1) (Nat.le_refl _)
  refine ⟨hC _ ext2, s_sub (l' := (d2, v') :: l) ?_ (k v' h' o2 ext2 ((e1.only _).trans k2) ?_)⟩
  · intro j w hw
    simp only [look] at hw ⊢
    cases hj : Nat.beq j d2 with
    | true => rw [hj] at hw; exact hw
    | false =>
      rw [hj] at hw
      simp only [cond_false] at hw ⊢
      cases hj1 : Nat.beq j d1 with
      | true => have := Nat.eq_of_beq_eq_true hj1; subst this; rw [hn] at hw; cases hw
      | false => exact hw
  · rcases b2 with b2 | ⟨b, hb, hlt⟩
    · exact .inl b2
    · exact .inr ⟨b, hb, by omega⟩
end
end Go.Den

/- Own calculus, part K: literals of structs. No condition. -/
namespace Go.Den
set_option linter.unusedVariables false
set_option maxRecDepth 8000
open Go Go.RowKit

def fillP (place : Nat → Option (Nat × Nat)) : List Value → List (Nat × List Value) → Option (List Value)
  | cells, [] => some cells
  | cells, (i, us) :: rest => match place i with
    | none => none
    | some (off, size) => bif Nat.beq us.length size && Nat.ble (off + us.length) cells.length then fillP place (cells.take off ++ us ++ cells.drop (off + us.length)) rest else none

theorem fill_fillP {place : Nat → Option (Nat × Nat)} : ∀ (parts : List (Nat × Value)) (cells cs : List Value), fillP place cells (parts.map fun x => (x.1, x.2.cells.toList)) = some cs → Instr.fill place cells.toArray parts = some cs.toArray
  | [], cells, cs, e => by simp [fillP] at e; simp [Instr.fill, e]
  | (i, v) :: rest, cells, cs, e => by
    simp only [List.map_cons, fillP] at e
    simp only [Instr.fill]
    cases ho : place i with
    | none => rw [ho] at e; cases e
    | some p =>
      obtain ⟨off, size⟩ := p
      rw [ho] at e
      simp only at e
      cases hb : (Nat.beq v.cells.toList.length size && Nat.ble (off + v.cells.toList.length) cells.length) with
      | false => rw [hb] at e; cases e
      | true =>
        rw [hb] at e
        simp only [cond_true] at e
        simp only [Bool.and_eq_true] at hb
        have h1 := Nat.eq_of_beq_eq_true hb.1
        have h2 := Nat.le_of_ble_eq_true hb.2
        simp only [Array.length_toList] at h1 h2
        have h3 : ¬ (v.cells.size ≠ size ∨ off + v.cells.size > cells.toArray.size) := by simp [h1] at h2 ⊢; omega
        simp only [decide_eq_true_eq, Bool.or_eq_true, h3, if_false]
        have hf := fold_set v.cells.toList off 0 cells (by simpa using h2)
        simp only [Nat.add_zero, Array.length_toList] at hf
        have hz : v.cells.zipIdx = (v.cells.toList.zipIdx 0).toArray := by apply Array.ext'; simp
        have hfold : Array.foldl (fun cs x => cs.setIfInBounds (off + x.snd) x.fst) cells.toArray v.cells.zipIdx = (cells.take off ++ v.cells.toList ++ cells.drop (off + v.cells.size)).toArray := by
          apply Array.ext'
          rw [hz, List.foldl_toArray]
          exact hf
        rw [hfold]
        exact fill_fillP rest _ _ (by simpa using e)

section rules
variable {P : Program} {n : Nat} {Q : Post} {l : Fr} {h : Hp} {ops : List Oper} {Ch : Hp → Prop} {E : Nat → Bool} {i : Nat}
variable {d : Nat} {t : TypeId} {x y z : Operand}

/-- []T{..}, T of s cells. -/
theorem s_litC {ln s : Nat} {parts : Array (Nat × Operand)} {vs : List Value} {css : List (List Value)} {e : TypeId} {zc : List Value} (cs : List Value) (he : evs l (parts.toList.map (·.2)) = some vs) (hc : CellsAll vs css)
    (ht : P.underlying t = some (.slice e)) (hi : (P.info? e).map (fun i => (i.size, i.zero.map fun z => z.cells.toList)) = some (s, some zc)) (hs : Nat.beq zc.length s = true) (hs0 : Nat.blt 0 s = true) (h0 : Nat.blt 0 ln = true) (hln : Nat.ble (ln * s) 16777216 = true)
    (hf : fillP (fun i => some (i * s, s)) ((List.range (ln * s)).map fun j => zc.getD (j % s) undef) ((parts.toList.map (·.1)).zip css) = some cs) (hcl : Nat.beq cs.length (ln * s) = true) (hE : E i = true) (hb : Nat.blt d n = true)
    (k : ∀ v h', Own h' h.size e s v ln cs → Ext h h' → v.ownBlock = some h.size → Ch h' ∧ S P n ops Ch E Q (i + 1) ((d, v) :: l) h') : O P n ops Ch E Q i d (.buildSlice t ln parts) l h :=
  O.mk fun hop hg => s_eff hop hE hg fun a w hfit hw => by
    subst hw
    have hs := Nat.eq_of_beq_eq_true hs
    have hcl := Nat.eq_of_beq_eq_true hcl
    have hs0 : 0 < s := Nat.le_of_ble_eq_true hs0
    have h0 : 0 < ln := Nat.le_of_ble_eq_true h0
    have hln := Nat.le_of_ble_eq_true hln
    cases hq : P.info? e with
    | none => rw [hq] at hi; cases hi
    | some inf =>
      rw [hq] at hi
      simp only [Option.map_some, Option.some.injEq, Prod.mk.injEq] at hi
      obtain ⟨i1, i3⟩ := hi
      cases hz : inf.zero with
      | none => rw [hz] at i3; cases i3
      | some z =>
        rw [hz] at i3
        simp only [Option.map_some, Option.some.injEq] at i3
        have hzs : z.cells.size = s := by rw [← hs, ← i3]; simp
        have hpa : (parts.map fun (i, x) => (i, a.eval x)).toList = (parts.toList.map (·.1)).zip vs := by
          rw [← hfit.evs he, Array.toList_map, List.map_map, List.zip_map']; rfl
        have hzip : ((parts.toList.map (·.1)).zip vs).map (fun x => (x.1, x.2.cells.toList)) = (parts.toList.map (·.1)).zip css := by
          rw [← hc.eq, List.zip_map_right]; rfl
        have hmade : ((Array.range (ln * inf.size)).map (z.cells[· % z.cells.size]!)) = ((List.range (ln * s)).map fun j => zc.getD (j % s) undef).toArray := by
          apply Array.ext'
          rw [i1]
          simp only [Array.toList_map, Array.toList_range]
          apply List.map_congr_left
          intro j hj
          have hj1 : j % s < s := Nat.mod_lt _ hs0
          rw [hzs, getElem!_pos z.cells (j % s) (by omega), ← i3, List.getD_eq_getElem?_getD, List.getElem?_eq_getElem (by simp; omega)]
          simp
        have hr := Go.run_buildSlice (P := P) w t e ln (parts.map fun (i, x) => (i, a.eval x)) cs.toArray inf z ht hq hz (by rw [i1]; omega) (by rw [i1]; exact Nat.ne_of_gt (Nat.mul_pos h0 hs0)) (by
          rw [hmade, i1, hpa]
          exact fill_fillP _ _ _ (by rw [hzip]; exact hf))
        have ho : Own (w.alloc (.cells cs.toArray e)).heap w.heap.size e s (.slice (some ⟨w.heap.size, 0, none⟩) ln ln) ln cs :=
          ⟨hcl, .inr ⟨w.heap.size, ln, _, rfl, Nat.le_refl _, heap_alloc_new w _, Nat.le_refl _, by
            have : ln ≤ ln * s := Nat.le_mul_of_pos_right _ hs0
            simp [maxLen]; omega, by simp [hcl], by rw [← hcl]; simp⟩⟩
        have := k _ _ ho (Ext.push _ _) rfl
        unfold Eff
        simp only [execOp, Sem.run_bind, hr]
        exact ⟨⟨rfl, rfl, rfl⟩, this.1, _, hfit.put d _ hb, this.2⟩
end rules
end Go.Den

/- Own calculus, part L: arrays in variables. No condition. -/
namespace Go.Den
set_option linter.unusedVariables false
set_option maxRecDepth 8000
open Go Go.RowKit
theorem look_know {l : Fr} {t : Nat} {v : Value} (e : look l t = some v) (j : Nat) : look ((t, v) :: l) j = look l j := by
  simp only [look]
  cases hj : Nat.beq j t with
  | true => have := Nat.eq_of_beq_eq_true hj; subst this; exact e.symm
  | false => rfl
section rules
variable {P : Program} {n : Nat} {Q : Post} {l : Fr} {h : Hp} {ops : List Oper} {Ch : Hp → Prop} {E : Nat → Bool} {i : Nat}
variable {d : Nat} {t : TypeId} {x y z : Operand}
theorem o_know {op : Op} {t : Nat} {v u : Value} (e : look l t = some v) (hu : v = u) (k : O P n ops Ch E Q i d op ((t, u) :: l) h) : O P n ops Ch E Q i d op l h := by
  subst hu
  refine O.mk fun ho hg => s_know e rfl (k.get ho ?_)
  unfold gd at hg ⊢
  split at hg
  · rfl
  · simp only [look_know e]
    exact hg
theorem s_indexArr {p : Value} {j m : Nat} {e : TypeId} {yk : IntKind} (hx : ev l x = some p) (hp : isPtr p = true) (hy : IsK (ev l y) yk j) (ht : P.underlying t = some (.array m e)) (hz : (P.info? e).map (·.size) = some 1) (hb : Nat.blt d n = true) (hj : j < m)
    (k : S P n ops Ch E Q (i + 1) ((d, ptrOff p j) :: l) h) : O P n ops Ch E Q i d (.indexAddr t x y) l h :=
  s_pure hb (fun a w' hf => by
    cases p <;> try cases hp
    rename_i ad
    cases ad with
    | none => cases hp
    | some ad =>
      cases hi : P.info? e with
      | none => rw [hi] at hz; cases hz
      | some inf =>
        rw [hi] at hz
        simp only [Option.map_some, Option.some.injEq] at hz
        have hj' : (j : Int) < m := by omega
        simp [execOp, hf.ev hx, hf.ev hy.h, Instr.indexAt, run_underlying ht, asIntOf, Instr.sureAddr, sizeOf, typeInfo, hi, hz, hj, ptrOff]) k
end rules
end Go.Den
