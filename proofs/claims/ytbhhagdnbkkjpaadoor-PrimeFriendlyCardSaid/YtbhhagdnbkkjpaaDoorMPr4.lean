/- Texts DenD to DenE of this work, joined: each says in its own head what it proves, and of which condition. -/
import Derived.Test.YtbhhagdnbkkjpaaDoorMPr3
/- Own calculus, part D: slices. Rows of cells, read and owned; what they are behind each change; one rule for each operation on them. No condition. -/
namespace Go.Den
set_option linter.unusedVariables false
set_option maxRecDepth 8000
open Go Go.RowKit

/-! ### Heaps -/

def cellH (h : Hp) (b o : Nat) : Option Value := match h[b]? with
  | some (.cells c _ _) => c[o]?
  | _ => none
theorem cell?_cellH (w : World) (b o : Nat) : w.cell? ⟨b, o, none⟩ = cellH w.heap b o := by
  unfold World.cell? cellH
  cases w.heap[b]? with
  | none => rfl
  | some o => cases o <;> rfl

/-- Nothing that was there has changed, but for one block. -/
def Only (r : Option Nat) (h h' : Hp) : Prop := h.size ≤ h'.size ∧ ∀ k, k < h.size → some k ≠ r → h'[k]? = h[k]?
theorem Ext.only {h h' : Hp} (e : Ext h h') (r : Option Nat) : Only r h h' := ⟨e.1, fun k hk _ => e.2 k hk⟩
theorem Only.ext {h h' : Hp} (e : Only none h h') : Ext h h' := ⟨e.1, fun k hk => e.2 k hk (by simp)⟩
theorem Only.refl (r : Option Nat) (h : Hp) : Only r h h := ⟨Nat.le_refl _, fun _ _ _ => rfl⟩
theorem Only.trans {r : Option Nat} {a b c : Hp} (h : Only r a b) (k : Only r b c) : Only r a c :=
  ⟨Nat.le_trans h.1 k.1, fun i hi hn => (k.2 i (Nat.lt_of_lt_of_le hi h.1) hn).trans (h.2 i hi hn)⟩
/-- What changed is none of the old blocks. -/
theorem Only.old {r : Option Nat} {h0 h h' : Hp} (o : Only r h h') (e : Ext h0 h) (hr : ∀ k, r = some k → h0.size ≤ k) : Ext h0 h' :=
  ⟨Nat.le_trans e.1 o.1, fun k hk => (o.2 k (Nat.lt_of_lt_of_le hk e.1) (fun q => by have := hr k q.symm; omega)).trans (e.2 k hk)⟩

theorem cellH_lt {h : Hp} {b o : Nat} {u : Value} (hc : cellH h b o = some u) : b < h.size := by
  unfold cellH at hc
  by_cases hb : b < h.size
  · exact hb
  · rw [Array.getElem?_eq_none (by omega)] at hc; cases hc
theorem cellH_only {r : Option Nat} {h h' : Hp} {b o : Nat} {u : Value} (e : Only r h h') (hne : some b ≠ r) (hc : cellH h b o = some u) : cellH h' b o = some u := by
  have := cellH_lt hc
  unfold cellH at hc ⊢
  rw [e.2 b this hne]; exact hc

/-- v reads as n elements, whose cells are cs. -/
def Sl (h : Hp) (v : Value) (n : Nat) (cs : List Value) : Prop :=
  ((∃ a c, v = .slice a 0 c ∧ (a = none → c = 0)) ∧ n = 0 ∧ cs = []) ∨ ∃ b o c, v = .slice (some ⟨b, o, none⟩) n c ∧ n ≤ c ∧ ∀ j u, cs[j]? = some u → cellH h b (o + j) = some u

theorem Sl.nil (h : Hp) : Sl h (.slice none 0 0) 0 [] := .inl ⟨⟨none, 0, rfl, fun _ => rfl⟩, rfl, rfl⟩
theorem Sl.empty (h : Hp) (a : Addr) (c : Nat) : Sl h (.slice (some a) 0 c) 0 [] := .inl ⟨⟨some a, c, rfl, fun e => by cases e⟩, rfl, rfl⟩
theorem Sl.only {r : Option Nat} {h h' : Hp} {v : Value} {n : Nat} {cs : List Value} (s : Sl h v n cs) (e : Only r h h') (hne : v.ownBlock = none ∨ v.ownBlock ≠ r) : Sl h' v n cs := by
  rcases s with s | ⟨b, o, c, rfl, hc, s⟩
  · exact .inl s
  · exact .inr ⟨b, o, c, rfl, hc, fun j u hu => cellH_only e (by simpa [Value.ownBlock] using hne) (s j u hu)⟩
theorem Sl.ext {h h' : Hp} {v : Value} {n : Nat} {cs : List Value} (s : Sl h v n cs) (e : Ext h h') : Sl h' v n cs := by
  rcases s with s | ⟨b, o, c, rfl, hc, s⟩
  · exact .inl s
  · exact .inr ⟨b, o, c, rfl, hc, fun j u hu => cellH_only (e.only none) (by simp) (s j u hu)⟩
theorem Sl.len {h : Hp} {v : Value} {n : Nat} {cs : List Value} (s : Sl h v n cs) : ∃ a c, v = .slice a n c ∧ n ≤ c := by
  rcases s with ⟨⟨a, c, rfl, -⟩, rfl, rfl⟩ | ⟨b, o, c, rfl, hc, s⟩
  · exact ⟨_, _, rfl, Nat.zero_le _⟩
  · exact ⟨_, _, rfl, hc⟩

/-- The pointer to the cell number k behind a slice's front. -/
def ptrAt : Value → Nat → Value
  | .slice (some a) _ _, k => .pointer (some (a.add k))
  | _, _ => undef
/-- v[lo:hi]; s cells an element. -/
def cutV (s : Nat) (v : Value) (lo hi : Nat) : Value := match v with
  | .slice a n c => .slice (if c = lo then a else a.map (·.add (lo * s))) (hi - lo) (c - lo)
  | v => v

theorem Sl.cut {h : Hp} {v : Value} {n : Nat} {cs : List Value} {s lo hi : Nat} (S : Sl h v n cs) (hn : cs.length = n * s) (h1 : lo ≤ hi) (h2 : hi ≤ n) : Sl h (cutV s v lo hi) (hi - lo) ((cs.drop (lo * s)).take ((hi - lo) * s)) := by
  rcases S with ⟨⟨a, c, rfl, ha⟩, rfl, rfl⟩ | ⟨b, o, c, rfl, hc, S⟩
  · have : lo = 0 := by omega
    have : hi = 0 := by omega
    subst lo hi
    refine .inl ⟨⟨_, _, rfl, fun e => ?_⟩, rfl, by simp⟩
    cases a with
    | none => rw [ha rfl]
    | some a => split at e <;> cases e
  · refine .inr ⟨b, if c = lo then o else o + lo * s, c - lo, ?_, by omega, fun j u hu => ?_⟩
    · simp only [cutV]
      split
      · rfl
      · simp [Addr.add_lit]
    · rw [List.getElem?_take] at hu
      split at hu
      · rw [List.getElem?_drop] at hu
        split
        · rename_i he hcl
          have : hi - lo = 0 := by omega
          rw [this] at he; simp at he
        · have := S _ _ hu
          rw [← Nat.add_assoc] at this; exact this
      · cases hu

/-! ### Rows that the call itself has made -/

/-- nil, or the front of a block from number B on: n elements of s cells, whose cells are cs. -/
def Own (h : Hp) (B : Nat) (e : TypeId) (s : Nat) (v : Value) (n : Nat) (cs : List Value) : Prop :=
  cs.length = n * s ∧ ((v = .slice none 0 0 ∧ n = 0) ∨
    ∃ g cap cur, v = .slice (some ⟨g, 0, none⟩) n cap ∧ B ≤ g ∧ h[g]? = some (.cells cur e (0, 0)) ∧ n ≤ cap ∧ cap ≤ maxLen ∧ cur.size = cap * s ∧ cur.toList.take (n * s) = cs)
theorem own_iff (w : World) (B : Nat) (e : TypeId) (s : Nat) (v : Value) (n : Nat) (cs : List Value) : w.ownsRow B e s v n cs ↔ Own w.heap B e s v n cs := Iff.rfl

section own
variable {h h' : Hp} {B : Nat} {e : TypeId} {s : Nat} {v : Value} {n : Nat} {cs : List Value}

theorem Own.nil (h : Hp) (B : Nat) (e : TypeId) (s : Nat) : Own h B e s (.slice none 0 0) 0 [] := ⟨by simp, .inl ⟨rfl, rfl⟩⟩
theorem Own.sl (o : Own h B e s v n cs) : Sl h v n cs := by
  obtain ⟨hl, ⟨rfl, rfl⟩ | ⟨g, cap, cur, rfl, hB, hg, hc, -, hs, ht⟩⟩ := o
  · exact .inl ⟨⟨none, 0, rfl, fun _ => rfl⟩, rfl, List.eq_nil_of_length_eq_zero (by simpa using hl)⟩
  · refine .inr ⟨g, 0, cap, rfl, hc, fun j u hu => ?_⟩
    rw [← ht, List.getElem?_take] at hu
    split at hu
    · simp only [cellH, hg, Nat.zero_add]; simpa using hu
    · cases hu
theorem Own.only {r : Option Nat} (o : Own h B e s v n cs) (k : Only r h h') (hne : v.ownBlock = none ∨ v.ownBlock ≠ r) : Own h' B e s v n cs := by
  obtain ⟨hl, hn | ⟨g, cap, cur, rfl, hB, hg, rest⟩⟩ := o
  · exact ⟨hl, .inl hn⟩
  · refine ⟨hl, .inr ⟨g, cap, cur, rfl, hB, ?_, rest⟩⟩
    rw [k.2 g (Array.getElem?_eq_some_iff.1 hg).1 (by simpa [Value.ownBlock] using hne)]
    exact hg
theorem Own.ext (o : Own h B e s v n cs) (k : Ext h h') : Own h' B e s v n cs := o.only (k.only none) (by cases v.ownBlock <;> simp)
theorem Own.base {B' : Nat} (o : Own h B e s v n cs) (hB : B' ≤ B) : Own h B' e s v n cs := by
  obtain ⟨hl, hn | ⟨g, cap, cur, rfl, hg, rest⟩⟩ := o
  · exact ⟨hl, .inl hn⟩
  · exact ⟨hl, .inr ⟨g, cap, cur, rfl, Nat.le_trans hB hg, rest⟩⟩
theorem Own.blk (o : Own h B e s v n cs) : ∀ k, v.ownBlock = some k → B ≤ k ∧ k < h.size := by
  intro k hk
  obtain ⟨hl, ⟨rfl, rfl⟩ | ⟨g, cap, cur, rfl, hB, hg, rest⟩⟩ := o
  · simp [Value.ownBlock] at hk
  · simp [Value.ownBlock] at hk; subst hk
    exact ⟨hB, (Array.getElem?_eq_some_iff.1 hg).1⟩
/-- What changed is the call's own row: none of the old ones. -/
theorem Own.old {h0 : Hp} (o : Own h B e s v n cs) (k : Only v.ownBlock h h') (x : Ext h0 h) (hB : h0.size ≤ B) : Ext h0 h' :=
  k.old x fun i hi => Nat.le_trans hB (o.blk i hi).1
/-- A shorter front. -/
theorem Own.front (o : Own h B e s v n cs) {k : Nat} (hk : k ≤ n) : Own h B e s (cutV s v 0 k) k (cs.take (k * s)) := by
  obtain ⟨hl, ⟨rfl, rfl⟩ | ⟨g, cap, cur, rfl, hB, hg, hc, hm, hs, ht⟩⟩ := o
  · have : k = 0 := by omega
    subst this
    exact ⟨by simp, .inl ⟨by simp [cutV], rfl⟩⟩
  · have hks : k * s ≤ n * s := Nat.mul_le_mul_right s hk
    refine ⟨by rw [List.length_take, hl]; omega, .inr ⟨g, cap, cur, ?_, hB, hg, by omega, hm, hs, ?_⟩⟩
    · simp only [cutV, Nat.zero_mul, Nat.sub_zero]
      split <;> simp [Addr.add]
    · rw [← ht, List.take_take, Nat.min_eq_left hks]
end own

/-- Elements of one cell, by the list of what they are. -/
def SlF {α : Type} (h : Hp) (f : α → Value) (v : Value) (xs : List α) : Prop := Sl h v xs.length (xs.map f)
def OwnF {α : Type} (h : Hp) (B : Nat) (e : TypeId) (f : α → Value) (v : Value) (xs : List α) : Prop := Own h B e 1 v xs.length (xs.map f)
section
variable {α : Type} {h h' : Hp} {B : Nat} {e : TypeId} {f : α → Value} {v : Value} {xs : List α}
theorem SlF.ext (s : SlF h f v xs) (e : Ext h h') : SlF h' f v xs := Sl.ext s e
theorem SlF.only {r : Option Nat} (s : SlF h f v xs) (e : Only r h h') (hne : v.ownBlock = none ∨ v.ownBlock ≠ r) : SlF h' f v xs := Sl.only s e hne
theorem SlF.cut {lo hi : Nat} (s : SlF h f v xs) (h1 : lo ≤ hi) (h2 : hi ≤ xs.length) : SlF h f (cutV 1 v lo hi) ((xs.drop lo).take (hi - lo)) := by
  have := Sl.cut (s := 1) s (by simp) h1 h2
  unfold SlF
  rw [List.length_take, List.length_drop, Nat.min_eq_left (by omega), List.map_take, List.map_drop]
  simpa using this
theorem OwnF.sl (o : OwnF h B e f v xs) : SlF h f v xs := Own.sl o
theorem OwnF.ext (o : OwnF h B e f v xs) (k : Ext h h') : OwnF h' B e f v xs := Own.ext o k
theorem OwnF.only {r : Option Nat} (o : OwnF h B e f v xs) (k : Only r h h') (hne : v.ownBlock = none ∨ v.ownBlock ≠ r) : OwnF h' B e f v xs := Own.only o k hne
theorem OwnF.base {B' : Nat} (o : OwnF h B e f v xs) (hB : B' ≤ B) : OwnF h B' e f v xs := Own.base o hB
theorem OwnF.blk (o : OwnF h B e f v xs) : ∀ k, v.ownBlock = some k → B ≤ k ∧ k < h.size := Own.blk o
theorem OwnF.old {h0 : Hp} (o : OwnF h B e f v xs) (k : Only v.ownBlock h h') (x : Ext h0 h) (hB : h0.size ≤ B) : Ext h0 h' := Own.old o k x hB
theorem OwnF.front (o : OwnF h B e f v xs) {k : Nat} (hk : k ≤ xs.length) : OwnF h B e f (cutV 1 v 0 k) (xs.take k) := by
  have := Own.front o hk
  unfold OwnF
  rw [List.length_take, Nat.min_eq_left hk, List.map_take]
  simpa using this
theorem OwnF.nil (h : Hp) (B : Nat) (e : TypeId) (f : α → Value) : OwnF h B e f (.slice none 0 0) [] := Own.nil h B e 1
theorem SlF.nil (h : Hp) (f : α → Value) : SlF h f (.slice none 0 0) [] := Sl.nil h
end

/-- An int, as a natural number. -/
abbrev N (x : Nat) : Value := .int .i64 ((x : Nat) : Int)

/-! ### The rules -/

/-- p is known of the heap when the operation number i runs. -/
structure Rd (Ch : Hp → Prop) (E : Nat → Bool) (i : Nat) (h : Hp) (p : Hp → Prop) : Prop where mk ::
  get : (E i = true ∧ Ch h ∧ p h) ∨ ∀ h', Ch h' → p h'
theorem rd_plain {i : Nat} {h : Hp} {p : Hp → Prop} (hp : p h) : Rd (fun _ => True) (fun _ => true) i h p := ⟨.inl ⟨rfl, trivial, hp⟩⟩
theorem rd_ext {E : Nat → Bool} {i : Nat} {h h0 : Hp} {v : Value} {n : Nat} {cs : List Value} (hp : Sl h0 v n cs) : Rd (Ext h0) E i h (fun h' => Sl h' v n cs) := ⟨.inr fun _ e => hp.ext e⟩
theorem rd_extF {α : Type} {f : α → Value} {E : Nat → Bool} {i : Nat} {h h0 : Hp} {v : Value} {cs : List α} (hp : SlF h0 f v cs) : Rd (Ext h0) E i h (fun h' => SlF h' f v cs) := ⟨.inr fun _ e => hp.ext e⟩

def plainTy (P : Program) (t : TypeId) : Bool := match P.underlying t with
  | none | some (.struct _) | some (.array _ _) => false
  | some _ => true

theorem run_isAgg_plain {P : Program} {t : TypeId} (ht : plainTy P t = true) (w : World) : (isAgg t).run P w = .ok false w := by
  unfold plainTy at ht
  cases hu : P.underlying t with
  | none => rw [hu] at ht; cases ht
  | some d =>
    rw [hu] at ht
    unfold isAgg
    rw [Sem.run_bind, run_underlying hu w]
    cases d <;> first | rfl | cases ht

theorem run_load1 {P : Program} {t : TypeId} {a : Addr} {w : World} {u : Value} (ht : plainTy P t = true) (hc : w.cell? a = some u) : (Instr.loadAt t (.pointer (some a))).run P w = .ok u w := by
  show ((do let x ← isAgg t; if x then (do pure (.agg (← loadCells a (← sizeOf t)))) else load a : Sem Value)).run P w = _
  rw [Sem.run_bind, run_isAgg_plain ht w]
  simp [hc]

section rules
variable {P : Program} {n : Nat} {Q : Post} {l : Fr} {h : Hp} {ops : List Oper} {Ch : Hp → Prop} {E : Nat → Bool} {i : Nat}
variable {d : Nat} {t : TypeId} {x y z : Operand}

/-- A drawn region that makes blocks and calls, but changes nothing that was there. -/
theorem r_drawnX {c : Code} (hc : tagOf c = .region true) (hm : P.follows .mixedOrders = true) (hok : regionOk (opsOf c) (effB (opsOf c)) = true)
    (k : S P n (opsOf c) (Ext h) (effB (opsOf c)) Q 0 l h) : W P n c Q l h := r_drawn (Ext h) (effB (opsOf c)) hc hm hok (Ext.refl h) k

/-- An operation that reads. -/
theorem s_read {op : Op} {v : Value} (hb : Nat.blt d n = true) (p : Hp → Prop) (hr : Rd Ch E i h p)
    (hv : ∀ {ty : TypeId} {ps : String} {af : Array Edge} {g : Option (Nat × Bool)} a w', Fits l n a → p w'.heap → (execOp a.eval ⟨some d, op, ty, ps, af, g⟩).run P w' = .ok (.value v) w')
    (k : S P n ops Ch E Q (i + 1) ((d, v) :: l) h) : O P n ops Ch E Q i d op l h := O.mk fun ho hg => by
  rcases hr.get with ⟨h1, h2, h3⟩ | h1
  · refine s_eff ho h1 hg fun a w hf hw => ?_
    unfold Eff
    rw [hv a w hf (by rw [hw]; exact h3)]
    exact ⟨Oth.refl w, by rw [hw]; exact h2, _, hf.put d v hb, by rw [hw]; exact k⟩
  · exact s_stable ho hg (fun a w' hf hc => hv a w' hf (h1 _ hc)) (fun a hf => hf.put d v hb) k

/-- len of a slice. -/
theorem s_len {v : Value} {m : Nat} {cs : List Value} {e : TypeId} {h0 : Hp} (hx : ev l x = some v) (ht : P.underlying t = some (.slice e)) (hs : Sl h0 v m cs) (hb : Nat.blt d n = true)
    (k : S P n ops Ch E Q (i + 1) ((d, N m) :: l) h) : O P n ops Ch E Q i d (.call ⟨.builtin .len, #[x], #[t]⟩) l h :=
  s_pure hb (fun a w' hf => by
    obtain ⟨ad, c, rfl, -⟩ := hs.len
    simp [execOp, resolve, invoke, builtin, hf.ev hx, Builtin.len_, run_underlying ht, goInt]) k
theorem s_lenF {α : Type} {f : α → Value} {v : Value} {cs : List α} {e : TypeId} {h0 : Hp} (hx : ev l x = some v) (ht : P.underlying t = some (.slice e)) (hs : SlF h0 f v cs) (hb : Nat.blt d n = true)
    (k : S P n ops Ch E Q (i + 1) ((d, N cs.length) :: l) h) : O P n ops Ch E Q i d (.call ⟨.builtin .len, #[x], #[t]⟩) l h := s_len hx ht hs hb k

theorem s_index {v : Value} {m j s : Nat} {cs : List Value} {e : TypeId} {yk : IntKind} {h0 : Hp} (hx : ev l x = some v) (hy : IsK (ev l y) yk j) (ht : P.underlying t = some (.slice e)) (hz : (P.info? e).map (·.size) = some s)
    (hs : Sl h0 v m cs) (hb : Nat.blt d n = true) (hj : j < m)
    (k : S P n ops Ch E Q (i + 1) ((d, ptrAt v (j * s)) :: l) h) : O P n ops Ch E Q i d (.indexAddr t x y) l h :=
  s_pure hb (fun a w' hf => by
    rcases hs with ⟨-, rfl, -⟩ | ⟨b, o, c, rfl, -, -⟩
    · cases hj
    · cases hi : P.info? e with
      | none => rw [hi] at hz; cases hz
      | some inf =>
        rw [hi] at hz
        simp only [Option.map_some, Option.some.injEq] at hz
        simp [execOp, hf.ev hx, hf.ev hy.h, Instr.indexAt, run_underlying ht, asIntOf, sizeOf, typeInfo, hi, hz, hj, ptrAt]) k
theorem s_indexF {α : Type} {f : α → Value} {v : Value} {j : Nat} {cs : List α} {e : TypeId} {yk : IntKind} {h0 : Hp} (hx : ev l x = some v) (hy : IsK (ev l y) yk j) (ht : P.underlying t = some (.slice e)) (hz : (P.info? e).map (·.size) = some 1)
    (hs : SlF h0 f v cs) (hb : Nat.blt d n = true) (hj : j < cs.length)
    (k : S P n ops Ch E Q (i + 1) ((d, ptrAt v j) :: l) h) : O P n ops Ch E Q i d (.indexAddr t x y) l h := s_index hx hy ht hz hs hb hj (by rw [Nat.mul_one]; exact k)

theorem s_load {v u : Value} {m j : Nat} {cs : List Value} (hx : ev l x = some (ptrAt v j)) (ht : plainTy P t = true) (hs : Rd Ch E i h (fun h' => Sl h' v m cs)) (hb : Nat.blt d n = true) (hj : cs[j]? = some u)
    (k : S P n ops Ch E Q (i + 1) ((d, u) :: l) h) : O P n ops Ch E Q i d (.load t x) l h :=
  s_read hb _ hs (fun a w' hf hs => by
    rcases hs with ⟨-, -, rfl⟩ | ⟨b, o, c, rfl, -, hs⟩
    · cases hj
    · have hl := run_load1 (P := P) (t := t) (a := (⟨b, o, none⟩ : Addr).add j) (w := w') ht (by rw [Addr.add_lit, cell?_cellH]; exact hs j u hj)
      simp only [execOp, hf.ev hx, ptrAt, Sem.run_bind, hl]; rfl) k
theorem s_loadF {α : Type} {f : α → Value} (d0 : α) {v : Value} {j : Nat} {cs : List α} (hx : ev l x = some (ptrAt v j)) (ht : plainTy P t = true) (hs : Rd Ch E i h (fun h' => SlF h' f v cs)) (hb : Nat.blt d n = true) (hj : j < cs.length)
    (k : S P n ops Ch E Q (i + 1) ((d, f (cs.getD j d0)) :: l) h) : O P n ops Ch E Q i d (.load t x) l h :=
  s_load (cs := cs.map f) (m := cs.length) hx ht hs hb (by simp [hj]) k

/-- x[lo:hi] -/
theorem run_slice_gen {P : Program} {w : World} {t e : TypeId} {s : Nat} {v : Value} {m c lo hi : Nat} {ad : Option Addr} {ol oh : Option Value} (hv : v = .slice ad m c) (ht : P.underlying t = some (.slice e)) (hz : (P.info? e).map (·.size) = some s)
    (hl : ol = none ∧ lo = 0 ∨ ∃ k, ol = some (.int k (lo : Int))) (hh : oh = none ∧ hi = m ∨ ∃ k, oh = some (.int k (hi : Int))) (h1 : lo ≤ hi) (h2 : hi ≤ c) :
    (Instr.sliceAt t v ol oh none).run P w = .ok (cutV s v lo hi) w := by
  subst hv
  cases hi' : P.info? e with
  | none => rw [hi'] at hz; cases hz
  | some inf =>
    rw [hi'] at hz
    simp only [Option.map_some, Option.some.injEq] at hz
    have bound : ∀ (k : IntKind) (x y : Nat) (code : BoundsCode), x ≤ y → (Instr.sliceBound (.int k (x : Int)) y code).run P w = .ok x w := fun k x y code hxy => by
      simp [Instr.sliceBound, asIntOf, hxy]
    have hb : (Instr.sliceBounds true m c ol oh none).run P w = .ok (lo, hi, c) w := by
      unfold Instr.sliceBounds
      rcases hl with ⟨rfl, rfl⟩ | ⟨kl, rfl⟩ <;> rcases hh with ⟨rfl, rfl⟩ | ⟨kh, rfl⟩ <;> simp [bound, h1, h2]
    simp [Instr.sliceAt, Instr.slice, run_underlying ht, hb, sizeOf, typeInfo, hi', hz, cutV]

theorem s_slice_lh {v : Value} {m lo hi s : Nat} {cs : List Value} {e : TypeId} {kl kh : IntKind} {h0 : Hp} (hx : ev l x = some v) (hy : IsK (ev l y) kl lo) (hz : IsK (ev l z) kh hi) (ht : P.underlying t = some (.slice e)) (hsz : (P.info? e).map (·.size) = some s)
    (hs : Sl h0 v m cs) (hb : Nat.blt d n = true) (h1 : lo ≤ hi) (h2 : hi ≤ m)
    (k : S P n ops Ch E Q (i + 1) ((d, cutV s v lo hi) :: l) h) : O P n ops Ch E Q i d (.slice t x (some y) (some z) none) l h :=
  s_pure hb (fun a w' hf => by
    obtain ⟨ad, c, hv, hc⟩ := hs.len
    simp only [execOp, hf.ev hx, Option.map_some, Option.map_none, hf.ev hy.h, hf.ev hz.h, Sem.run_bind, run_slice_gen hv ht hsz (.inr ⟨kl, rfl⟩) (.inr ⟨kh, rfl⟩) h1 (Nat.le_trans h2 hc)]; rfl) k
theorem s_slice_h {v : Value} {m hi s : Nat} {cs : List Value} {e : TypeId} {kh : IntKind} {h0 : Hp} (hx : ev l x = some v) (hz : IsK (ev l z) kh hi) (ht : P.underlying t = some (.slice e)) (hsz : (P.info? e).map (·.size) = some s)
    (hs : Sl h0 v m cs) (hb : Nat.blt d n = true) (h2 : hi ≤ m)
    (k : S P n ops Ch E Q (i + 1) ((d, cutV s v 0 hi) :: l) h) : O P n ops Ch E Q i d (.slice t x none (some z) none) l h :=
  s_pure hb (fun a w' hf => by
    obtain ⟨ad, c, hv, hc⟩ := hs.len
    simp only [execOp, hf.ev hx, Option.map_some, Option.map_none, hf.ev hz.h, Sem.run_bind, run_slice_gen hv ht hsz (.inl ⟨rfl, rfl⟩) (.inr ⟨kh, rfl⟩) (Nat.zero_le _) (Nat.le_trans h2 hc)]; rfl) k
theorem s_slice_l {v : Value} {m lo s : Nat} {cs : List Value} {e : TypeId} {kl : IntKind} {h0 : Hp} (hx : ev l x = some v) (hy : IsK (ev l y) kl lo) (ht : P.underlying t = some (.slice e)) (hsz : (P.info? e).map (·.size) = some s)
    (hs : Sl h0 v m cs) (hb : Nat.blt d n = true) (h1 : lo ≤ m)
    (k : S P n ops Ch E Q (i + 1) ((d, cutV s v lo m) :: l) h) : O P n ops Ch E Q i d (.slice t x (some y) none none) l h :=
  s_pure hb (fun a w' hf => by
    obtain ⟨ad, c, hv, hc⟩ := hs.len
    simp only [execOp, hf.ev hx, Option.map_some, Option.map_none, hf.ev hy.h, Sem.run_bind, run_slice_gen hv ht hsz (.inr ⟨kl, rfl⟩) (.inl ⟨rfl, rfl⟩) h1 hc]; rfl) k

end rules
end Go.Den

/- Own calculus, part E: what changes memory: stores, new rows, append, copy. No condition. -/
namespace Go.Den
set_option linter.unusedVariables false
set_option maxRecDepth 8000
open Go Go.RowKit

theorem Sl.one {h : Hp} {v : Value} {n : Nat} {cs : List Value} (s : Sl h v n cs) : v.oneCell' = true := by
  obtain ⟨a, c, rfl, -⟩ := s.len; rfl
theorem SlF.one {α : Type} {h : Hp} {f : α → Value} {v : Value} {xs : List α} (s : SlF h f v xs) : v.oneCell' = true := Sl.one s

section
variable {P : Program} {h : Hp} {B : Nat} {e : TypeId} {s : Nat} {v : Value} {n : Nat} {cs : List Value}

theorem cells_one {u : Value} (h1 : u.oneCell' = true) : u.cells = #[u] := by cases u <;> first | rfl | cases h1

theorem set_seg (l : List Value) (j : Nat) (u : Value) (hj : j < l.length) : l.take j ++ [u] ++ l.drop (j + 1) = l.set j u := by
  rw [List.set_eq_take_append_cons_drop, if_pos hj]; simp

/-- A store into a row of the call's own. -/
theorem own_store {w : World} {t : TypeId} {j : Nat} {u : Value} (ho : Own w.heap B e s v n cs) (hj : j < cs.length) (h1 : u.oneCell' = true) (ht : (P.info? t).map (·.size) = some 1) :
    ∃ w', (Instr.storeAt t (ptrAt v j) u).run P w = .ok () w' ∧ Own w'.heap B e s v n (cs.set j u) ∧ Only v.ownBlock w.heap w'.heap ∧ Oth w w' := by
  obtain ⟨hl, ⟨rfl, rfl⟩ | ⟨g, cap, cur, rfl, hB, hg, hc, hm, hs, htk⟩⟩ := ho
  · simp [hl] at hj
  have hcur : j < cur.toList.length := by
    rw [← htk, List.length_take] at hj; omega
  have hst := run_storeCells_at P g j e [u] 0 cur w hg (by simp at hcur ⊢; omega) (by simpa using h1)
  simp only [Nat.add_zero, List.length_singleton] at hst
  rw [set_seg _ _ _ hcur] at hst
  cases hi : P.info? t with
  | none => rw [hi] at ht; cases ht
  | some inf =>
    rw [hi] at ht
    simp only [Option.map_some, Option.some.injEq] at ht
    refine ⟨w.setRow g (cur.toList.set j u).toArray, ?_, ⟨by rw [List.length_set]; exact hl, .inr ⟨g, cap, (cur.toList.set j u).toArray, rfl, hB, setRow_heap w g cur _ e _ hg, hc, hm, by simp [hs], ?_⟩⟩, ⟨by simp, fun k _ hk => setRow_other w g k _ (fun q => hk (by simp [Value.ownBlock, q]))⟩, ⟨rfl, rfl, rfl⟩⟩
    · simp [ptrAt, Addr.add_lit, Instr.storeAt, Instr.sureAddr, storeVar, sizeOf, typeInfo, hi, cells_one h1, ht, hst]
    · rw [← htk]; simp [List.take_set]

theorem app_blk {w w' : World} {t ty : TypeId} {i : TypeInfo} {z v' : Value} {bytes : Nat} (ht : P.underlying t = some (.slice e)) (hi : P.info? e = some i) (hz : i.zero = some z) (hsize : i.size = s) (hby : i.bytes = bytes) (hzs : z.cells.size = s) (hsz : 0 < s)
    (hown : w.ownsRow B e s v n cs) {a : Addr} {m c : Nat} {news : List Value} (hl : news.length = m * s) (hnews : ∀ j u, news[j]? = some u → w.cell? (a.add j) = some u) (h1 : ∀ u ∈ news, u.oneCell' = true)
    (h63 : n + m ≤ maxLen) (hbytes : (n + m) * bytes ≤ 140737488355328)
    (hr : (Builtin.append_ #[t, t] ty #[v, .slice (some a) m c]).run P w = .ok v' w') : v'.ownBlock = v.ownBlock ∨ ∃ b, v'.ownBlock = some b ∧ w.heap.size ≤ b := by
  subst hsize hby
  have hsmall : n + m ≤ 9223372036854775807 := by simp only [maxLen] at h63; omega
  rcases hown.2 with ⟨rfl, rfl⟩ | ⟨g, cap, cur, rfl, hbg, hg, hnc, hcm, hcs, htake⟩
  · by_cases hm : m = 0
    · subst hm
      left
      have hn : news = [] := List.eq_nil_of_length_eq_zero (by simpa using hl)
      subst hn
      have : (Builtin.append_ #[t, t] ty #[.slice none 0 0, .slice (some a) 0 c]).run P w = .ok (.slice none 0 0) w := by
        simp [Builtin.append_, run_underlying ht, sizeOf, typeInfo, hi, Builtin.lenOf, Builtin.firstCells, loadCells, loadCellsFrom]
      rw [this] at hr; cases hr; rfl
    · right
      have := run_append_nil (P := P) w t ty e i z ht hi hz a m c news hl hnews (by omega) (by omega) (by have hb := hbytes; simp only [Nat.zero_add] at hb; omega)
      rw [this] at hr; cases hr
      exact ⟨_, rfl, Nat.le_refl _⟩
  · by_cases hroom : n + m ≤ cap
    · left
      have hfit : n * i.size + news.length ≤ cur.size := by rw [hl, hcs, ← Nat.add_mul]; exact Nat.mul_le_mul_right _ hroom
      have := run_append_room (P := P) w t ty e i ht hi g n cap cur hg a m c news hl hnews h1 hroom hfit
      rw [this] at hr; cases hr; rfl
    · right
      have := run_append_grow (P := P) w t ty e i z ht hi hz ⟨g, 0, none⟩ n cap cs hown.1 (hown.cells (g := g) rfl) a m c news hl hnews (by omega) (by omega) (growslice_fits (by omega) hbytes)
      rw [this] at hr; cases hr
      exact ⟨_, rfl, Nat.le_refl _⟩

/-- append to a row of the call's own. -/
theorem own_append {w : World} {t ty : TypeId} {z x : Value} {bytes m : Nat} {news : List Value} (ht : P.underlying t = some (.slice e)) (hi : (P.info? e).map (fun i => (i.size, i.bytes, i.zero)) = some (s, bytes, some z)) (hzs : z.cells.size = s) (hsz : 0 < s)
    (hown : Own w.heap B e s v n cs) (hx : Sl w.heap x m news) (hl : news.length = m * s) (h1 : ∀ u ∈ news, u.oneCell' = true) (h63 : n + m ≤ maxLen) (hbytes : (n + m) * bytes ≤ 140737488355328) (hB : B ≤ w.heap.size) :
    ∃ v' w', (Builtin.append_ #[t, t] ty #[v, x]).run P w = .ok v' w' ∧ Own w'.heap B e s v' (n + m) (cs ++ news) ∧ Only v.ownBlock w.heap w'.heap ∧ (v'.ownBlock = v.ownBlock ∨ ∃ b, v'.ownBlock = some b ∧ w.heap.size ≤ b) ∧ Oth w w' := by
  cases hq : P.info? e with
  | none => rw [hq] at hi; cases hi
  | some i =>
    rw [hq] at hi
    simp only [Option.map_some, Option.some.injEq, Prod.mk.injEq] at hi
    obtain ⟨i1, i2, i3⟩ := hi
    rcases hx with ⟨⟨a, c, rfl, ha⟩, rfl, rfl⟩ | ⟨b, o, c, rfl, hc, hx⟩
    · cases a with
      | none =>
        rw [ha rfl]
        have := run_append_owned_none (P := P) (w := w) B t ty e i s ht hq v n cs hown
        exact ⟨_, _, this, by simpa using hown, Only.refl _ _, .inl rfl, Oth.refl w⟩
      | some a =>
        obtain ⟨v', w', k1, k2, k3, -⟩ := run_append_own (P := P) w B t ty e i z s bytes ht hq i3 i1 i2 hzs hsz v n cs hown a 0 c [] (by simp) (by simp) (by simp) h63 hbytes hB
        exact ⟨v', w', k1, k2, ⟨k3.size, k3.block⟩, app_blk (news := []) (m := 0) (a := a) (c := c) ht hq i3 i1 i2 hzs hsz hown (by simp) (by simp) (by simp) h63 hbytes k1, k3.os, k3.tape, k3.output⟩
    · have hn : ∀ j u, news[j]? = some u → w.cell? ((⟨b, o, none⟩ : Addr).add j) = some u := fun j u hu => by
        rw [Addr.add_lit, cell?_cellH]; exact hx j u hu
      obtain ⟨v', w', k1, k2, k3, -⟩ := run_append_own (P := P) w B t ty e i z s bytes ht hq i3 i1 i2 hzs hsz v n cs hown ⟨b, o, none⟩ m c news hl hn h1 h63 hbytes hB
      exact ⟨v', w', k1, k2, ⟨k3.size, k3.block⟩, app_blk ht hq i3 i1 i2 hzs hsz hown hl hn h1 h63 hbytes k1, k3.os, k3.tape, k3.output⟩
end

section rules
variable {P : Program} {n : Nat} {Q : Post} {l : Fr} {h : Hp} {ops : List Oper} {Ch : Hp → Prop} {E : Nat → Bool} {i : Nat}
variable {d : Nat} {t : TypeId} {x y z : Operand}

/-- The operation number i, which is to run and yields nothing. -/
structure O0 (P : Program) (n : Nat) (ops : List Oper) (Ch : Hp → Prop) (E : Nat → Bool) (Q : Post) (i : Nat) (op : Op) (l : Fr) (h : Hp) : Prop where mk ::
  get : ∀ {ty : TypeId} {ps : String} {af : Array Edge} {g : Option (Nat × Bool)}, opAt ops i = some ⟨none, op, ty, ps, af, g⟩ → gd ops l g = some true → S P n ops Ch E Q i l h
theorem s_op0 {op : Op} {ty : TypeId} {ps : String} {af : Array Edge} {g : Option (Nat × Bool)} (ho : opAt ops i = some ⟨none, op, ty, ps, af, g⟩) (hg : gd ops l g = some true) (k : O0 P n ops Ch E Q i op l h) : S P n ops Ch E Q i l h := k.get ho hg

theorem s_store {v u : Value} {j m s B : Nat} {cs : List Value} {e : TypeId} (hx : ev l x = some (ptrAt v j)) (hy : ev l y = some u) (ht : (P.info? t).map (·.size) = some 1) (hE : E i = true) (ho : Own h B e s v m cs) (h1 : u.oneCell' = true) (hj : j < cs.length)
    (k : ∀ h', Own h' B e s v m (cs.set j u) → Only v.ownBlock h h' → Ch h' ∧ S P n ops Ch E Q (i + 1) l h') : O0 P n ops Ch E Q i (.store t x y) l h :=
  O0.mk fun hop hg => s_eff hop hE hg fun a w hf hw => by
    subst hw
    obtain ⟨w', g1, g2, g3, g4⟩ := own_store (P := P) (t := t) ho hj h1 ht
    unfold Eff
    simp only [execOp, hf.ev hx, hf.ev hy, Sem.run_bind, g1]
    exact ⟨g4, (k _ g2 g3).1, _, hf.putNone _, (k _ g2 g3).2⟩
theorem s_storeF {α : Type} {f : α → Value} {v u : Value} {j B : Nat} {cs : List α} {e : TypeId} (u' : α) (hx : ev l x = some (ptrAt v j)) (hy : ev l y = some u) (hu : f u' = u) (ht : (P.info? t).map (·.size) = some 1) (hE : E i = true) (ho : OwnF h B e f v cs) (h1 : u.oneCell' = true) (hj : j < cs.length)
    (k : ∀ h', OwnF h' B e f v (cs.set j u') → Only v.ownBlock h h' → Ch h' ∧ S P n ops Ch E Q (i + 1) l h') : O0 P n ops Ch E Q i (.store t x y) l h :=
  s_store hx hy ht hE ho h1 (by simpa using hj) fun h' g1 g2 => k h' (by unfold OwnF; rw [List.length_set, List.map_set, hu]; exact g1) g2

/-- make([]T, l, c), T of one cell. -/
theorem s_make {α : Type} {f : α → Value} {ln c bytes : Nat} {e : TypeId} {kl kc : IntKind} {z0 : Value} (z1 : α) (hx : IsK (ev l x) kl ln) (hy : IsK (ev l y) kc c) (ht : P.underlying t = some (.slice e)) (hi : (P.info? e).map (fun i => (i.size, i.bytes, i.zero)) = some (1, bytes, some z0)) (hzs : z0.oneCell' = true) (hz1 : f z1 = z0)
    (hE : E i = true) (hb : Nat.blt d n = true) (h1 : ln ≤ c) (h2 : bytes * c ≤ 281474976710656) (h3 : c ≤ 9223372036854775807)
    (k : ∀ v h', OwnF h' h.size e f v (List.replicate ln z1) → Ext h h' → v.ownBlock = some h.size → Ch h' ∧ S P n ops Ch E Q (i + 1) ((d, v) :: l) h') : O P n ops Ch E Q i d (.makeSlice t x y) l h :=
  O.mk fun hop hg => s_eff hop hE hg fun a w hf hw => by
    subst hw
    cases hq : P.info? e with
    | none => rw [hq] at hi; cases hi
    | some inf =>
      rw [hq] at hi
      simp only [Option.map_some, Option.some.injEq, Prod.mk.injEq] at hi
      obtain ⟨i1, i2, i3⟩ := hi
      have hr := run_make (P := P) w t e inf z0 ht hq i3 kl kc ln c (by omega) (by omega) (by rw [i2, ← Int.natCast_mul]; omega) (by omega)
      simp only [Int.toNat_natCast, i1, Nat.mul_one] at hr
      have hmade : (madeCells z0.cells c).toList = List.replicate c z0 := by
        rw [cells_one hzs]
        apply List.ext_getElem
        · simp [madeCells]
        · intro j h1 h2
          simp [madeCells, Nat.mod_one]
      have ho : OwnF (w.alloc (.cells (madeCells z0.cells c) e)).heap w.heap.size e f (.slice (some ⟨w.heap.size, 0, none⟩) ln c) (List.replicate ln z1) := by
        refine ⟨by simp, .inr ⟨w.heap.size, c, _, by simp, Nat.le_refl _, heap_alloc_new w _, by simpa using h1, by simp [maxLen]; omega, by rw [size_madeCells]; simp, ?_⟩⟩
        rw [hmade]; simp [hz1, List.take_replicate, Nat.min_eq_left h1]
      have := k _ _ ho (Ext.push _ _) rfl
      unfold Eff
      simp only [execOp, hf.ev hx.h, hf.ev hy.h, Sem.run_bind, hr]
      exact ⟨⟨rfl, rfl, rfl⟩, this.1, _, hf.put d _ hb, this.2⟩

theorem fill_one : ∀ (vs : List Value) (pre post : List Value), (∀ u ∈ vs, u.oneCell' = true) → post.length = vs.length →
    Instr.fill (fun i => some (i * 1, 1)) (pre ++ post).toArray ((List.range' pre.length vs.length).zip vs) = some (pre ++ vs).toArray
  | [], pre, post, _, hp => by
    have : post = [] := List.eq_nil_of_length_eq_zero (by simpa using hp)
    subst this
    simp [Instr.fill]
  | u :: vs, pre, post, h1, hp => by
    cases post with
    | nil => simp at hp
    | cons p post =>
      have ih := fill_one vs (pre ++ [u]) post (fun x hx => h1 x (by simp [hx])) (by simpa using hp)
      simp only [List.length_cons, List.range'_succ, List.zip_cons_cons, Instr.fill, cells_one (h1 u (by simp)), Nat.mul_one]
      have hsz : ¬ ((#[u] : Array Value).size ≠ 1 ∨ pre.length + (#[u] : Array Value).size > (pre ++ p :: post).toArray.size) := by simp
      simp only [hsz, decide_eq_true_eq, Bool.or_eq_true, if_false]
      have hset : ((pre ++ p :: post).toArray).setIfInBounds pre.length u = (pre ++ [u] ++ post).toArray := by
        apply Array.ext'
        simp
      simp only [List.length_append, List.length_singleton, List.append_assoc, List.singleton_append, Nat.mul_one] at ih
      simp [hset] at ih ⊢
      exact ih

/-- []T{..}, T of one cell. -/
theorem s_lit {α : Type} {f : α → Value} {ln : Nat} {parts : Array (Nat × Operand)} {vs : List Value} {e : TypeId} {z0 : Value} {bytes : Nat} (xs : List α) (he : evs l (parts.toList.map (·.2)) = some vs) (hp : parts.toList.map (·.1) = List.range' 0 ln) (hl : vs.length = ln) (hxs : xs.map f = vs)
    (ht : P.underlying t = some (.slice e)) (hi : (P.info? e).map (fun i => (i.size, i.bytes, i.zero)) = some (1, bytes, some z0)) (h1 : ∀ u ∈ vs, u.oneCell' = true) (hz1 : z0.oneCell' = true) (hE : E i = true) (hb : Nat.blt d n = true) (hln : ln ≤ 16777216)
    (k : ∀ v h', OwnF h' h.size e f v xs → Ext h h' → v.ownBlock = some h.size → Ch h' ∧ S P n ops Ch E Q (i + 1) ((d, v) :: l) h') : O P n ops Ch E Q i d (.buildSlice t ln parts) l h :=
  O.mk fun hop hg => s_eff hop hE hg fun a w hf hw => by
    subst hw
    cases hq : P.info? e with
    | none => rw [hq] at hi; cases hi
    | some inf =>
      rw [hq] at hi
      simp only [Option.map_some, Option.some.injEq, Prod.mk.injEq] at hi
      obtain ⟨i1, i2, i3⟩ := hi
      have hparts : (parts.map fun (i, x) => (i, a.eval x)).toList = (List.range' 0 vs.length).zip vs := by
        rw [hl, ← hp, ← hf.evs he, Array.toList_map, List.map_map, List.zip_map']
        rfl
      have hfill := fill_one vs [] (List.replicate ln z0) h1 (by simp [hl])
      simp only [List.nil_append, List.length_nil] at hfill
      have hmade : ∀ zero : Array Value, (zero = if ln = 0 then #[] else #[z0]) → (Array.range ln).map (zero[· % zero.size]!) = (List.replicate ln z0).toArray := fun zero hzero => by
        apply Array.ext'
        apply List.ext_getElem
        · simp
        · intro j h1 h2
          simp at h1
          have : ln ≠ 0 := by omega
          simp [hzero, this, Nat.mod_one]
      have hr : (Instr.buildSlice t ln (parts.map fun (i, x) => (i, a.eval x))).run P w = .ok (.slice (some ⟨w.heap.size, 0, none⟩) ln ln) (w.alloc (.cells vs.toArray e)) := by
        have hbig : ¬ (16777216 < ln) := by omega
        by_cases h0 : ln = 0
        · subst h0
          have hv : vs = [] := List.eq_nil_of_length_eq_zero hl
          subst hv
          have hp0 : (parts.map fun (i, x) => (i, a.eval x)) = #[] := by apply Array.ext'; rw [hparts]; rfl
          rw [hp0]
          simp [Instr.buildSlice, run_underlying ht, sizeOf, typeInfo, hq, newRow, Instr.fill, Array.range_zero']
        · have hm := hmade #[z0] (by simp [h0])
          simp only [Nat.mul_one] at hfill
          have hpa : (parts.map fun (i, x) => (i, a.eval x)) = ((List.range' 0 vs.length).zip vs).toArray := by apply Array.ext'; rw [hparts]
          rw [hpa]
          simp [Instr.buildSlice, run_underlying ht, sizeOf, typeInfo, hq, i1, i3, zeroValue, h0, cells_one hz1, hbig, newRow] at hm ⊢
          simp only [List.toArray_replicate] at hfill
          rw [hm, hfill]
          simp
      have ho : OwnF (w.alloc (.cells vs.toArray e)).heap w.heap.size e f (.slice (some ⟨w.heap.size, 0, none⟩) ln ln) xs := by
        have hxl : xs.length = ln := by rw [← hl, ← hxs]; simp
        refine ⟨by simp, .inr ⟨w.heap.size, ln, _, by rw [hxl], Nat.le_refl _, heap_alloc_new w _, by omega, by simp [maxLen]; omega, by simp [hl], ?_⟩⟩
        rw [hxs, Nat.mul_one, hxl, ← hl]; simp
      have := k _ _ ho (Ext.push _ _) rfl
      unfold Eff
      simp only [execOp, Sem.run_bind, hr]
      exact ⟨⟨rfl, rfl, rfl⟩, this.1, _, hf.put d _ hb, this.2⟩

theorem s_append {v u : Value} {m k' s B bytes : Nat} {cs news : List Value} {e : TypeId} {z0 : Value} (hx : ev l x = some v) (hy : ev l y = some u) (ht : P.underlying t = some (.slice e)) (hi : (P.info? e).map (fun i => (i.size, i.bytes, i.zero)) = some (s, bytes, some z0)) (hzs : z0.cells.size = s) (hsz : 0 < s)
    (hE : E i = true) (hb : Nat.blt d n = true) (ho : Own h B e s v m cs) (hs : Sl h u k' news) (hl : news.length = k' * s) (h1 : ∀ u ∈ news, u.oneCell' = true) (hB : B ≤ h.size) (h63 : m + k' ≤ maxLen) (hby : (m + k') * bytes ≤ 140737488355328)
    (k : ∀ v' h', Own h' B e s v' (m + k') (cs ++ news) → Only v.ownBlock h h' → (v'.ownBlock = v.ownBlock ∨ ∃ b, v'.ownBlock = some b ∧ h.size ≤ b) → Ch h' ∧ S P n ops Ch E Q (i + 1) ((d, v') :: l) h') : O P n ops Ch E Q i d (.call ⟨.builtin .append, #[x, y], #[t, t]⟩) l h :=
  O.mk fun {ty} _ _ _ hop hg => s_eff hop hE hg fun a w hf hw => by
    subst hw
    obtain ⟨v', w', g1, g2, g3, g4, g5⟩ := own_append (P := P) (ty := ty) ht hi hzs hsz ho hs hl h1 h63 hby hB
    unfold Eff execOp
    simp only [resolve, invoke, builtin, Sem.run_bind, Sem.run_pure, Result.andThen_ok, List.map_toArray, List.map_cons, List.map_nil, hf.ev hx, hf.ev hy, g1]
    exact ⟨g5, (k _ _ g2 g3 g4).1, _, hf.put d _ hb, (k _ _ g2 g3 g4).2⟩
theorem s_appendF {α : Type} {f : α → Value} {v u : Value} {B bytes : Nat} {cs news : List α} {e : TypeId} {z0 : Value} (hx : ev l x = some v) (hy : ev l y = some u) (ht : P.underlying t = some (.slice e)) (hi : (P.info? e).map (fun i => (i.size, i.bytes, i.zero)) = some (1, bytes, some z0)) (hzs : z0.cells.size = 1)
    (hE : E i = true) (hb : Nat.blt d n = true) (ho : OwnF h B e f v cs) (hs : SlF h f u news) (h1 : ∀ a, (f a).oneCell' = true) (hB : B ≤ h.size) (h63 : cs.length + news.length ≤ maxLen) (hby : (cs.length + news.length) * bytes ≤ 140737488355328)
    (k : ∀ v' h', OwnF h' B e f v' (cs ++ news) → Only v.ownBlock h h' → (v'.ownBlock = v.ownBlock ∨ ∃ b, v'.ownBlock = some b ∧ h.size ≤ b) → Ch h' ∧ S P n ops Ch E Q (i + 1) ((d, v') :: l) h') : O P n ops Ch E Q i d (.call ⟨.builtin .append, #[x, y], #[t, t]⟩) l h :=
  s_append hx hy ht hi hzs Nat.zero_lt_one hE hb ho hs (by simp) (by intro u hu; obtain ⟨a, -, rfl⟩ := List.mem_map.1 hu; exact h1 a) hB h63 hby fun v' h' g1 g2 g3 => k v' h' (by unfold OwnF; rw [List.length_append, List.map_append]; exact g1) g2 g3

end rules
end Go.Den
