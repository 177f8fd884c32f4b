/- Texts DenB to DenB of this work, joined: each says in its own head what it proves, and of which condition. -/
import Derived.Test.YtbhhagdnbkkjpaaDoorMPr1
/- Own calculus, part B: frames as short lists, worlds as their heaps, and one rule for each kind of code and operation. No condition. -/
namespace Go.Den
set_option linter.unusedVariables false
set_option maxRecDepth 8000
open Go Go.RowKit

abbrev Fr := List (Nat × Value)
abbrev Hp := Array Obj

def look : Fr → Nat → Option Value
  | [], _ => none
  | (j, v) :: l, i => bif Nat.beq i j then some v else look l i

def ev (l : Fr) : Operand → Option Value
  | .tmp t => look l t
  | .const v => some v
  | .global g => some (.pointer (some ⟨g, 0, none⟩))
  | .func f => some (.func (.func f) #[] #[])

def evs (l : Fr) : List Operand → Option (List Value)
  | [] => some []
  | x :: xs => match ev l x, evs l xs with
    | some v, some vs => some (v :: vs)
    | _, _ => none

structure Fits (l : Fr) (n : Nat) (a : Act) : Prop where
  size : a.tmps.size = n
  slots : ∀ i v, look l i = some v → a.tmps[i]? = some v
  defers : a.defers = []

theorem Fits.ev {l : Fr} {n : Nat} {a : Act} {x : Operand} {v : Value} (h : Fits l n a) (e : ev l x = some v) : a.eval x = v := by
  cases x with
  | tmp t => have := h.slots t v e; simp [Act.eval, this]
  | const u => simpa [Den.ev, Act.eval] using e
  | global g => simpa [Den.ev, Act.eval] using e
  | func f => simpa [Den.ev, Act.eval] using e

theorem Fits.evs {l : Fr} {n : Nat} {a : Act} (h : Fits l n a) : ∀ {xs : List Operand} {vs : List Value}, evs l xs = some vs → xs.map a.eval = vs
  | [], vs, e => by simp [Den.evs] at e; simp [e]
  | x :: xs, vs, e => by
    simp only [Den.evs] at e
    split at e
    · rename_i v vs' h1 h2
      cases e
      simp [h.ev h1, h.evs h2]
    · cases e

theorem Fits.put {l : Fr} {n : Nat} {a : Act} (h : Fits l n a) (d : Nat) (v : Value) (hd : Nat.blt d n = true) : Fits ((d, v) :: l) n (a.put (some d) v) := by
  have hd' : d < n := Nat.le_of_ble_eq_true hd
  refine ⟨by simp [Act.put, h.size], fun i u hu => ?_, h.defers⟩
  simp only [look] at hu
  cases hi : Nat.beq i d with
  | true =>
    have := Nat.eq_of_beq_eq_true hi
    subst this
    rw [hi] at hu
    simp only [cond_true] at hu
    cases hu
    simp only [Act.put]
    rw [Array.getElem?_setIfInBounds_self_of_lt (by rw [h.size]; exact hd')]
  | false =>
    rw [hi] at hu
    simp only [cond_false] at hu
    have hne : d ≠ i := fun e => by subst e; simp at hi
    simp only [Act.put]
    rw [Array.getElem?_setIfInBounds_ne hne]
    exact h.slots i u hu

theorem Fits.putNone {l : Fr} {n : Nat} {a : Act} (h : Fits l n a) (v : Value) : Fits l n (a.put none v) := h

/-- What is known of l' is known of l. -/
def Sub (l' l : Fr) : Prop := ∀ i v, look l' i = some v → look l i = some v
theorem Sub.nil (l : Fr) : Sub [] l := fun i v h => by cases h
theorem Sub.refl (l : Fr) : Sub l l := fun _ _ h => h
theorem Sub.cons {l' l : Fr} {i : Nat} {v : Value} (h : look l i = some v) (k : Sub l' l) : Sub ((i, v) :: l') l := fun j u hu => by
  simp only [look] at hu
  cases hj : Nat.beq j i with
  | true =>
    have := Nat.eq_of_beq_eq_true hj
    subst this
    rw [hj] at hu
    simp only [cond_true] at hu
    rw [h]; exact hu
  | false => rw [hj] at hu; exact k j u hu
theorem Sub.consE {l' l : Fr} {i : Nat} {u v : Value} (h : look l i = some u) (e : u = v) (k : Sub l' l) : Sub ((i, v) :: l') l := Sub.cons (by rw [h, e]) k
theorem Fits.sub {l' l : Fr} {n : Nat} {a : Act} (h : Fits l n a) (k : Sub l' l) : Fits l' n a := ⟨h.size, fun i v hv => h.slots i v (k i v hv), h.defers⟩
theorem Fits.know {l : Fr} {n : Nat} {a : Act} (h : Fits l n a) {t : Nat} {v : Value} (e : look l t = some v) {u : Value} (hu : v = u) : Fits ((t, u) :: l) n a :=
  h.sub (Sub.cons (by rw [e, hu]) (Sub.refl l))

/-! ### Code by its parts (so that no goal shows the code itself) -/

def bodyOf (fn : Func) : Code := fn.body.getD .skip
def cL : Code → Code
  | .seq a _ => a
  | .cond _ a _ => a
  | .block _ a => a
  | .loop a => a
  | .scope a => a
  | c => c
def cR : Code → Code
  | .seq _ b => b
  | .cond _ _ b => b
  | c => c
/-- What a code is: told by a number. -/
inductive Tag where
  | skip | seq | cond (x : Operand) | block (id : Nat) | loop | exit (id : Nat) | ret | label | region (draw : Bool) | other
def tagOf : Code → Tag
  | .skip => .skip
  | .seq .. => .seq
  | .cond x _ _ => .cond x
  | .block id _ => .block id
  | .loop _ => .loop
  | .exit id => .exit id
  | .ret => .ret
  | .label _ => .label
  | .region _ _ d => .region d
  | _ => .other
def opsOf : Code → List Oper
  | .region _ ops _ => ops.toList
  | _ => []
def opAt : List Oper → Nat → Option Oper
  | [], _ => none
  | o :: _, 0 => some o
  | _ :: os, k + 1 => opAt os k
theorem opAt_eq : ∀ (os : List Oper) (k : Nat), opAt os k = os[k]?
  | [], k => by simp [opAt]
  | o :: os, 0 => rfl
  | o :: os, k + 1 => by simp only [opAt, List.getElem?_cons_succ]; exact opAt_eq os k

/-- Does an operation act on the heap? -/
def actsOp : Op → Bool
  | .alloc _ | .box _ _ | .buildSlice .. | .store .. | .makeMap .. | .makeSlice .. | .mapUpdate .. | .insert .. => true
  | .call c => match c.callee with
    | .builtin .append | .builtin .copy | .builtin .delete | .builtin .clear => true
    | .builtin _ => false
    | _ => true
  | _ => false
def effB (ops : List Oper) (i : Nat) : Bool := match opAt ops i with
  | some o => actsOp o.op
  | none => false

/-! ### Worlds by their heaps -/

/-- The rest of the world is as it was. -/
def Oth (w w' : World) : Prop := w'.os = w.os ∧ w'.tape = w.tape ∧ w'.output = w.output
theorem Oth.refl (w : World) : Oth w w := ⟨rfl, rfl, rfl⟩
theorem Oth.trans {a b c : World} (h : Oth a b) (k : Oth b c) : Oth a c := ⟨k.1.trans h.1, k.2.1.trans h.2.1, k.2.2.trans h.2.2⟩

/-- Nothing that was there has changed. -/
def Ext (h h' : Hp) : Prop := h.size ≤ h'.size ∧ ∀ k, k < h.size → h'[k]? = h[k]?
theorem Ext.refl (h : Hp) : Ext h h := ⟨Nat.le_refl _, fun _ _ => rfl⟩
theorem Ext.trans {a b c : Hp} (h : Ext a b) (k : Ext b c) : Ext a c :=
  ⟨Nat.le_trans h.1 k.1, fun i hi => (k.2 i (Nat.lt_of_lt_of_le hi h.1)).trans (h.2 i hi)⟩
theorem Ext.push (h : Hp) (o : Obj) : Ext h (h.push o) := ⟨by simp, fun k hk => by rw [Array.getElem?_push, if_neg (by omega)]⟩
theorem Ext.below {w w' : World} (h : Ext w.heap w'.heap) (k : Oth w w') : Below w.heap.size w w' := ⟨k.1, k.2.1, k.2.2, h.1, h.2⟩

/-- A call over a heap: it returns, and what it returns and leaves is told by R. -/
def CallsH (P : Program) (f : FuncId) (args : List Value) (h : Hp) (R : Value → Hp → Prop) : Prop :=
  ∀ w, w.heap = h → Calls P f args.toArray w fun e w' => ∃ v, e = .returned v ∧ R v w'.heap ∧ Oth w w'

theorem CallsH.mono {P : Program} {f : FuncId} {args : List Value} {h : Hp} {R R' : Value → Hp → Prop} (c : CallsH P f args h R) (k : ∀ v h', R v h' → R' v h') : CallsH P f args h R' :=
  fun w hw => (c w hw).mono fun _ _ ⟨v, he, hr, ho⟩ => ⟨v, he, k _ _ hr, ho⟩

abbrev Post := Exit → Fr → Hp → Prop

/-- What is asked at an exit, behind a name that the unifier does not open. -/
structure At (Q : Post) (e : Exit) (l : Fr) (h : Hp) : Prop where mk ::
  get : Q e l h

def lift (n : Nat) (Q : Post) (w0 : World) : Exit → Act → World → Prop := fun e a w => ∃ l, Fits l n a ∧ Q e l w.heap ∧ Oth w0 w

/-- The code, from a frame and a heap of which this is known. -/
structure W (P : Program) (n : Nat) (c : Code) (Q : Post) (l : Fr) (h : Hp) : Prop where mk ::
  run : ∀ a w, Fits l n a → w.heap = h → c.wp P (lift n Q w) a w

section rules
variable {P : Program} {n : Nat} {Q : Post} {l : Fr} {h : Hp}

theorem lift_mono {Q' : Post} {w0 w1 : World} (ho : Oth w0 w1) (hq : ∀ e l h, Q e l h → Q' e l h) {e : Exit} {a : Act} {w : World} (k : lift n Q w1 e a w) : lift n Q' w0 e a w := by
  obtain ⟨l, h1, h2, h3⟩ := k
  exact ⟨l, h1, hq _ _ _ h2, ho.trans h3⟩

theorem w_sub {c : Code} {l' : Fr} (hl : Sub l' l) (k : W P n c Q l' h) : W P n c Q l h := W.mk fun a w hf hw => k.run a w (hf.sub hl) hw

theorem w_skip {c : Code} (hc : tagOf c = .skip) (k : At Q .normal l h) : W P n c Q l h := by
  cases c <;> first | cases hc | skip
  exact W.mk fun a w hf hw => wp_skip ⟨l, hf, by rw [hw]; exact k.get, Oth.refl w⟩
theorem w_label {c : Code} (hc : tagOf c = .label) (k : At Q .normal l h) : W P n c Q l h := by
  cases c <;> first | cases hc | skip
  exact W.mk fun a w hf hw => wp_label ⟨l, hf, by rw [hw]; exact k.get, Oth.refl w⟩
theorem w_exit {c : Code} {id : Nat} (hc : tagOf c = .exit id) (k : At Q (.exit id) l h) : W P n c Q l h := by
  cases c <;> cases hc
  exact W.mk fun a w hf hw => wp_exit ⟨l, hf, by rw [hw]; exact k.get, Oth.refl w⟩
theorem w_ret {c : Code} (hc : tagOf c = .ret) (k : At Q .ret l h) : W P n c Q l h := by
  cases c <;> first | cases hc | skip
  exact W.mk fun a w hf hw => wp_ret ⟨l, hf, by rw [hw]; exact k.get, Oth.refl w⟩

def Then (P : Program) (n : Nat) (y : Code) (Q : Post) : Post
  | .normal, l, h => W P n y Q l h
  | e, l, h => Q e l h

/-- A sequence whose first part is no loop, and no block round one. -/
def plainSeq : Code → Bool
  | .seq (.block _ (.loop _)) _ => false
  | .seq (.loop _) _ => false
  | .seq _ _ => true
  | _ => false

theorem w_seqB {c : Code} (hc : tagOf c = .seq) (k : W P n (cL c) (Then P n (cR c) Q) l h) : W P n c Q l h := W.mk fun a w hf hw => by
  cases c <;> first | cases hc | skip
  rename_i x y
  change W P n x (Then P n y Q) l h at k
  refine wp_seq (wp_mono (k.run a w hf hw) fun e a' w' hq => ?_)
  obtain ⟨l', h1, h2, h3⟩ := hq
  cases e with
  | normal => exact wp_mono (h2.run a' w' h1 rfl) fun e a w hk => lift_mono h3 (fun _ _ _ h => h) hk
  | exit id => exact ⟨l', h1, h2, h3⟩
  | goto l => exact ⟨l', h1, h2, h3⟩
  | ret => exact ⟨l', h1, h2, h3⟩
  | panic c => exact ⟨l', h1, h2, h3⟩
  | outgrown => exact ⟨l', h1, h2, h3⟩

theorem w_seq {c : Code} (hc : plainSeq c = true) (k : W P n (cL c) (Then P n (cR c) Q) l h) : W P n c Q l h := by
  refine w_seqB ?_ k
  cases c <;> first | rfl | cases hc

theorem then_normal {y : Code} (k : W P n y Q l h) : At (Then P n y Q) .normal l h := ⟨k⟩
theorem then_exit {y : Code} {id : Nat} (k : At Q (.exit id) l h) : At (Then P n y Q) (.exit id) l h := ⟨k.get⟩
theorem then_ret {y : Code} (k : At Q .ret l h) : At (Then P n y Q) .ret l h := ⟨k.get⟩

def InB (id : Nat) (Q : Post) : Post
  | .exit id', l, h => if id' = id then Q .normal l h else Q (.exit id') l h
  | e, l, h => Q e l h

theorem w_block {b : Code} {id : Nat} (hc : tagOf b = .block id) (k : W P n (cL b) (InB id Q) l h) : W P n b Q l h := W.mk fun a w hf hw => by
  cases b <;> cases hc
  rename_i c
  change W P n c (InB id Q) l h at k
  refine wp_block (wp_mono (k.run a w hf hw) fun e a' w' hq => ?_)
  obtain ⟨l', h1, h2, h3⟩ := hq
  cases e with
  | exit id' =>
    simp only [InB] at h2
    simp only [Exit.inBlock]
    split
    · rename_i he; rw [if_pos he] at h2; exact ⟨l', h1, h2, h3⟩
    · rename_i he; rw [if_neg he] at h2; exact ⟨l', h1, h2, h3⟩
  | normal => exact ⟨l', h1, h2, h3⟩
  | goto l => exact ⟨l', h1, h2, h3⟩
  | ret => exact ⟨l', h1, h2, h3⟩
  | panic c => exact ⟨l', h1, h2, h3⟩
  | outgrown => exact ⟨l', h1, h2, h3⟩

theorem inb_normal {id : Nat} (k : At Q .normal l h) : At (InB id Q) .normal l h := ⟨k.get⟩
theorem inb_ret {id : Nat} (k : At Q .ret l h) : At (InB id Q) .ret l h := ⟨k.get⟩
theorem inb_here {id : Nat} (k : At Q .normal l h) : At (InB id Q) (.exit id) l h := ⟨by simp only [InB]; rw [if_pos trivial]; exact k.get⟩
theorem inb_past {id id' : Nat} (hne : Nat.beq id' id = false) (k : At Q (.exit id') l h) : At (InB id Q) (.exit id') l h := ⟨by
  simp only [InB]; rw [if_neg (fun e => by subst e; simp at hne)]; exact k.get⟩

theorem w_cond {c : Code} {x : Operand} {b : Bool} (hc : tagOf c = .cond x) (hx : ev l x = some (.bool b)) (ht : b = true → W P n (cL c) Q l h) (hf : b = false → W P n (cR c) Q l h) : W P n c Q l h := by
  cases c <;> cases hc
  exact W.mk fun a w hfit hw => wp_cond_split (hfit.ev hx) (fun e => (ht e).run a w hfit hw) (fun e => (hf e).run a w hfit hw)
theorem w_cond_true {c : Code} {x : Operand} (hc : tagOf c = .cond x) (hx : ev l x = some (.bool true)) (k : W P n (cL c) Q l h) : W P n c Q l h := w_cond hc hx (fun _ => k) (fun e => by cases e)
theorem w_cond_false {c : Code} {x : Operand} (hc : tagOf c = .cond x) (hx : ev l x = some (.bool false)) (k : W P n (cR c) Q l h) : W P n c Q l h := w_cond hc hx (fun e => by cases e) (fun _ => k)
theorem w_condD {c : Code} {x : Operand} {p : Prop} {d : Decidable p} (hc : tagOf c = .cond x) (hx : ev l x = some (.bool (decide p))) (ht : p → W P n (cL c) Q l h) (hf : ¬ p → W P n (cR c) Q l h) : W P n c Q l h :=
  w_cond hc hx (fun e => ht (of_decide_eq_true e)) (fun e => hf (of_decide_eq_false e))
theorem w_condT {c : Code} {x : Operand} {p : Prop} {d : Decidable p} (hc : tagOf c = .cond x) (hx : ev l x = some (.bool (decide p))) (hp : p) (k : W P n (cL c) Q l h) : W P n c Q l h := w_condD hc hx (fun _ => k) (fun e => absurd hp e)
theorem w_condF {c : Code} {x : Operand} {p : Prop} {d : Decidable p} (hc : tagOf c = .cond x) (hx : ev l x = some (.bool (decide p))) (hp : ¬ p) (k : W P n (cR c) Q l h) : W P n c Q l h := w_condD hc hx (fun e => absurd e hp) (fun _ => k)

/-- A cut: what is known behind the first part. -/
def Cut {σ : Type} (F : σ → Fr) (D : σ → Hp → Prop) (Q : Post) : Post
  | .normal, l, h => ∃ s, Sub (F s) l ∧ D s h
  | e, l, h => Q e l h
theorem cut_normal {σ : Type} {F : σ → Fr} {D : σ → Hp → Prop} (s : σ) (h1 : Sub (F s) l) (h2 : D s h) : At (Cut F D Q) .normal l h := ⟨⟨s, h1, h2⟩⟩
theorem cut_exit {σ : Type} {F : σ → Fr} {D : σ → Hp → Prop} {id : Nat} (k : At Q (.exit id) l h) : At (Cut F D Q) (.exit id) l h := ⟨k.get⟩
theorem cut_ret {σ : Type} {F : σ → Fr} {D : σ → Hp → Prop} (k : At Q .ret l h) : At (Cut F D Q) .ret l h := ⟨k.get⟩
theorem w_cut {σ : Type} {c : Code} (hc : tagOf c = .seq) (F : σ → Fr) (D : σ → Hp → Prop) (k : W P n (cL c) (Cut F D Q) l h) (k2 : ∀ s h', D s h' → W P n (cR c) Q (F s) h') : W P n c Q l h :=
  w_seqB hc <| W.mk fun a w hf hw => wp_mono (k.run a w hf hw) fun e a' w' hq => by
    obtain ⟨l', h1, h2, h3⟩ := hq
    cases e with
    | normal =>
      obtain ⟨s, g1, g2⟩ := h2
      exact ⟨F s, h1.sub g1, k2 s _ g2, h3⟩
    | exit id => exact ⟨l', h1, h2, h3⟩
    | goto l => exact ⟨l', h1, h2, h3⟩
    | ret => exact ⟨l', h1, h2, h3⟩
    | panic c => exact ⟨l', h1, h2, h3⟩
    | outgrown => exact ⟨l', h1, h2, h3⟩

/-- A loop: F a frame for each state of the ghost, D what is known of the heap. -/
def Again {σ : Type} (Q : Post) (F : σ → Fr) (D : σ → Hp → Prop) (μ : σ → Nat) (s : σ) : Post
  | .normal, l, h => ∃ s', Sub (F s') l ∧ D s' h ∧ μ s' < μ s
  | e, l, h => Q e l h

theorem again_normal {σ : Type} {F : σ → Fr} {D : σ → Hp → Prop} {μ : σ → Nat} {s : σ} (s' : σ) (h1 : Sub (F s') l) (h2 : D s' h) (h3 : μ s' < μ s) : At (Again Q F D μ s) .normal l h := ⟨⟨s', h1, h2, h3⟩⟩
theorem again_exit {σ : Type} {F : σ → Fr} {D : σ → Hp → Prop} {μ : σ → Nat} {s : σ} {id : Nat} (k : At Q (.exit id) l h) : At (Again Q F D μ s) (.exit id) l h := ⟨k.get⟩
theorem again_ret {σ : Type} {F : σ → Fr} {D : σ → Hp → Prop} {μ : σ → Nat} {s : σ} (k : At Q .ret l h) : At (Again Q F D μ s) .ret l h := ⟨k.get⟩

theorem w_loop {σ : Type} {b : Code} (hc : tagOf b = .loop) (F : σ → Fr) (D : σ → Hp → Prop) (μ : σ → Nat) (s0 : σ) (h0 : Sub (F s0) l) (d0 : D s0 h)
    (round : ∀ s h, D s h → W P n (cL b) (Again Q F D μ s) (F s) h) : W P n b Q l h := W.mk fun a w hf hw => by
  cases b <;> first | cases hc | skip
  rename_i c
  change ∀ s h, D s h → W P n c (Again Q F D μ s) (F s) h at round
  have key : ∀ m s a' w', μ s < m → Fits (F s) n a' → D s w'.heap → Oth w w' → Code.rounds P c (lift n Q w) m a' w' := by
    intro m
    induction m with
    | zero => intro s a' w' hm; exact absurd hm (Nat.not_lt_zero _)
    | succ m ih =>
      intro s a' w' hm hfs hd ho
      rw [rounds_succ]
      refine wp_mono ((round s w'.heap hd).run a' w' hfs rfl) fun e a2 w2 hq => ?_
      obtain ⟨l2, g1, g2, g3⟩ := hq
      cases e with
      | normal =>
        obtain ⟨s', q1, q2, q3⟩ := g2
        exact ih s' a2 w2 (by omega) (g1.sub q1) q2 (ho.trans g3)
      | exit id => exact ⟨l2, g1, g2, ho.trans g3⟩
      | goto l => exact ⟨l2, g1, g2, ho.trans g3⟩
      | ret => exact ⟨l2, g1, g2, ho.trans g3⟩
      | panic c => exact ⟨l2, g1, g2, ho.trans g3⟩
      | outgrown => exact ⟨l2, g1, g2, ho.trans g3⟩
  exact wp_loop_rounds (μ s0 + 1) (key (μ s0 + 1) s0 a w (by omega) (hf.sub h0) (by rw [hw]; exact d0) (Oth.refl w))

def nth : List Value → Nat → Option Value
  | [], _ => none
  | v :: _, 0 => some v
  | _ :: vs, i + 1 => nth vs i
theorem nth_eq : ∀ (vs : List Value) (i : Nat), nth vs i = vs[i]?
  | [], i => by simp [nth]
  | v :: vs, 0 => rfl
  | v :: vs, i + 1 => by simp only [nth, List.getElem?_cons_succ]; exact nth_eq vs i

/-! ### Regions -/

/-- What is left of a region's operations, from number k on. Ch: what is known of the heap in whatever order; E: which operations may act. -/
structure S (P : Program) (n : Nat) (ops : List Oper) (Ch : Hp → Prop) (E : Nat → Bool) (Q : Post) (k : Nat) (l : Fr) (h : Hp) : Prop where mk ::
  run : ∀ a w w0, Fits l n a → w.heap = h → Oth w0 w →
    Mix P ops.toArray (fun w' => Oth w0 w' ∧ Ch w'.heap) E (fun a w' => lift n Q w0 .normal a w') (List.range' k (ops.length - k)) a w

theorem wpOps_of_mix' {ops : Array Oper} {C : World → Prop} {E : Nat → Bool} {Q : Exit → Act → World → Prop} : ∀ (L : List Nat) (a : Act) (w : World), C w →
    Mix P ops C E (fun a w => Q .normal a w) L a w → wpOps P ops Q L a w
  | [], _, _, _, h => h
  | i :: L, a, w, hc, h => by
    obtain ⟨o, ho, h⟩ := h
    unfold wpOps
    simp only [ho]
    rcases h with ⟨v, hv, k⟩ | ⟨-, hW, k⟩
    · rcases hv with ⟨hW, hr⟩ | ⟨hW, rfl⟩
      · rw [if_pos (show Region.wanted _ _ = true from hW)]
        refine .inl ?_
        unfold Oper.wp
        rw [hr w hc]
        exact wpOps_of_mix' L _ _ hc k
      · rw [if_neg (by unfold Wanted at hW; rw [hW]; exact Bool.false_ne_true)]
        exact wpOps_of_mix' L _ _ hc k
    · rw [if_pos (show Region.wanted _ _ = true from hW)]
      exact .inl (wp_of_Eff (fun v w' hk => wpOps_of_mix' L _ _ hk.1 hk.2) k)

theorem r_plain {c : Code} (hc : tagOf c = .region false) (k : S P n (opsOf c) (fun _ => True) (fun _ => true) Q 0 l h) : W P n c Q l h := W.mk fun a w hf hw => by
  cases c <;> cases hc
  rename_i id ops
  refine wp_region ?_
  have := wpOps_of_mix' (Q := lift n Q w) _ a w ⟨Oth.refl w, trivial⟩ (k.run a w w hf hw (Oth.refl w))
  rw [Nat.sub_zero, ← List.range_eq_range'] at this
  simpa [opsOf] using this

theorem r_drawn {c : Code} (Ch : Hp → Prop) (E : Nat → Bool) (hc : tagOf c = .region true) (hm : P.follows .mixedOrders = true) (hok : regionOk (opsOf c) E = true) (hC : Ch h)
    (k : S P n (opsOf c) Ch E Q 0 l h) : W P n c Q l h := W.mk fun a w hf hw => by
  cases c <;> cases hc
  rename_i id ops
  have := region_drawn (id := id) (l := ops.toList) (E := E) (Q := lift n Q w) (C := fun w' => Oth w w' ∧ Ch w'.heap) hm hok ⟨⟨rfl, rfl, rfl⟩, by rw [← hw] at hC; exact hC⟩ (a := a) (by
    have := k.run a { w with drawn := w.drawn + 1 } w hf hw ⟨rfl, rfl, rfl⟩
    rw [Nat.sub_zero, ← List.range_eq_range'] at this
    exact this)
  simpa using this

/-- .. where what acts is found by its kind. -/
theorem r_drawnA {c : Code} (hc : tagOf c = .region true) (hm : P.follows .mixedOrders = true) (hok : regionOk (opsOf c) (effB (opsOf c)) = true)
    (k : S P n (opsOf c) (fun _ => True) (effB (opsOf c)) Q 0 l h) : W P n c Q l h := r_drawn (fun _ => True) (effB (opsOf c)) hc hm hok trivial k

section ops
variable {ops : List Oper} {Ch : Hp → Prop} {E : Nat → Bool} {i : Nat}

theorem s_nil (hk : opAt ops i = none) (k : At Q .normal l h) : S P n ops Ch E Q i l h := S.mk fun a w w0 hf hw ho => by
  rw [opAt_eq, List.getElem?_eq_none_iff] at hk
  rw [Nat.sub_eq_zero_of_le hk]
  exact ⟨l, hf, by rw [hw]; exact k.get, ho⟩

theorem s_step {o : Oper} (ho : opAt ops i = some o) : ops.toArray[i]? = some o ∧ List.range' i (ops.length - i) = i :: List.range' (i + 1) (ops.length - (i + 1)) := by
  rw [opAt_eq] at ho
  have hlt := (List.getElem?_eq_some_iff.1 ho).1
  refine ⟨by simpa using ho, ?_⟩
  rw [show ops.length - i = (ops.length - (i + 1)) + 1 by omega, List.range'_succ]

/-- May the operation run? (none: its guard is not known.) -/
def gd (ops : List Oper) (l : Fr) (g : Option (Nat × Bool)) : Option Bool :=
  match g with
  | none => some true
  | some (j, want) => match (ops[j]?).bind (·.dst) with
    | some t => match look l t with
      | some (.bool b) => some (b == want)
      | some (.tuple _) => some false
      | _ => none
    | none => none

theorem gd_wanted {o : Oper} {a : Act} {b : Bool} (hf : Fits l n a) (hg : gd ops l o.guard = some b) : Wanted ops.toArray o a = b := by
  unfold Wanted Region.wanted
  unfold gd at hg
  cases hgo : o.guard with
  | none => rw [hgo] at hg; simpa using hg
  | some p =>
    obtain ⟨j, want⟩ := p
    rw [hgo] at hg
    simp only at hg ⊢
    cases ht : (ops[j]?).bind (·.dst) with
    | none => rw [ht] at hg; cases hg
    | some t =>
      rw [ht] at hg
      simp only at hg
      cases hl : look l t with
      | none => rw [hl] at hg; cases hg
      | some v =>
        rw [hl] at hg
        have hj : (ops.toArray[j]?).bind (·.dst) = some t := by simpa using ht
        cases v <;> simp only at hg <;> try cases hg
        case some.some.some.bool.refl b' =>
          have := hf.slots t _ hl
          simp only [yielded, hj, Option.bind_some, this]
          cases b' <;> cases want <;> rfl
        case some.some.some.tuple.refl =>
          have := hf.slots t _ hl
          simp only [yielded, hj, Option.bind_some, this]
          rfl

theorem s_stable {o : Oper} {v : Value} {l' : Fr} (ho : opAt ops i = some o) (hg : gd ops l o.guard = some true) (hv : ∀ a w', Fits l n a → Ch w'.heap → (execOp a.eval o).run P w' = .ok (.value v) w')
    (hl : ∀ a, Fits l n a → Fits l' n (a.put o.dst v)) (k : S P n ops Ch E Q (i + 1) l' h) : S P n ops Ch E Q i l h := S.mk fun a w w0 hf hw hoth => by
  obtain ⟨h1, h2⟩ := s_step ho
  rw [h2]
  exact ⟨o, h1, .inl ⟨v, .inl ⟨gd_wanted hf hg, fun w' hc => hv a w' hf hc.2⟩, k.run _ w w0 (hl a hf) hw hoth⟩⟩

theorem s_skip {d : Nat} {op : Op} {ty : TypeId} {ps : String} {af : Array Edge} {g : Option (Nat × Bool)} (ho : opAt ops i = some ⟨some d, op, ty, ps, af, g⟩) (hg : gd ops l g = some false) (hb : Nat.blt d n = true)
    (k : S P n ops Ch E Q (i + 1) ((d, undef) :: l) h) : S P n ops Ch E Q i l h := S.mk fun a w w0 hf hw hoth => by
  obtain ⟨h1, h2⟩ := s_step ho
  rw [h2]
  exact ⟨_, h1, .inl ⟨undef, .inr ⟨gd_wanted hf hg, rfl⟩, k.run _ w w0 (hf.put d undef hb) hw hoth⟩⟩

theorem s_skip0 {op : Op} {ty : TypeId} {ps : String} {af : Array Edge} {g : Option (Nat × Bool)} (ho : opAt ops i = some ⟨none, op, ty, ps, af, g⟩) (hg : gd ops l g = some false)
    (k : S P n ops Ch E Q (i + 1) l h) : S P n ops Ch E Q i l h := S.mk fun a w w0 hf hw hoth => by
  obtain ⟨h1, h2⟩ := s_step ho
  rw [h2]
  exact ⟨_, h1, .inl ⟨undef, .inr ⟨gd_wanted hf hg, rfl⟩, k.run _ w w0 hf hw hoth⟩⟩

theorem s_eff {o : Oper} (ho : opAt ops i = some o) (hE : E i = true) (hg : gd ops l o.guard = some true)
    (k : ∀ a w, Fits l n a → w.heap = h → Eff P o a w fun v w' => Oth w w' ∧ Ch w'.heap ∧ ∃ l', Fits l' n (a.put o.dst v) ∧ S P n ops Ch E Q (i + 1) l' w'.heap) :
    S P n ops Ch E Q i l h := S.mk fun a w w0 hf hw hoth => by
  obtain ⟨h1, h2⟩ := s_step ho
  rw [h2]
  refine ⟨o, h1, .inr ⟨hE, gd_wanted hf hg, Eff_mono (fun v w' hk => ?_) (k a w hf hw)⟩⟩
  obtain ⟨g1, g2, l', g3, g4⟩ := hk
  exact ⟨⟨hoth.trans g1, g2⟩, g4.run _ w' w0 g3 rfl (hoth.trans g1)⟩

/-- A test's outcome is written into its slot. -/
theorem s_know {t : Nat} {v u : Value} (e : look l t = some v) (hu : v = u) (k : S P n ops Ch E Q i ((t, u) :: l) h) : S P n ops Ch E Q i l h :=
  S.mk fun a w w0 hf hw ho => k.run a w w0 (hf.know e hu) hw ho
theorem s_sub {l' : Fr} (hl : Sub l' l) (k : S P n ops Ch E Q i l' h) : S P n ops Ch E Q i l h := S.mk fun a w w0 hf hw ho => k.run a w w0 (hf.sub hl) hw ho
theorem w_know {c : Code} {t : Nat} {v u : Value} (e : look l t = some v) (hu : v = u) (k : W P n c Q ((t, u) :: l) h) : W P n c Q l h := W.mk fun a w hf hw => k.run a w (hf.know e hu) hw

/-- The test in the slot t is decided: by cases. -/
theorem s_split (t : Nat) {p : Prop} {d : Decidable p} (e : look l t = some (.bool (decide p))) (ht : p → S P n ops Ch E Q i ((t, .bool true) :: l) h) (hf : ¬ p → S P n ops Ch E Q i ((t, .bool false) :: l) h) :
    S P n ops Ch E Q i l h := by
  by_cases hp : p
  · exact s_know e (by rw [decide_eq_true hp]) (ht hp)
  · exact s_know e (by rw [decide_eq_false hp]) (hf hp)
theorem s_yes (t : Nat) {p : Prop} {d : Decidable p} (e : look l t = some (.bool (decide p))) (hp : p) (k : S P n ops Ch E Q i ((t, .bool true) :: l) h) : S P n ops Ch E Q i l h :=
  s_know e (by rw [decide_eq_true hp]) k
theorem s_no (t : Nat) {p : Prop} {d : Decidable p} (e : look l t = some (.bool (decide p))) (hp : ¬ p) (k : S P n ops Ch E Q i ((t, .bool false) :: l) h) : S P n ops Ch E Q i l h :=
  s_know e (by rw [decide_eq_false hp]) k

/-- A test just made is decided. -/
theorem s_yesH {t : Nat} {p : Prop} {d : Decidable p} (hp : p) (k : S P n ops Ch E Q i ((t, .bool true) :: l) h) : S P n ops Ch E Q i ((t, .bool (decide p)) :: l) h := by
  rw [decide_eq_true hp]; exact k
theorem s_noH {t : Nat} {p : Prop} {d : Decidable p} (hp : ¬ p) (k : S P n ops Ch E Q i ((t, .bool false) :: l) h) : S P n ops Ch E Q i ((t, .bool (decide p)) :: l) h := by
  rw [decide_eq_false hp]; exact k

/-- The operation number i, which is to run. -/
structure O (P : Program) (n : Nat) (ops : List Oper) (Ch : Hp → Prop) (E : Nat → Bool) (Q : Post) (i d : Nat) (op : Op) (l : Fr) (h : Hp) : Prop where mk ::
  get : ∀ {ty : TypeId} {ps : String} {af : Array Edge} {g : Option (Nat × Bool)}, opAt ops i = some ⟨some d, op, ty, ps, af, g⟩ → gd ops l g = some true → S P n ops Ch E Q i l h

theorem s_op {d : Nat} {op : Op} {ty : TypeId} {ps : String} {af : Array Edge} {g : Option (Nat × Bool)} (ho : opAt ops i = some ⟨some d, op, ty, ps, af, g⟩) (hg : gd ops l g = some true) (k : O P n ops Ch E Q i d op l h) : S P n ops Ch E Q i l h := k.get ho hg

/-- An operation that computes: the same in every world. -/
theorem s_pure {d : Nat} {op : Op} {v : Value} (hb : Nat.blt d n = true)
    (hv : ∀ {ty : TypeId} {ps : String} {af : Array Edge} {g : Option (Nat × Bool)} a w', Fits l n a → (execOp a.eval ⟨some d, op, ty, ps, af, g⟩).run P w' = .ok (.value v) w')
    (k : S P n ops Ch E Q (i + 1) ((d, v) :: l) h) : O P n ops Ch E Q i d op l h :=
  O.mk fun ho hg => s_stable ho hg (fun a w' hf _ => hv a w' hf) (fun a hf => hf.put d v hb) k

section pure
variable {d : Nat} {t : TypeId} {x y z : Operand} {v : Value} {yt : TypeId}

theorem s_move (hx : ev l x = some v) (hb : Nat.blt d n = true) (k : S P n ops Ch E Q (i + 1) ((d, v) :: l) h) : O P n ops Ch E Q i d (.move x) l h :=
  s_pure hb (fun a w' hf => by rw [← hf.ev hx]; rfl) k
theorem s_assign (hx : ev l x = some v) (hb : Nat.blt d n = true) (k : S P n ops Ch E Q (i + 1) ((d, v) :: l) h) : O P n ops Ch E Q i d (.assign x) l h :=
  s_pure hb (fun a w' hf => by rw [← hf.ev hx]; rfl) k

theorem s_bin {op : BinOp} {vx vy : Value} (hx : ev l x = some vx) (hy : ev l y = some vy) (hb : Nat.blt d n = true)
    (hv : ∀ w', (do eqGuard op t x y vx vy; binOp op t vx vy : Sem Value).run P w' = .ok v w') (k : S P n ops Ch E Q (i + 1) ((d, v) :: l) h) : O P n ops Ch E Q i d (.binOp op t x y yt) l h :=
  s_pure hb (fun a w' hf => by
    have hv' := hv w'
    rw [← hf.ev hx, ← hf.ev hy] at hv'
    show ((do eqGuard op t x y (a.eval x) (a.eval y); binOp op t (a.eval x) (a.eval y) : Sem Value) >>= fun u => pure (Next.value u)).run P w' = _
    rw [Sem.run_bind, hv']; rfl) k

theorem s_pickT {vy : Value} (hx : ev l x = some (.bool true)) (hy : ev l y = some vy) (hb : Nat.blt d n = true) (k : S P n ops Ch E Q (i + 1) ((d, vy) :: l) h) : O P n ops Ch E Q i d (.pick x y z) l h :=
  s_pure hb (fun a w' hf => by rw [← hf.ev hy]; simp only [execOp, hf.ev hx]; rfl) k
theorem s_pickF {vz : Value} (hx : ev l x = some (.bool false)) (hz : ev l z = some vz) (hb : Nat.blt d n = true) (k : S P n ops Ch E Q (i + 1) ((d, vz) :: l) h) : O P n ops Ch E Q i d (.pick x y z) l h :=
  s_pure hb (fun a w' hf => by rw [← hf.ev hz]; simp only [execOp, hf.ev hx]; rfl) k

theorem s_not {b : Bool} (hx : ev l x = some (.bool b)) (hb : Nat.blt d n = true) (k : S P n ops Ch E Q (i + 1) ((d, .bool (!b)) :: l) h) : O P n ops Ch E Q i d (.unOp .not t x) l h :=
  s_pure hb (fun a w' hf => by simp only [execOp, hf.ev hx]; rfl) k

theorem s_extract {vs : List Value} {j : Nat} (hx : ev l x = some (.tuple vs.toArray)) (hj : nth vs j = some v) (hb : Nat.blt d n = true) (k : S P n ops Ch E Q (i + 1) ((d, v) :: l) h) : O P n ops Ch E Q i d (.extract x j) l h :=
  s_pure hb (fun a w' hf => by rw [nth_eq] at hj; simp [execOp, hf.ev hx, Instr.extract, hj]) k

end pure
end ops
end rules
end Go.Den
