/- Own calculus, part E: what changes memory: stores, new rows, append, copy. No condition. -/
import Derived.Test.YtajgcmgkhmkmbaaDoorDenD
namespace Go.Den
set_option linter.unusedVariables false
set_option maxRecDepth 8000
open Go Go.RowKit

theorem Sl.one {h : Hp} {v : Value} {n : Nat} {cs : List Value} (s : Sl h v n cs) : v.oneCell' = true := by
  obtain ⟨a, c, rfl, -⟩ := s.len; rfl
theorem SlF.one {α : Type} {h : Hp} {f : α → Value} {v : Value} {xs : List α} (s : SlF h f v xs) : v.oneCell' = true := Sl.one s

section
variable {P : Program} {h : Hp} {B : Nat} {e : TypeId} {s : Nat} {v : Value} {n : Nat} {cs : List Value}

theorem cells_one {u : Value} (h1 : u.oneCell' = true) : u.cells = #[u] := by cases u <;> first | rfl | cases h1

theorem set_seg (l : List Value) (j : Nat) (u : Value) (hj : j < l.length) : l.take j ++ [u] ++ l.drop (j + 1) = l.set j u := by
  rw [List.set_eq_take_append_cons_drop, if_pos hj]; simp

/-- A store into a row of the call's own. -/
theorem own_store {w : World} {t : TypeId} {j : Nat} {u : Value} (ho : Own w.heap B e s v n cs) (hj : j < cs.length) (h1 : u.oneCell' = true) (ht : (P.info? t).map (·.size) = some 1) :
    ∃ w', (Instr.storeAt t (ptrAt v j) u).run P w = .ok () w' ∧ Own w'.heap B e s v n (cs.set j u) ∧ Only v.ownBlock w.heap w'.heap ∧ Oth w w' := by
  obtain ⟨hl, ⟨rfl, rfl⟩ | ⟨g, cap, cur, rfl, hB, hg, hc, hm, hs, htk⟩⟩ := ho
  · simp [hl] at hj
  have hcur : j < cur.toList.length := by
    rw [← htk, List.length_take] at hj; omega
  have hst := run_storeCells_at P g j e [u] 0 cur w hg (by simp at hcur ⊢; omega) (by simpa using h1)
  simp only [Nat.add_zero, List.length_singleton] at hst
  rw [set_seg _ _ _ hcur] at hst
  cases hi : P.info? t with
  | none => rw [hi] at ht; cases ht
  | some inf =>
    rw [hi] at ht
    simp only [Option.map_some, Option.some.injEq] at ht
    refine ⟨w.setRow g (cur.toList.set j u).toArray, ?_, ⟨by rw [List.length_set]; exact hl, .inr ⟨g, cap, (cur.toList.set j u).toArray, rfl, hB, setRow_heap w g cur _ e _ hg, hc, hm, by simp [hs], ?_⟩⟩, ⟨by simp, fun k _ hk => setRow_other w g k _ (fun q => hk (by simp [Value.ownBlock, q]))⟩, ⟨rfl, rfl, rfl⟩⟩
    · simp [ptrAt, Addr.add_lit, Instr.storeAt, Instr.sureAddr, storeVar, sizeOf, typeInfo, hi, cells_one h1, ht, hst]
    · rw [← htk]; simp [List.take_set]

theorem app_blk {w w' : World} {t ty : TypeId} {i : TypeInfo} {z v' : Value} {bytes : Nat} (ht : P.underlying t = some (.slice e)) (hi : P.info? e = some i) (hz : i.zero = some z) (hsize : i.size = s) (hby : i.bytes = bytes) (hzs : z.cells.size = s) (hsz : 0 < s)
    (hown : w.ownsRow B e s v n cs) {a : Addr} {m c : Nat} {news : List Value} (hl : news.length = m * s) (hnews : ∀ j u, news[j]? = some u → w.cell? (a.add j) = some u) (h1 : ∀ u ∈ news, u.oneCell' = true)
    (h63 : n + m ≤ maxLen) (hbytes : (n + m) * bytes ≤ 140737488355328)
    (hr : (Builtin.append_ #[t, t] ty #[v, .slice (some a) m c]).run P w = .ok v' w') : v'.ownBlock = v.ownBlock ∨ ∃ b, v'.ownBlock = some b ∧ w.heap.size ≤ b := by
  subst hsize hby
  have hsmall : n + m ≤ 9223372036854775807 := by simp only [maxLen] at h63; omega
  rcases hown.2 with ⟨rfl, rfl⟩ | ⟨g, cap, cur, rfl, hbg, hg, hnc, hcm, hcs, htake⟩
  · by_cases hm : m = 0
    · subst hm
      left
      have hn : news = [] := List.eq_nil_of_length_eq_zero (by simpa using hl)
      subst hn
      have : (Builtin.append_ #[t, t] ty #[.slice none 0 0, .slice (some a) 0 c]).run P w = .ok (.slice none 0 0) w := by
        simp [Builtin.append_, run_underlying ht, sizeOf, typeInfo, hi, Builtin.lenOf, Builtin.firstCells, loadCells, loadCellsFrom]
      rw [this] at hr; cases hr; rfl
    · right
      have := run_append_nil (P := P) w t ty e i z ht hi hz a m c news hl hnews (by omega) (by omega) (by have hb := hbytes; simp only [Nat.zero_add] at hb; omega)
      rw [this] at hr; cases hr
      exact ⟨_, rfl, Nat.le_refl _⟩
  · by_cases hroom : n + m ≤ cap
    · left
      have hfit : n * i.size + news.length ≤ cur.size := by rw [hl, hcs, ← Nat.add_mul]; exact Nat.mul_le_mul_right _ hroom
      have := run_append_room (P := P) w t ty e i ht hi g n cap cur hg a m c news hl hnews h1 hroom hfit
      rw [this] at hr; cases hr; rfl
    · right
      have := run_append_grow (P := P) w t ty e i z ht hi hz ⟨g, 0, none⟩ n cap cs hown.1 (hown.cells (g := g) rfl) a m c news hl hnews (by omega) (by omega) (growslice_fits (by omega) hbytes)
      rw [this] at hr; cases hr
      exact ⟨_, rfl, Nat.le_refl _⟩

/-- append to a row of the call's own. -/
theorem own_append {w : World} {t ty : TypeId} {z x : Value} {bytes m : Nat} {news : List Value} (ht : P.underlying t = some (.slice e)) (hi : (P.info? e).map (fun i => (i.size, i.bytes, i.zero)) = some (s, bytes, some z)) (hzs : z.cells.size = s) (hsz : 0 < s)
    (hown : Own w.heap B e s v n cs) (hx : Sl w.heap x m news) (hl : news.length = m * s) (h1 : ∀ u ∈ news, u.oneCell' = true) (h63 : n + m ≤ maxLen) (hbytes : (n + m) * bytes ≤ 140737488355328) (hB : B ≤ w.heap.size) :
    ∃ v' w', (Builtin.append_ #[t, t] ty #[v, x]).run P w = .ok v' w' ∧ Own w'.heap B e s v' (n + m) (cs ++ news) ∧ Only v.ownBlock w.heap w'.heap ∧ (v'.ownBlock = v.ownBlock ∨ ∃ b, v'.ownBlock = some b ∧ w.heap.size ≤ b) ∧ Oth w w' := by
  cases hq : P.info? e with
  | none => rw [hq] at hi; cases hi
  | some i =>
    rw [hq] at hi
    simp only [Option.map_some, Option.some.injEq, Prod.mk.injEq] at hi
    obtain ⟨i1, i2, i3⟩ := hi
    rcases hx with ⟨⟨a, c, rfl, ha⟩, rfl, rfl⟩ | ⟨b, o, c, rfl, hc, hx⟩
    · cases a with
      | none =>
        rw [ha rfl]
        have := run_append_owned_none (P := P) (w := w) B t ty e i s ht hq v n cs hown
        exact ⟨_, _, this, by simpa using hown, Only.refl _ _, .inl rfl, Oth.refl w⟩
      | some a =>
        obtain ⟨v', w', k1, k2, k3, -⟩ := run_append_own (P := P) w B t ty e i z s bytes ht hq i3 i1 i2 hzs hsz v n cs hown a 0 c [] (by simp) (by simp) (by simp) h63 hbytes hB
        exact ⟨v', w', k1, k2, ⟨k3.size, k3.block⟩, app_blk (news := []) (m := 0) (a := a) (c := c) ht hq i3 i1 i2 hzs hsz hown (by simp) (by simp) (by simp) h63 hbytes k1, k3.os, k3.tape, k3.output⟩
    · have hn : ∀ j u, news[j]? = some u → w.cell? ((⟨b, o, none⟩ : Addr).add j) = some u := fun j u hu => by
        rw [Addr.add_lit, cell?_cellH]; exact hx j u hu
      obtain ⟨v', w', k1, k2, k3, -⟩ := run_append_own (P := P) w B t ty e i z s bytes ht hq i3 i1 i2 hzs hsz v n cs hown ⟨b, o, none⟩ m c news hl hn h1 h63 hbytes hB
      exact ⟨v', w', k1, k2, ⟨k3.size, k3.block⟩, app_blk ht hq i3 i1 i2 hzs hsz hown hl hn h1 h63 hbytes k1, k3.os, k3.tape, k3.output⟩
end

section rules
variable {P : Program} {n : Nat} {Q : Post} {l : Fr} {h : Hp} {ops : List Oper} {Ch : Hp → Prop} {E : Nat → Bool} {i : Nat}
variable {d : Nat} {t : TypeId} {x y z : Operand}

/-- The operation number i, which is to run and yields nothing. -/
structure O0 (P : Program) (n : Nat) (ops : List Oper) (Ch : Hp → Prop) (E : Nat → Bool) (Q : Post) (i : Nat) (op : Op) (l : Fr) (h : Hp) : Prop where mk ::
  get : ∀ {ty : TypeId} {ps : String} {af : Array Edge} {g : Option (Nat × Bool)}, opAt ops i = some ⟨none, op, ty, ps, af, g⟩ → gd ops l g = some true → S P n ops Ch E Q i l h
theorem s_op0 {op : Op} {ty : TypeId} {ps : String} {af : Array Edge} {g : Option (Nat × Bool)} (ho : opAt ops i = some ⟨none, op, ty, ps, af, g⟩) (hg : gd ops l g = some true) (k : O0 P n ops Ch E Q i op l h) : S P n ops Ch E Q i l h := k.get ho hg

theorem s_store {v u : Value} {j m s B : Nat} {cs : List Value} {e : TypeId} (hx : ev l x = some (ptrAt v j)) (hy : ev l y = some u) (ht : (P.info? t).map (·.size) = some 1) (hE : E i = true) (ho : Own h B e s v m cs) (h1 : u.oneCell' = true) (hj : j < cs.length)
    (k : ∀ h', Own h' B e s v m (cs.set j u) → Only v.ownBlock h h' → Ch h' ∧ S P n ops Ch E Q (i + 1) l h') : O0 P n ops Ch E Q i (.store t x y) l h :=
  O0.mk fun hop hg => s_eff hop hE hg fun a w hf hw => by
    subst hw
    obtain ⟨w', g1, g2, g3, g4⟩ := own_store (P := P) (t := t) ho hj h1 ht
    unfold Eff
    simp only [execOp, hf.ev hx, hf.ev hy, Sem.run_bind, g1]
    exact ⟨g4, (k _ g2 g3).1, _, hf.putNone _, (k _ g2 g3).2⟩
theorem s_storeF {α : Type} {f : α → Value} {v u : Value} {j B : Nat} {cs : List α} {e : TypeId} (u' : α) (hx : ev l x = some (ptrAt v j)) (hy : ev l y = some u) (hu : f u' = u) (ht : (P.info? t).map (·.size) = some 1) (hE : E i = true) (ho : OwnF h B e f v cs) (h1 : u.oneCell' = true) (hj : j < cs.length)
    (k : ∀ h', OwnF h' B e f v (cs.set j u') → Only v.ownBlock h h' → Ch h' ∧ S P n ops Ch E Q (i + 1) l h') : O0 P n ops Ch E Q i (.store t x y) l h :=
  s_store hx hy ht hE ho h1 (by simpa using hj) fun h' g1 g2 => k h' (by unfold OwnF; rw [List.length_set, List.map_set, hu]; exact g1) g2

/-- make([]T, l, c), T of one cell. -/
theorem s_make {α : Type} {f : α → Value} {ln c bytes : Nat} {e : TypeId} {kl kc : IntKind} {z0 : Value} (z1 : α) (hx : IsK (ev l x) kl ln) (hy : IsK (ev l y) kc c) (ht : P.underlying t = some (.slice e)) (hi : (P.info? e).map (fun i => (i.size, i.bytes, i.zero)) = some (1, bytes, some z0)) (hzs : z0.oneCell' = true) (hz1 : f z1 = z0)
    (hE : E i = true) (hb : Nat.blt d n = true) (h1 : ln ≤ c) (h2 : bytes * c ≤ 281474976710656) (h3 : c ≤ 9223372036854775807)
    (k : ∀ v h', OwnF h' h.size e f v (List.replicate ln z1) → Ext h h' → v.ownBlock = some h.size → Ch h' ∧ S P n ops Ch E Q (i + 1) ((d, v) :: l) h') : O P n ops Ch E Q i d (.makeSlice t x y) l h :=
  O.mk fun hop hg => s_eff hop hE hg fun a w hf hw => by
    subst hw
    cases hq : P.info? e with
    | none => rw [hq] at hi; cases hi
    | some inf =>
      rw [hq] at hi
      simp only [Option.map_some, Option.some.injEq, Prod.mk.injEq] at hi
      obtain ⟨i1, i2, i3⟩ := hi
      have hr := run_make (P := P) w t e inf z0 ht hq i3 kl kc ln c (by omega) (by omega) (by rw [i2, ← Int.natCast_mul]; omega) (by omega)
      simp only [Int.toNat_natCast, i1, Nat.mul_one] at hr
      have hmade : (madeCells z0.cells c).toList = List.replicate c z0 := by
        rw [cells_one hzs]
        apply List.ext_getElem
        · simp [madeCells]
        · intro j h1 h2
          simp [madeCells, Nat.mod_one]
      have ho : OwnF (w.alloc (.cells (madeCells z0.cells c) e)).heap w.heap.size e f (.slice (some ⟨w.heap.size, 0, none⟩) ln c) (List.replicate ln z1) := by
        refine ⟨by simp, .inr ⟨w.heap.size, c, _, by simp, Nat.le_refl _, heap_alloc_new w _, by simpa using h1, by simp [maxLen]; omega, by rw [size_madeCells]; simp, ?_⟩⟩
        rw [hmade]; simp [hz1, List.take_replicate, Nat.min_eq_left h1]
      have := k _ _ ho (Ext.push _ _) rfl
      unfold Eff
      simp only [execOp, hf.ev hx.h, hf.ev hy.h, Sem.run_bind, hr]
      exact ⟨⟨rfl, rfl, rfl⟩, this.1, _, hf.put d _ hb, this.2⟩

theorem fill_one : ∀ (vs : List Value) (pre post : List Value), (∀ u ∈ vs, u.oneCell' = true) → post.length = vs.length →
    Instr.fill (fun i => some (i * 1, 1)) (pre ++ post).toArray ((List.range' pre.length vs.length).zip vs) = some (pre ++ vs).toArray
  | [], pre, post, _, hp => by
    have : post = [] := List.eq_nil_of_length_eq_zero (by simpa using hp)
    subst this
    simp [Instr.fill]
  | u :: vs, pre, post, h1, hp => by
    cases post with
    | nil => simp at hp
    | cons p post =>
      have ih := fill_one vs (pre ++ [u]) post (fun x hx => h1 x (by simp [hx])) (by simpa using hp)
      simp only [List.length_cons, List.range'_succ, List.zip_cons_cons, Instr.fill, cells_one (h1 u (by simp)), Nat.mul_one]
      have hsz : ¬ ((#[u] : Array Value).size ≠ 1 ∨ pre.length + (#[u] : Array Value).size > (pre ++ p :: post).toArray.size) := by simp
      simp only [hsz, decide_eq_true_eq, Bool.or_eq_true, if_false]
      have hset : ((pre ++ p :: post).toArray).setIfInBounds pre.length u = (pre ++ [u] ++ post).toArray := by
        apply Array.ext'
        simp
      simp only [List.length_append, List.length_singleton, List.append_assoc, List.singleton_append, Nat.mul_one] at ih
      simp [hset] at ih ⊢
      exact ih

/-- []T{..}, T of one cell. -/
theorem s_lit {α : Type} {f : α → Value} {ln : Nat} {parts : Array (Nat × Operand)} {vs : List Value} {e : TypeId} {z0 : Value} {bytes : Nat} (xs : List α) (he : evs l (parts.toList.map (·.2)) = some vs) (hp : parts.toList.map (·.1) = List.range' 0 ln) (hl : vs.length = ln) (hxs : xs.map f = vs)
    (ht : P.underlying t = some (.slice e)) (hi : (P.info? e).map (fun i => (i.size, i.bytes, i.zero)) = some (1, bytes, some z0)) (h1 : ∀ u ∈ vs, u.oneCell' = true) (hz1 : z0.oneCell' = true) (hE : E i = true) (hb : Nat.blt d n = true) (hln : ln ≤ 16777216)
    (k : ∀ v h', OwnF h' h.size e f v xs → Ext h h' → v.ownBlock = some h.size → Ch h' ∧ S P n ops Ch E Q (i + 1) ((d, v) :: l) h') : O P n ops Ch E Q i d (.buildSlice t ln parts) l h :=
  O.mk fun hop hg => s_eff hop hE hg fun a w hf hw => by
    subst hw
    cases hq : P.info? e with
    | none => rw [hq] at hi; cases hi
    | some inf =>
      rw [hq] at hi
      simp only [Option.map_some, Option.some.injEq, Prod.mk.injEq] at hi
      obtain ⟨i1, i2, i3⟩ := hi
      have hparts : (parts.map fun (i, x) => (i, a.eval x)).toList = (List.range' 0 vs.length).zip vs := by
        rw [hl, ← hp, ← hf.evs he, Array.toList_map, List.map_map, List.zip_map']
        rfl
      have hfill := fill_one vs [] (List.replicate ln z0) h1 (by simp [hl])
      simp only [List.nil_append, List.length_nil] at hfill
      have hmade : ∀ zero : Array Value, (zero = if ln = 0 then #[] else #[z0]) → (Array.range ln).map (zero[· % zero.size]!) = (List.replicate ln z0).toArray := fun zero hzero => by
        apply Array.ext'
        apply List.ext_getElem
        · simp
        · intro j h1 h2
          simp at h1
          have : ln ≠ 0 := by omega
          simp [hzero, this, Nat.mod_one]
      have hr : (Instr.buildSlice t ln (parts.map fun (i, x) => (i, a.eval x))).run P w = .ok (.slice (some ⟨w.heap.size, 0, none⟩) ln ln) (w.alloc (.cells vs.toArray e)) := by
        have hbig : ¬ (16777216 < ln) := by omega
        by_cases h0 : ln = 0
        · subst h0
          have hv : vs = [] := List.eq_nil_of_length_eq_zero hl
          subst hv
          have hp0 : (parts.map fun (i, x) => (i, a.eval x)) = #[] := by apply Array.ext'; rw [hparts]; rfl
          rw [hp0]
          simp [Instr.buildSlice, run_underlying ht, sizeOf, typeInfo, hq, newRow, Instr.fill, Array.range_zero']
        · have hm := hmade #[z0] (by simp [h0])
          simp only [Nat.mul_one] at hfill
          have hpa : (parts.map fun (i, x) => (i, a.eval x)) = ((List.range' 0 vs.length).zip vs).toArray := by apply Array.ext'; rw [hparts]
          rw [hpa]
          simp [Instr.buildSlice, run_underlying ht, sizeOf, typeInfo, hq, i1, i3, zeroValue, h0, cells_one hz1, hbig, newRow] at hm ⊢
          simp only [List.toArray_replicate] at hfill
          rw [hm, hfill]
          simp
      have ho : OwnF (w.alloc (.cells vs.toArray e)).heap w.heap.size e f (.slice (some ⟨w.heap.size, 0, none⟩) ln ln) xs := by
        have hxl : xs.length = ln := by rw [← hl, ← hxs]; simp
        refine ⟨by simp, .inr ⟨w.heap.size, ln, _, by rw [hxl], Nat.le_refl _, heap_alloc_new w _, by omega, by simp [maxLen]; omega, by simp [hl], ?_⟩⟩
        rw [hxs, Nat.mul_one, hxl, ← hl]; simp
      have := k _ _ ho (Ext.push _ _) rfl
      unfold Eff
      simp only [execOp, Sem.run_bind, hr]
      exact ⟨⟨rfl, rfl, rfl⟩, this.1, _, hf.put d _ hb, this.2⟩

theorem s_append {v u : Value} {m k' s B bytes : Nat} {cs news : List Value} {e : TypeId} {z0 : Value} (hx : ev l x = some v) (hy : ev l y = some u) (ht : P.underlying t = some (.slice e)) (hi : (P.info? e).map (fun i => (i.size, i.bytes, i.zero)) = some (s, bytes, some z0)) (hzs : z0.cells.size = s) (hsz : 0 < s)
    (hE : E i = true) (hb : Nat.blt d n = true) (ho : Own h B e s v m cs) (hs : Sl h u k' news) (hl : news.length = k' * s) (h1 : ∀ u ∈ news, u.oneCell' = true) (hB : B ≤ h.size) (h63 : m + k' ≤ maxLen) (hby : (m + k') * bytes ≤ 140737488355328)
    (k : ∀ v' h', Own h' B e s v' (m + k') (cs ++ news) → Only v.ownBlock h h' → (v'.ownBlock = v.ownBlock ∨ ∃ b, v'.ownBlock = some b ∧ h.size ≤ b) → Ch h' ∧ S P n ops Ch E Q (i + 1) ((d, v') :: l) h') : O P n ops Ch E Q i d (.call ⟨.builtin .append, #[x, y], #[t, t]⟩) l h :=
  O.mk fun {ty} _ _ _ hop hg => s_eff hop hE hg fun a w hf hw => by
    subst hw
    obtain ⟨v', w', g1, g2, g3, g4, g5⟩ := own_append (P := P) (ty := ty) ht hi hzs hsz ho hs hl h1 h63 hby hB
    unfold Eff execOp
    simp only [resolve, invoke, builtin, Sem.run_bind, Sem.run_pure, Result.andThen_ok, List.map_toArray, List.map_cons, List.map_nil, hf.ev hx, hf.ev hy, g1]
    exact ⟨g5, (k _ _ g2 g3 g4).1, _, hf.put d _ hb, (k _ _ g2 g3 g4).2⟩
theorem s_appendF {α : Type} {f : α → Value} {v u : Value} {B bytes : Nat} {cs news : List α} {e : TypeId} {z0 : Value} (hx : ev l x = some v) (hy : ev l y = some u) (ht : P.underlying t = some (.slice e)) (hi : (P.info? e).map (fun i => (i.size, i.bytes, i.zero)) = some (1, bytes, some z0)) (hzs : z0.cells.size = 1)
    (hE : E i = true) (hb : Nat.blt d n = true) (ho : OwnF h B e f v cs) (hs : SlF h f u news) (h1 : ∀ a, (f a).oneCell' = true) (hB : B ≤ h.size) (h63 : cs.length + news.length ≤ maxLen) (hby : (cs.length + news.length) * bytes ≤ 140737488355328)
    (k : ∀ v' h', OwnF h' B e f v' (cs ++ news) → Only v.ownBlock h h' → (v'.ownBlock = v.ownBlock ∨ ∃ b, v'.ownBlock = some b ∧ h.size ≤ b) → Ch h' ∧ S P n ops Ch E Q (i + 1) ((d, v') :: l) h') : O P n ops Ch E Q i d (.call ⟨.builtin .append, #[x, y], #[t, t]⟩) l h :=
  s_append hx hy ht hi hzs Nat.zero_lt_one hE hb ho hs (by simp) (by intro u hu; obtain ⟨a, -, rfl⟩ := List.mem_map.1 hu; exact h1 a) hB h63 hby fun v' h' g1 g2 g3 => k v' h' (by unfold OwnF; rw [List.length_append, List.map_append]; exact g1) g2 g3

end rules
end Go.Den
