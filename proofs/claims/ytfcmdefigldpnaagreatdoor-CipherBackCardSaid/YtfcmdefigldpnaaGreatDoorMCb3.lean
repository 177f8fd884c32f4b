/- Texts DenE to DenF of this work, joined, without what the law does not lean on. -/
import Derived.Test.YtfcmdefigldpnaaGreatDoorMCb2
namespace Go.Den
set_option linter.unusedVariables false
set_option maxRecDepth 8000
open Go Go.RowKit

theorem Sl.one {h : Hp} {v : Value} {n : Nat} {cs : List Value} (s : Sl h v n cs) : v.oneCell' = true := by
  obtain ⟨a, c, rfl, -⟩ := s.len; rfl
theorem SlF.one {α : Type} {h : Hp} {f : α → Value} {v : Value} {xs : List α} (s : SlF h f v xs) : v.oneCell' = true := Sl.one s

section
variable {P : Program} {h : Hp} {B : Nat} {e : TypeId} {s : Nat} {v : Value} {n : Nat} {cs : List Value}

theorem cells_one {u : Value} (h1 : u.oneCell' = true) : u.cells = #[u] := by cases u <;> first | rfl | cases h1

theorem set_seg (l : List Value) (j : Nat) (u : Value) (hj : j < l.length) : l.take j ++ [u] ++ l.drop (j + 1) = l.set j u := by
  rw [List.set_eq_take_append_cons_drop, if_pos hj]; simp

theorem own_store {w : World} {t : TypeId} {j : Nat} {u : Value} (ho : Own w.heap B e s v n cs) (hj : j < cs.length) (h1 : u.oneCell' = true) (ht : (P.info? t).map (·.size) = some 1) :
    ∃ w', (Instr.storeAt t (ptrAt v j) u).run P w = .ok () w' ∧ Own w'.heap B e s v n (cs.set j u) ∧ Only v.ownBlock w.heap w'.heap ∧ Oth w w' := by
  obtain ⟨hl, ⟨rfl, rfl⟩ | ⟨g, cap, cur, rfl, hB, hg, hc, hm, hs, htk⟩⟩ := ho
  · simp [hl] at hj
  have hcur : j < cur.toList.length := by
    rw [← htk, List.length_take] at hj; omega
  have hst := run_storeCells_at P g j e [u] 0 cur w hg (by simp at hcur ⊢; omega) (by simpa using h1)
  simp only [Nat.add_zero, List.length_singleton] at hst
  rw [set_seg _ _ _ hcur] at hst
  cases hi : P.info? t with
  | none => rw [hi] at ht; cases ht
  | some inf =>
    rw [hi] at ht
    simp only [Option.map_some, Option.some.injEq] at ht
    refine ⟨w.setRow g (cur.toList.set j u).toArray, ?_, ⟨by rw [List.length_set]; exact hl, .inr ⟨g, cap, (cur.toList.set j u).toArray, rfl, hB, setRow_heap w g cur _ e _ hg, hc, hm, by simp [hs], ?_⟩⟩, ⟨by simp, fun k _ hk => setRow_other w g k _ (fun q => hk (by simp [Value.ownBlock, q]))⟩, ⟨rfl, rfl, rfl⟩⟩
    · simp [ptrAt, Addr.add_lit, Instr.storeAt, Instr.sureAddr, storeVar, sizeOf, typeInfo, hi, cells_one h1, ht, hst]
    · rw [← htk]; simp [List.take_set]

theorem app_blk {w w' : World} {t ty : TypeId} {i : TypeInfo} {z v' : Value} {bytes : Nat} (ht : P.underlying t = some (.slice e)) (hi : P.info? e = some i) (hz : i.zero = some z) (hsize : i.size = s) (hby : i.bytes = bytes) (hzs : z.cells.size = s) (hsz : 0 < s)
    (hown : w.ownsRow B e s v n cs) {a : Addr} {m c : Nat} {news : List Value} (hl : news.length = m * s) (hnews : ∀ j u, news[j]? = some u → w.cell? (a.add j) = some u) (h1 : ∀ u ∈ news, u.oneCell' = true)
    (h63 : n + m ≤ maxLen) (hbytes : (n + m) * bytes ≤ 140737488355328)
    (hr : (Builtin.append_ #[t, t] ty #[v, .slice (some a) m c]).run P w = .ok v' w') : v'.ownBlock = v.ownBlock ∨ ∃ b, v'.ownBlock = some b ∧ w.heap.size ≤ b := by
  subst hsize hby
  have hsmall : n + m ≤ 9223372036854775807 := by simp only [maxLen] at h63; omega
  rcases hown.2 with ⟨rfl, rfl⟩ | ⟨g, cap, cur, rfl, hbg, hg, hnc, hcm, hcs, htake⟩
  · by_cases hm : m = 0
    · subst hm
      left
      have hn : news = [] := List.eq_nil_of_length_eq_zero (by simpa using hl)
      subst hn
      have : (Builtin.append_ #[t, t] ty #[.slice none 0 0, .slice (some a) 0 c]).run P w = .ok (.slice none 0 0) w := by
        simp [Builtin.append_, run_underlying ht, sizeOf, typeInfo, hi, Builtin.lenOf, Builtin.firstCells, loadCells, loadCellsFrom]
      rw [this] at hr; cases hr; rfl
    · right
      have := run_append_nil (P := P) w t ty e i z ht hi hz a m c news hl hnews (by omega) (by omega) (by have hb := hbytes; simp only [Nat.zero_add] at hb; omega)
      rw [this] at hr; cases hr
      exact ⟨_, rfl, Nat.le_refl _⟩
  · by_cases hroom : n + m ≤ cap
    · left
      have hfit : n * i.size + news.length ≤ cur.size := by rw [hl, hcs, ← Nat.add_mul]; exact Nat.mul_le_mul_right _ hroom
      have := run_append_room (P := P) w t ty e i ht hi g n cap cur hg a m c news hl hnews h1 hroom hfit
      rw [this] at hr; cases hr; rfl
    · right
      have := run_append_grow (P := P) w t ty e i z ht hi hz ⟨g, 0, none⟩ n cap cs hown.1 (hown.cells (g := g) rfl) a m c news hl hnews (by omega) (by omega) (growslice_fits (by omega) hbytes)
      rw [this] at hr; cases hr
      exact ⟨_, rfl, Nat.le_refl _⟩

theorem own_append {w : World} {t ty : TypeId} {z x : Value} {bytes m : Nat} {news : List Value} (ht : P.underlying t = some (.slice e)) (hi : (P.info? e).map (fun i => (i.size, i.bytes, i.zero)) = some (s, bytes, some z)) (hzs : z.cells.size = s) (hsz : 0 < s)
    (hown : Own w.heap B e s v n cs) (hx : Sl w.heap x m news) (hl : news.length = m * s) (h1 : ∀ u ∈ news, u.oneCell' = true) (h63 : n + m ≤ maxLen) (hbytes : (n + m) * bytes ≤ 140737488355328) (hB : B ≤ w.heap.size) :
    ∃ v' w', (Builtin.append_ #[t, t] ty #[v, x]).run P w = .ok v' w' ∧ Own w'.heap B e s v' (n + m) (cs ++ news) ∧ Only v.ownBlock w.heap w'.heap ∧ (v'.ownBlock = v.ownBlock ∨ ∃ b, v'.ownBlock = some b ∧ w.heap.size ≤ b) ∧ Oth w w' := by
  cases hq : P.info? e with
  | none => rw [hq] at hi; cases hi
  | some i =>
    rw [hq] at hi
    simp only [Option.map_some, Option.some.injEq, Prod.mk.injEq] at hi
    obtain ⟨i1, i2, i3⟩ := hi
    rcases hx with ⟨⟨a, c, rfl, ha⟩, rfl, rfl⟩ | ⟨b, o, c, rfl, hc, hx⟩
    · cases a with
      | none =>
        rw [ha rfl]
        have := run_append_owned_none (P := P) (w := w) B t ty e i s ht hq v n cs hown
        exact ⟨_, _, this, by simpa using hown, Only.refl _ _, .inl rfl, Oth.refl w⟩
      | some a =>
        obtain ⟨v', w', k1, k2, k3, -⟩ := run_append_own (P := P) w B t ty e i z s bytes ht hq i3 i1 i2 hzs hsz v n cs hown a 0 c [] (by simp) (by simp) (by simp) h63 hbytes hB
        exact ⟨v', w', k1, k2, ⟨k3.size, k3.block⟩, app_blk (news := []) (m := 0) (a := a) (c := c) ht hq i3 i1 i2 hzs hsz hown (by simp) (by simp) (by simp) h63 hbytes k1, k3.os, k3.tape, k3.output⟩
    · have hn : ∀ j u, news[j]? = some u → w.cell? ((⟨b, o, none⟩ : Addr).add j) = some u := fun j u hu => by
        rw [Addr.add_lit, cell?_cellH]; exact hx j u hu
      obtain ⟨v', w', k1, k2, k3, -⟩ := run_append_own (P := P) w B t ty e i z s bytes ht hq i3 i1 i2 hzs hsz v n cs hown ⟨b, o, none⟩ m c news hl hn h1 h63 hbytes hB
      exact ⟨v', w', k1, k2, ⟨k3.size, k3.block⟩, app_blk ht hq i3 i1 i2 hzs hsz hown hl hn h1 h63 hbytes k1, k3.os, k3.tape, k3.output⟩
end

section rules
variable {P : Program} {n : Nat} {Q : Post} {l : Fr} {h : Hp} {ops : List Oper} {Ch : Hp → Prop} {E : Nat → Bool} {i : Nat}
variable {d : Nat} {t : TypeId} {x y z : Operand}

structure O0 (P : Program) (n : Nat) (ops : List Oper) (Ch : Hp → Prop) (E : Nat → Bool) (Q : Post) (i : Nat) (op : Op) (l : Fr) (h : Hp) : Prop where mk ::
  get : ∀ {ty : TypeId} {ps : String} {af : Array Edge} {g : Option (Nat × Bool)}, opAt ops i = some ⟨none, op, ty, ps, af, g⟩ → gd ops l g = some true → S P n ops Ch E Q i l h
theorem s_op0 {op : Op} {ty : TypeId} {ps : String} {af : Array Edge} {g : Option (Nat × Bool)} (ho : opAt ops i = some ⟨none, op, ty, ps, af, g⟩) (hg : gd ops l g = some true) (k : O0 P n ops Ch E Q i op l h) : S P n ops Ch E Q i l h := k.get ho hg

theorem s_store {v u : Value} {j m s B : Nat} {cs : List Value} {e : TypeId} (hx : ev l x = some (ptrAt v j)) (hy : ev l y = some u) (ht : (P.info? t).map (·.size) = some 1) (hE : E i = true) (ho : Own h B e s v m cs) (h1 : u.oneCell' = true) (hj : j < cs.length)
    (k : ∀ h', Own h' B e s v m (cs.set j u) → Only v.ownBlock h h' → Ch h' ∧ S P n ops Ch E Q (i + 1) l h') : O0 P n ops Ch E Q i (.store t x y) l h :=
  O0.mk fun hop hg => s_eff hop hE hg fun a w hf hw => by
    subst hw
    obtain ⟨w', g1, g2, g3, g4⟩ := own_store (P := P) (t := t) ho hj h1 ht
    unfold Eff
    simp only [execOp, hf.ev hx, hf.ev hy, Sem.run_bind, g1]
    exact ⟨g4, (k _ g2 g3).1, _, hf.putNone _, (k _ g2 g3).2⟩
theorem s_storeF {α : Type} {f : α → Value} {v u : Value} {j B : Nat} {cs : List α} {e : TypeId} (u' : α) (hx : ev l x = some (ptrAt v j)) (hy : ev l y = some u) (hu : f u' = u) (ht : (P.info? t).map (·.size) = some 1) (hE : E i = true) (ho : OwnF h B e f v cs) (h1 : u.oneCell' = true) (hj : j < cs.length)
    (k : ∀ h', OwnF h' B e f v (cs.set j u') → Only v.ownBlock h h' → Ch h' ∧ S P n ops Ch E Q (i + 1) l h') : O0 P n ops Ch E Q i (.store t x y) l h :=
  s_store hx hy ht hE ho h1 (by simpa using hj) fun h' g1 g2 => k h' (by unfold OwnF; rw [List.length_set, List.map_set, hu]; exact g1) g2

theorem s_make {α : Type} {f : α → Value} {ln c bytes : Nat} {e : TypeId} {kl kc : IntKind} {z0 : Value} (z1 : α) (hx : IsK (ev l x) kl ln) (hy : IsK (ev l y) kc c) (ht : P.underlying t = some (.slice e)) (hi : (P.info? e).map (fun i => (i.size, i.bytes, i.zero)) = some (1, bytes, some z0)) (hzs : z0.oneCell' = true) (hz1 : f z1 = z0)
    (hE : E i = true) (hb : Nat.blt d n = true) (h1 : ln ≤ c) (h2 : bytes * c ≤ 281474976710656) (h3 : c ≤ 9223372036854775807)
    (k : ∀ v h', OwnF h' h.size e f v (List.replicate ln z1) → Ext h h' → v.ownBlock = some h.size → Ch h' ∧ S P n ops Ch E Q (i + 1) ((d, v) :: l) h') : O P n ops Ch E Q i d (.makeSlice t x y) l h :=
  O.mk fun hop hg => s_eff hop hE hg fun a w hf hw => by
    subst hw
    cases hq : P.info? e with
    | none => rw [hq] at hi; cases hi
    | some inf =>
      rw [hq] at hi
      simp only [Option.map_some, Option.some.injEq, Prod.mk.injEq] at hi
      obtain ⟨i1, i2, i3⟩ := hi
      have hr := run_make (P := P) w t e inf z0 ht hq i3 kl kc ln c (by omega) (by omega) (by rw [i2, ← Int.natCast_mul]; omega) (by omega)
      simp only [Int.toNat_natCast, i1, Nat.mul_one] at hr
      have hmade : (madeCells z0.cells c).toList = List.replicate c z0 := by
        rw [cells_one hzs]
        apply List.ext_getElem
        · simp [madeCells]
        · intro j h1 h2
          simp [madeCells, Nat.mod_one]
      have ho : OwnF (w.alloc (.cells (madeCells z0.cells c) e)).heap w.heap.size e f (.slice (some ⟨w.heap.size, 0, none⟩) ln c) (List.replicate ln z1) := by
        refine ⟨by simp, .inr ⟨w.heap.size, c, _, by simp, Nat.le_refl _, heap_alloc_new w _, by simpa using h1, by simp [maxLen]; omega, by rw [size_madeCells]; simp, ?_⟩⟩
        rw [hmade]; simp [hz1, List.take_replicate, Nat.min_eq_left h1]
      have := k _ _ ho (Ext.push _ _) rfl
      unfold Eff
      simp only [execOp, hf.ev hx.h, hf.ev hy.h, Sem.run_bind, hr]
      exact ⟨⟨rfl, rfl, rfl⟩, this.1, _, hf.put d _ hb, this.2⟩

theorem fill_one : ∀ (vs : List Value) (pre post : List Value), (∀ u ∈ vs, u.oneCell' = true) → post.length = vs.length →
    Instr.fill (fun i => some (i * 1, 1)) (pre ++ post).toArray ((List.range' pre.length vs.length).zip vs) = some (pre ++ vs).toArray
  | [], pre, post, _, hp => by
    have : post = [] := List.eq_nil_of_length_eq_zero (by simpa using hp)
    subst this
    simp [Instr.fill]
  | u :: vs, pre, post, h1, hp => by
    cases post with
    | nil => simp at hp
    | cons p post =>
      have ih := fill_one vs (pre ++ [u]) post (fun x hx => h1 x (by simp [hx])) (by simpa using hp)
      simp only [List.length_cons, List.range'_succ, List.zip_cons_cons, Instr.fill, cells_one (h1 u (by simp)), Nat.mul_one]
      have hsz : ¬ ((#[u] : Array Value).size ≠ 1 ∨ pre.length + (#[u] : Array Value).size > (pre ++ p :: post).toArray.size) := by simp
      simp only [hsz, decide_eq_true_eq, Bool.or_eq_true, if_false]
      have hset : ((pre ++ p :: post).toArray).setIfInBounds pre.length u = (pre ++ [u] ++ post).toArray := by
        apply Array.ext'
        simp
      simp only [List.length_append, List.length_singleton, List.append_assoc, List.singleton_append, Nat.mul_one] at ih
      simp [hset] at ih ⊢
      exact ih

theorem s_lit {α : Type} {f : α → Value} {ln : Nat} {parts : Array (Nat × Operand)} {vs : List Value} {e : TypeId} {z0 : Value} {bytes : Nat} (xs : List α) (he : evs l (parts.toList.map (·.2)) = some vs) (hp : parts.toList.map (·.1) = List.range' 0 ln) (hl : vs.length = ln) (hxs : xs.map f = vs)
    (ht : P.underlying t = some (.slice e)) (hi : (P.info? e).map (fun i => (i.size, i.bytes, i.zero)) = some (1, bytes, some z0)) (h1 : ∀ u ∈ vs, u.oneCell' = true) (hz1 : z0.oneCell' = true) (hE : E i = true) (hb : Nat.blt d n = true) (hln : ln ≤ 16777216)
    (k : ∀ v h', OwnF h' h.size e f v xs → Ext h h' → v.ownBlock = some h.size → Ch h' ∧ S P n ops Ch E Q (i + 1) ((d, v) :: l) h') : O P n ops Ch E Q i d (.buildSlice t ln parts) l h :=
  O.mk fun hop hg => s_eff hop hE hg fun a w hf hw => by
    subst hw
    cases hq : P.info? e with
    | none => rw [hq] at hi; cases hi
    | some inf =>
      rw [hq] at hi
      simp only [Option.map_some, Option.some.injEq, Prod.mk.injEq] at hi
      obtain ⟨i1, i2, i3⟩ := hi
      have hparts : (parts.map fun (i, x) => (i, a.eval x)).toList = (List.range' 0 vs.length).zip vs := by
        rw [hl, ← hp, ← hf.evs he, Array.toList_map, List.map_map, List.zip_map']
        rfl
      have hfill := fill_one vs [] (List.replicate ln z0) h1 (by simp [hl])
      simp only [List.nil_append, List.length_nil] at hfill
      have hmade : ∀ zero : Array Value, (zero = if ln = 0 then #[] else #[z0]) → (Array.range ln).map (zero[· % zero.size]!) = (List.replicate ln z0).toArray := fun zero hzero => by
        apply Array.ext'
        apply List.ext_getElem
        · simp
        · intro j h1 h2
          simp at h1
          have : ln ≠ 0 := by omega
          simp [hzero, this, Nat.mod_one]
      have hr : (Instr.buildSlice t ln (parts.map fun (i, x) => (i, a.eval x))).run P w = .ok (.slice (some ⟨w.heap.size, 0, none⟩) ln ln) (w.alloc (.cells vs.toArray e)) := by
        have hbig : ¬ (16777216 < ln) := by omega
        by_cases h0 : ln = 0
        · subst h0
          have hv : vs = [] := List.eq_nil_of_length_eq_zero hl
          subst hv
          have hp0 : (parts.map fun (i, x) => (i, a.eval x)) = #[] := by apply Array.ext'; rw [hparts]; rfl
          rw [hp0]
          simp [Instr.buildSlice, run_underlying ht, sizeOf, typeInfo, hq, newRow, Instr.fill, Array.range_zero']
        · have hm := hmade #[z0] (by simp [h0])
          simp only [Nat.mul_one] at hfill
          have hpa : (parts.map fun (i, x) => (i, a.eval x)) = ((List.range' 0 vs.length).zip vs).toArray := by apply Array.ext'; rw [hparts]
          rw [hpa]
          simp [Instr.buildSlice, run_underlying ht, sizeOf, typeInfo, hq, i1, i3, zeroValue, h0, cells_one hz1, hbig, newRow] at hm ⊢
          simp only [List.toArray_replicate] at hfill
          rw [hm, hfill]
          simp
      have ho : OwnF (w.alloc (.cells vs.toArray e)).heap w.heap.size e f (.slice (some ⟨w.heap.size, 0, none⟩) ln ln) xs := by
        have hxl : xs.length = ln := by rw [← hl, ← hxs]; simp
        refine ⟨by simp, .inr ⟨w.heap.size, ln, _, by rw [hxl], Nat.le_refl _, heap_alloc_new w _, by omega, by simp [maxLen]; omega, by simp [hl], ?_⟩⟩
        rw [hxs, Nat.mul_one, hxl, ← hl]; simp
      have := k _ _ ho (Ext.push _ _) rfl
      unfold Eff
      simp only [execOp, Sem.run_bind, hr]
      exact ⟨⟨rfl, rfl, rfl⟩, this.1, _, hf.put d _ hb, this.2⟩

theorem s_append {v u : Value} {m k' s B bytes : Nat} {cs news : List Value} {e : TypeId} {z0 : Value} (hx : ev l x = some v) (hy : ev l y = some u) (ht : P.underlying t = some (.slice e)) (hi : (P.info? e).map (fun i => (i.size, i.bytes, i.zero)) = some (s, bytes, some z0)) (hzs : z0.cells.size = s) (hsz : 0 < s)
    (hE : E i = true) (hb : Nat.blt d n = true) (ho : Own h B e s v m cs) (hs : Sl h u k' news) (hl : news.length = k' * s) (h1 : ∀ u ∈ news, u.oneCell' = true) (hB : B ≤ h.size) (h63 : m + k' ≤ maxLen) (hby : (m + k') * bytes ≤ 140737488355328)
    (k : ∀ v' h', Own h' B e s v' (m + k') (cs ++ news) → Only v.ownBlock h h' → (v'.ownBlock = v.ownBlock ∨ ∃ b, v'.ownBlock = some b ∧ h.size ≤ b) → Ch h' ∧ S P n ops Ch E Q (i + 1) ((d, v') :: l) h') : O P n ops Ch E Q i d (.call ⟨.builtin .append, #[x, y], #[t, t]⟩) l h :=
  O.mk fun {ty} _ _ _ hop hg => s_eff hop hE hg fun a w hf hw => by
    subst hw
    obtain ⟨v', w', g1, g2, g3, g4, g5⟩ := own_append (P := P) (ty := ty) ht hi hzs hsz ho hs hl h1 h63 hby hB
    unfold Eff execOp
    simp only [resolve, invoke, builtin, Sem.run_bind, Sem.run_pure, Result.andThen_ok, List.map_toArray, List.map_cons, List.map_nil, hf.ev hx, hf.ev hy, g1]
    exact ⟨g5, (k _ _ g2 g3 g4).1, _, hf.put d _ hb, (k _ _ g2 g3 g4).2⟩
theorem s_appendF {α : Type} {f : α → Value} {v u : Value} {B bytes : Nat} {cs news : List α} {e : TypeId} {z0 : Value} (hx : ev l x = some v) (hy : ev l y = some u) (ht : P.underlying t = some (.slice e)) (hi : (P.info? e).map (fun i => (i.size, i.bytes, i.zero)) = some (1, bytes, some z0)) (hzs : z0.cells.size = 1)
    (hE : E i = true) (hb : Nat.blt d n = true) (ho : OwnF h B e f v cs) (hs : SlF h f u news) (h1 : ∀ a, (f a).oneCell' = true) (hB : B ≤ h.size) (h63 : cs.length + news.length ≤ maxLen) (hby : (cs.length + news.length) * bytes ≤ 140737488355328)
    (k : ∀ v' h', OwnF h' B e f v' (cs ++ news) → Only v.ownBlock h h' → (v'.ownBlock = v.ownBlock ∨ ∃ b, v'.ownBlock = some b ∧ h.size ≤ b) → Ch h' ∧ S P n ops Ch E Q (i + 1) ((d, v') :: l) h') : O P n ops Ch E Q i d (.call ⟨.builtin .append, #[x, y], #[t, t]⟩) l h :=
  s_append hx hy ht hi hzs Nat.zero_lt_one hE hb ho hs (by simp) (by intro u hu; obtain ⟨a, -, rfl⟩ := List.mem_map.1 hu; exact h1 a) hB h63 hby fun v' h' g1 g2 g3 => k v' h' (by unfold OwnF; rw [List.length_append, List.map_append]; exact g1) g2 g3

end rules

section
variable {P : Program} {n : Nat} {Q : Post} {l : Fr} {h : Hp} {ops : List Oper} {Ch : Hp → Prop} {E : Nat → Bool} {i : Nat}
variable {d : Nat} {t : TypeId} {x y z : Operand} {yt : TypeId} {a b : Nat}

theorem s_moveNc {c : Nat} (hb : Nat.blt d n = true) (k : S P n ops Ch E Q (i + 1) ((d, N (OfNat.ofNat c : Nat)) :: l) h) : O P n ops Ch E Q i d (.move (.const (.int .i64 (OfNat.ofNat c : Int)))) l h := s_move rfl hb k
theorem s_assignNc {c : Nat} (hb : Nat.blt d n = true) (k : S P n ops Ch E Q (i + 1) ((d, N (OfNat.ofNat c : Nat)) :: l) h) : O P n ops Ch E Q i d (.assign (.const (.int .i64 (OfNat.ofNat c : Int)))) l h := s_assign rfl hb k
theorem s_addN (hx : IsK (ev l x) .i64 a) (hy : IsK (ev l y) .i64 b) (hb : Nat.blt d n = true) (hn : a + b < 9223372036854775808)
    (k : S P n ops Ch E Q (i + 1) ((d, N (a + b)) :: l) h) : O P n ops Ch E Q i d (.binOp .add t x y yt) l h :=
  s_bin hx.h hy.h hb (fun w' => by
    show Result.ok (Value.int .i64 (IntKind.i64.wrap ((a : Int) + b))) w' = _
    rw [← Int.natCast_add, wrapI_in _ (by omega)]) k
theorem s_subN (hx : IsK (ev l x) .i64 a) (hy : IsK (ev l y) .i64 b) (hb : Nat.blt d n = true) (hn : b ≤ a ∧ a < 9223372036854775808)
    (k : S P n ops Ch E Q (i + 1) ((d, N (a - b)) :: l) h) : O P n ops Ch E Q i d (.binOp .sub t x y yt) l h :=
  s_bin hx.h hy.h hb (fun w' => by
    show Result.ok (Value.int .i64 (IntKind.i64.wrap ((a : Int) - b))) w' = _
    rw [← Int.ofNat_sub hn.1, wrapI_in _ (by omega)]) k
theorem s_mulN (hx : IsK (ev l x) .i64 a) (hy : IsK (ev l y) .i64 b) (hb : Nat.blt d n = true) (hn : a * b < 9223372036854775808)
    (k : S P n ops Ch E Q (i + 1) ((d, N (a * b)) :: l) h) : O P n ops Ch E Q i d (.binOp .mul t x y yt) l h :=
  s_bin hx.h hy.h hb (fun w' => by
    show Result.ok (Value.int .i64 (IntKind.i64.wrap ((a : Int) * b))) w' = _
    rw [← Int.natCast_mul, wrapI_in _ (by omega)]) k
theorem s_quoN (hx : IsK (ev l x) .i64 a) (hy : IsK (ev l y) .i64 b) (hb : Nat.blt d n = true) (hn : 0 < b ∧ a < 9223372036854775808)
    (k : S P n ops Ch E Q (i + 1) ((d, N (a / b)) :: l) h) : O P n ops Ch E Q i d (.binOp .quo t x y yt) l h :=
  s_bin hx.h hy.h hb (fun w' => by
    show (Op.intDiv .quo .i64 (a : Int) (b : Int)).run P w' = _
    unfold Op.intDiv
    rw [if_neg (by omega)]
    show Result.ok (Value.int .i64 (IntKind.i64.wrap ((a : Int).tdiv b))) w' = _
    have := Nat.lt_of_le_of_lt (Nat.div_le_self a b) hn.2
    rw [← Int.ofNat_tdiv]
    generalize a / b = q at *
    rw [wrapI_in _ (by omega)]) k
theorem s_remN (hx : IsK (ev l x) .i64 a) (hy : IsK (ev l y) .i64 b) (hb : Nat.blt d n = true) (hn : 0 < b)
    (k : S P n ops Ch E Q (i + 1) ((d, N (a % b)) :: l) h) : O P n ops Ch E Q i d (.binOp .rem t x y yt) l h :=
  s_bin hx.h hy.h hb (fun w' => by
    show (Op.intDiv .rem .i64 (a : Int) (b : Int)).run P w' = _
    unfold Op.intDiv
    rw [if_neg (by omega)]
    show Result.ok (Value.int .i64 ((a : Int).tmod b)) w' = _
    rw [← Int.ofNat_tmod]) k
theorem s_shrN {yk : IntKind} {c : Nat} (hx : IsK (ev l x) .i64 a) (hy : IsK (ev l y) yk c) (hb : Nat.blt d n = true) (hn : c ≤ 64)
    (k : S P n ops Ch E Q (i + 1) ((d, N (a / 2 ^ c)) :: l) h) : O P n ops Ch E Q i d (.binOp .shr t x y yt) l h :=
  s_bin hx.h hy.h hb (fun w' => by
    show (Op.shift .shr .i64 (a : Int) yk (c : Int)).run P w' = _
    unfold Op.shift
    rw [if_neg (by omega)]
    show Result.ok (Value.int .i64 ((a : Int).fdiv (2 ^ (min (c : Int).toNat 64)))) w' = _
    rw [show min (c : Int).toNat 64 = c by omega, fdivN]) k
theorem s_shlN {yk : IntKind} {c : Nat} (hx : IsK (ev l x) .i64 a) (hy : IsK (ev l y) yk c) (hb : Nat.blt d n = true) (hn : c ≤ 64) (hm : a * 2 ^ c < 9223372036854775808)
    (k : S P n ops Ch E Q (i + 1) ((d, N (a * 2 ^ c)) :: l) h) : O P n ops Ch E Q i d (.binOp .shl t x y yt) l h :=
  s_bin hx.h hy.h hb (fun w' => by
    show (Op.shift .shl .i64 (a : Int) yk (c : Int)).run P w' = _
    unfold Op.shift
    rw [if_neg (by omega)]
    show Result.ok (Value.int .i64 (IntKind.i64.wrap ((a : Int) * 2 ^ (min (c : Int).toNat 64)))) w' = _
    rw [show min (c : Int).toNat 64 = c by omega, show ((a : Int) * 2 ^ c) = ((a * 2 ^ c : Nat) : Int) by simp, wrapI_in _ (by omega)]) k
theorem s_eqN (hx : IsK (ev l x) .i64 a) (hy : IsK (ev l y) .i64 b) (hb : Nat.blt d n = true)
    (k : S P n ops Ch E Q (i + 1) ((d, .bool (decide (a = b))) :: l) h) : O P n ops Ch E Q i d (.binOp .eql t x y yt) l h :=
  s_bin hx.h hy.h hb (fun w' => by
    show Result.ok (Value.bool ((a : Int) == (b : Int))) w' = _
    congr 2; rw [Bool.eq_iff_iff]; simp; omega) k
theorem s_neN (hx : IsK (ev l x) .i64 a) (hy : IsK (ev l y) .i64 b) (hb : Nat.blt d n = true)
    (k : S P n ops Ch E Q (i + 1) ((d, .bool (decide (a ≠ b))) :: l) h) : O P n ops Ch E Q i d (.binOp .neq t x y yt) l h :=
  s_bin hx.h hy.h hb (fun w' => by
    show Result.ok (Value.bool ((a : Int) != (b : Int))) w' = _
    congr 2; rw [Bool.eq_iff_iff]; simp; omega) k
theorem s_ltN (hx : IsK (ev l x) .i64 a) (hy : IsK (ev l y) .i64 b) (hb : Nat.blt d n = true)
    (k : S P n ops Ch E Q (i + 1) ((d, .bool (decide (a < b))) :: l) h) : O P n ops Ch E Q i d (.binOp .lss t x y yt) l h :=
  s_bin hx.h hy.h hb (fun w' => by
    show Result.ok (Value.bool (decide ((a : Int) < (b : Int)))) w' = _
    congr 2; rw [Bool.eq_iff_iff]; simp) k
theorem s_leN (hx : IsK (ev l x) .i64 a) (hy : IsK (ev l y) .i64 b) (hb : Nat.blt d n = true)
    (k : S P n ops Ch E Q (i + 1) ((d, .bool (decide (a ≤ b))) :: l) h) : O P n ops Ch E Q i d (.binOp .leq t x y yt) l h :=
  s_bin hx.h hy.h hb (fun w' => by
    show Result.ok (Value.bool (decide ((a : Int) ≤ (b : Int)))) w' = _
    congr 2; rw [Bool.eq_iff_iff]; simp) k
theorem s_gtN (hx : IsK (ev l x) .i64 a) (hy : IsK (ev l y) .i64 b) (hb : Nat.blt d n = true)
    (k : S P n ops Ch E Q (i + 1) ((d, .bool (decide (b < a))) :: l) h) : O P n ops Ch E Q i d (.binOp .gtr t x y yt) l h :=
  s_bin hx.h hy.h hb (fun w' => by
    show Result.ok (Value.bool (decide ((a : Int) > (b : Int)))) w' = _
    congr 2; rw [Bool.eq_iff_iff]; simp) k
theorem s_geN (hx : IsK (ev l x) .i64 a) (hy : IsK (ev l y) .i64 b) (hb : Nat.blt d n = true)
    (k : S P n ops Ch E Q (i + 1) ((d, .bool (decide (b ≤ a))) :: l) h) : O P n ops Ch E Q i d (.binOp .geq t x y yt) l h :=
  s_bin hx.h hy.h hb (fun w' => by
    show Result.ok (Value.bool (decide ((a : Int) ≥ (b : Int)))) w' = _
    congr 2; rw [Bool.eq_iff_iff]; simp) k
theorem s_convN {src dst : TypeId} {k0 : IntKind} {u : TypeDesc} (hx : IsK (ev l x) k0 a) (hs : P.underlying src = some u) (hd : P.underlying dst = some (.int .i64)) (hb : Nat.blt d n = true) (hn : a < 9223372036854775808)
    (k : S P n ops Ch E Q (i + 1) ((d, N a) :: l) h) : O P n ops Ch E Q i d (.convert src dst x) l h :=
  s_conv hx.h hs hd hb (by rw [wrapI_in _ (by omega)]; exact k)
theorem s_slice_hF {α : Type} {f : α → Value} {v : Value} {hi : Nat} {cs : List α} {e : TypeId} {kh : IntKind} {h0 : Hp} (hx : ev l x = some v) (hz : IsK (ev l z) kh hi) (ht : P.underlying t = some (.slice e)) (hsz : (P.info? e).map (·.size) = some 1)
    (hs : SlF h0 f v cs) (hb : Nat.blt d n = true) (h2 : hi ≤ cs.length) (k : S P n ops Ch E Q (i + 1) ((d, cutV 1 v 0 hi) :: l) h) : O P n ops Ch E Q i d (.slice t x none (some z) none) l h := s_slice_h hx hz ht hsz hs hb h2 k
theorem s_slice_lF {α : Type} {f : α → Value} {v : Value} {lo : Nat} {cs : List α} {e : TypeId} {kl : IntKind} {h0 : Hp} (hx : ev l x = some v) (hy : IsK (ev l y) kl lo) (ht : P.underlying t = some (.slice e)) (hsz : (P.info? e).map (·.size) = some 1)
    (hs : SlF h0 f v cs) (hb : Nat.blt d n = true) (h1 : lo ≤ cs.length) (k : S P n ops Ch E Q (i + 1) ((d, cutV 1 v lo cs.length) :: l) h) : O P n ops Ch E Q i d (.slice t x (some y) none none) l h := s_slice_l hx hy ht hsz hs hb h1 k
theorem s_slice_lhF {α : Type} {f : α → Value} {v : Value} {lo hi : Nat} {cs : List α} {e : TypeId} {kl kh : IntKind} {h0 : Hp} (hx : ev l x = some v) (hy : IsK (ev l y) kl lo) (hz : IsK (ev l z) kh hi) (ht : P.underlying t = some (.slice e)) (hsz : (P.info? e).map (·.size) = some 1)
    (hs : SlF h0 f v cs) (hb : Nat.blt d n = true) (h1 : lo ≤ hi) (h2 : hi ≤ cs.length) (k : S P n ops Ch E Q (i + 1) ((d, cutV 1 v lo hi) :: l) h) : O P n ops Ch E Q i d (.slice t x (some y) (some z) none) l h := s_slice_lh hx hy hz ht hsz hs hb h1 h2 k
theorem s_splitG {o : Oper} {j t : Nat} {want : Bool} {p : Prop} {dp : Decidable p} (ho : opAt ops i = some o) (hg : o.guard = some (j, want)) (hj : (ops[j]?).bind (·.dst) = some t) (e : look l t = some (.bool (decide p)))
    (ht : p → S P n ops Ch E Q i ((t, .bool true) :: l) h) (hf : ¬ p → S P n ops Ch E Q i ((t, .bool false) :: l) h) : S P n ops Ch E Q i l h := s_split t e ht hf
theorem s_litF {α : Type} {f : α → Value} {ln : Nat} {parts : Array (Nat × Operand)} {e : TypeId} {z0 : Value} {bytes : Nat} (xs : List α) (h1 : ∀ a, (f a).oneCell' = true) (he : evs l (parts.toList.map (·.2)) = some (xs.map f)) (hp : parts.toList.map (·.1) = List.range' 0 ln) (hl : xs.length = ln)
    (ht : P.underlying t = some (.slice e)) (hi : (P.info? e).map (fun i => (i.size, i.bytes, i.zero)) = some (1, bytes, some z0)) (hz1 : z0.oneCell' = true) (hE : E i = true) (hb : Nat.blt d n = true) (hln : ln ≤ 16777216)
    (k : ∀ v h', OwnF h' h.size e f v xs → Ext h h' → v.ownBlock = some h.size → Ch h' ∧ S P n ops Ch E Q (i + 1) ((d, v) :: l) h') : O P n ops Ch E Q i d (.buildSlice t ln parts) l h :=
  s_lit xs he hp (by simpa using hl) rfl ht hi (fun u hu => by obtain ⟨a, -, rfl⟩ := List.mem_map.1 hu; exact h1 a) hz1 hE hb hln k
theorem rd_onlyF {α : Type} {f : α → Value} {E : Nat → Bool} {i : Nat} {h h0 : Hp} {r : Option Nat} {v : Value} {cs : List α} (hp : SlF h0 f v cs) (hne : v.ownBlock = none ∨ v.ownBlock ≠ r) : Rd (Only r h0) E i h (fun h' => SlF h' f v cs) := ⟨.inr fun _ e => hp.only e hne⟩
theorem r_drawnO {c : Code} (r : Option Nat) (hc : tagOf c = .region true) (hm : P.follows .mixedOrders = true) (hok : regionOk (opsOf c) (effB (opsOf c)) = true)
    (k : S P n (opsOf c) (Only r h) (effB (opsOf c)) Q 0 l h) : W P n c Q l h := r_drawn (Only r h) (effB (opsOf c)) hc hm hok (Only.refl r h) k
theorem ext_size {h h' : Hp} (e : Ext h h') : h.size ≤ h'.size := e.1
theorem s_app1 {α : Type} {f : α → Value} {h0 : Hp} {xs : List α} {v : Value} {e : TypeId} (a : α) (own : OwnF h h0.size e f v xs) (ext : Ext h0 h) {d1 d2 bytes : Nat} {z0 : Value} {ty2 : TypeId} {ps2 : String} {af2 : Array Edge}
    (ho2 : opAt ops (i + 1) = some ⟨some d2, .call ⟨.builtin .append, #[x, .tmp d1], #[t, t]⟩, ty2, ps2, af2, none⟩)
    (hb1 : Nat.blt d1 n = true) (hb2 : Nat.blt d2 n = true) (hn : look l d1 = none) (ht : P.underlying t = some (.slice e)) (hi : (P.info? e).map (fun i => (i.size, i.bytes, i.zero)) = some (1, bytes, some z0)) (hz1 : z0.oneCell' = true)
    (hx : ev ((d1, undef) :: l) x = some v) (hx' : ev l x = some v) (hz : ev l z = some (f a)) (h1 : ∀ a, (f a).oneCell' = true) (hE1 : E i = true) (hE2 : E (i + 1) = true) (hC : ∀ h', Ext h0 h' → Ch h')
    (hby : (xs.length + 1) * bytes ≤ 140737488355328) (h63 : xs.length + 1 ≤ maxLen)
    (k : ∀ v' h', OwnF h' h0.size e f v' (xs ++ [a]) → Ext h0 h' → Only v.ownBlock h h' → (v'.ownBlock = v.ownBlock ∨ ∃ b, v'.ownBlock = some b ∧ h.size ≤ b) → S P n ops Ch E Q (i + 2) ((d2, v') :: l) h') : O P n ops Ch E Q i d1 (.buildSlice t 1 #[(0, z)]) l h := by
  refine (s_lit [a] (vs := [f a]) (by simp only [List.map_cons, List.map_nil, evs, hz]) rfl rfl rfl ht hi (by simpa using h1 a) hz1 hE1 hb1 (by omega) fun u ha o1 e1 _ => ⟨hC _ (ext.trans e1), ?_⟩)
  have hxu : ev ((d1, u) :: l) x = some v := by
    cases x with
    | tmp t =>
      simp only [ev, look] at hx hx' ⊢
      cases ht : Nat.beq t d1 with
      | true => have := Nat.eq_of_beq_eq_true ht; subst this; rw [hn] at hx'; cases hx'
      | false => exact hx'
    | const c => exact hx'
    | global c => exact hx'
    | func c => exact hx'
  have hsz := ext_size e1
  have hsz0 := ext_size ext
  refine s_op ho2 rfl (s_appendF hxu (show ev ((d1, u) :: l) (.tmp d1) = some u by simp only [ev, look, Nat.beq_refl, cond_true]) ht hi (by cases z0 <;> first | rfl | cases hz1) hE2 hb2 (own.ext e1) o1.sl h1 (by omega) h63 hby fun v' h' o2 k2 b2 => ?_)
  have ext2 : Ext h0 h' := (own.ext e1).old k2 (ext.trans e1) (Nat.le_refl _)
  refine ⟨hC _ ext2, s_sub (l' := (d2, v') :: l) ?_ (k v' h' o2 ext2 ((e1.only _).trans k2) ?_)⟩
  · intro j w hw
    simp only [look] at hw ⊢
    cases hj : Nat.beq j d2 with
    | true => rw [hj] at hw; exact hw
    | false =>
      rw [hj] at hw
      simp only [cond_false] at hw ⊢
      cases hj1 : Nat.beq j d1 with
      | true => have := Nat.eq_of_beq_eq_true hj1; subst this; rw [hn] at hw; cases hw
      | false => exact hw
  · rcases b2 with b2 | ⟨b, hb, hlt⟩
    · exact .inl b2
    · exact .inr ⟨b, hb, by omega⟩
end

section
variable {P : Program} {n : Nat} {Q : Post} {l : Fr} {h : Hp}
theorem w_mono {Q' : Post} {c : Code} (k : W P n c Q l h) (hq : ∀ e l h, Q e l h → Q' e l h) : W P n c Q' l h :=
  W.mk fun a w hf hw => wp_mono (k.run a w hf hw) fun e a' w' hk => lift_mono (Oth.refl w) hq hk
theorem w_tcut {σ : Type} {c y : Code} (F : σ → Fr) (D : σ → Hp → Prop) (k : W P n c (Cut F D Q) l h) (k2 : ∀ s h', D s h' → W P n y Q (F s) h') : W P n c (Then P n y Q) l h :=
  w_mono k fun e l' h' hq => by
    cases e with
    | normal => obtain ⟨s, g1, g2⟩ := hq; exact w_sub g1 (k2 s h' g2)
    | exit id => exact hq
    | goto l => exact hq
    | ret => exact hq
    | panic c => exact hq
    | outgrown => exact hq
end

theorem runM {R G : Prop} (r : R) (k : Res R → G := by intro r; (repeat (first | (apply s_moveNc; exact rfl) | (apply s_assignNc; exact rfl) | (apply s_moveUc; exact rfl) | (apply s_move; exact rfl; exact rfl) | (apply s_assignUc; exact rfl) | (apply s_assign; exact rfl; exact rfl) | (apply s_extract; exact rfl; exact rfl; exact rfl) | (apply s_pickT; exact rfl; exact rfl; exact rfl) | (apply s_pickF; exact rfl; exact rfl; exact rfl) | (apply s_not; exact rfl; exact rfl) | (apply s_lenF; exact rfl; exact rfl; (first | assumption | exact OwnF.sl (by assumption)); exact rfl) | (apply s_indexF; exact rfl; (first | exact isK_c | exact isK_t rfl); exact rfl; exact rfl; (first | assumption | exact OwnF.sl (by assumption)); exact rfl; (first | assumption | omega)) | (apply s_loadF 0; exact rfl; exact rfl; (first | exact rd_plain (by assumption) | exact rd_extF (by assumption) | exact rd_plain (OwnF.sl (by assumption)) | exact rd_extF (OwnF.sl (by assumption)) | exact rd_onlyF (by assumption) (by assumption)); exact rfl; (first | assumption | omega)) | (apply s_loadF undef; exact rfl; exact rfl; (first | exact rd_plain (by assumption) | exact rd_extF (by assumption) | exact rd_plain (OwnF.sl (by assumption)) | exact rd_extF (OwnF.sl (by assumption)) | exact rd_onlyF (by assumption) (by assumption)); exact rfl; (first | assumption | omega)) | (apply s_loadF (undef, []); exact rfl; exact rfl; (first | exact rd_plain (by assumption) | exact rd_extF (by assumption) | exact rd_plain (OwnF.sl (by assumption)) | exact rd_extF (OwnF.sl (by assumption)) | exact rd_onlyF (by assumption) (by assumption)); exact rfl; (first | assumption | omega)) | (apply s_slice_hF; exact rfl; (first | exact isK_c | exact isK_t rfl); exact rfl; exact rfl; (first | assumption | exact OwnF.sl (by assumption)); exact rfl; (first | assumption | omega)) | (apply s_slice_lF; exact rfl; (first | exact isK_c | exact isK_t rfl); exact rfl; exact rfl; (first | assumption | exact OwnF.sl (by assumption)); exact rfl; (first | assumption | omega)) | (apply s_slice_lhF; exact rfl; (first | exact isK_c | exact isK_t rfl); (first | exact isK_c | exact isK_t rfl); exact rfl; exact rfl; (first | assumption | exact OwnF.sl (by assumption)); exact rfl; (first | assumption | omega); (first | assumption | omega)) | (apply s_eqU; (first | exact isK_c | exact isK_t rfl); (first | exact isK_c | exact isK_t rfl); exact rfl) | (apply s_neU; (first | exact isK_c | exact isK_t rfl); (first | exact isK_c | exact isK_t rfl); exact rfl) | (apply s_ltU; (first | exact isK_c | exact isK_t rfl); (first | exact isK_c | exact isK_t rfl); exact rfl) | (apply s_leU; (first | exact isK_c | exact isK_t rfl); (first | exact isK_c | exact isK_t rfl); exact rfl) | (apply s_gtU; (first | exact isK_c | exact isK_t rfl); (first | exact isK_c | exact isK_t rfl); exact rfl) | (apply s_geU; (first | exact isK_c | exact isK_t rfl); (first | exact isK_c | exact isK_t rfl); exact rfl) | (apply s_eqN; (first | exact isK_c | exact isK_t rfl); (first | exact isK_c | exact isK_t rfl); exact rfl) | (apply s_neN; (first | exact isK_c | exact isK_t rfl); (first | exact isK_c | exact isK_t rfl); exact rfl) | (apply s_ltN; (first | exact isK_c | exact isK_t rfl); (first | exact isK_c | exact isK_t rfl); exact rfl) | (apply s_leN; (first | exact isK_c | exact isK_t rfl); (first | exact isK_c | exact isK_t rfl); exact rfl) | (apply s_gtN; (first | exact isK_c | exact isK_t rfl); (first | exact isK_c | exact isK_t rfl); exact rfl) | (apply s_geN; (first | exact isK_c | exact isK_t rfl); (first | exact isK_c | exact isK_t rfl); exact rfl) | (apply s_eqI; exact rfl; exact rfl; exact rfl) | (apply s_neI; exact rfl; exact rfl; exact rfl) | (apply s_ltI; exact rfl; exact rfl; exact rfl) | (apply s_leI; exact rfl; exact rfl; exact rfl) | (apply s_gtI; exact rfl; exact rfl; exact rfl) | (apply s_geI; exact rfl; exact rfl; exact rfl) | (apply s_addN; (first | exact isK_c | exact isK_t rfl); (first | exact isK_c | exact isK_t rfl); exact rfl; (first | assumption | omega)) | (apply s_subN; (first | exact isK_c | exact isK_t rfl); (first | exact isK_c | exact isK_t rfl); exact rfl; (first | assumption | omega)) | (apply s_mulN; (first | exact isK_c | exact isK_t rfl); (first | exact isK_c | exact isK_t rfl); exact rfl; (first | assumption | omega)) | (apply s_addI; exact rfl; exact rfl; exact rfl; (first | assumption | omega)) | (apply s_subI; exact rfl; exact rfl; exact rfl; (first | assumption | omega)) | (apply s_addU; (first | exact isK_c | exact isK_t rfl); (first | exact isK_c | exact isK_t rfl); exact rfl; (first | assumption | omega)) | (apply s_subU; (first | exact isK_c | exact isK_t rfl); (first | exact isK_c | exact isK_t rfl); exact rfl; (first | assumption | omega)) | (apply s_remU; (first | exact isK_c | exact isK_t rfl); (first | exact isK_c | exact isK_t rfl); exact rfl; (first | assumption | omega)) | (apply s_quoU; (first | exact isK_c | exact isK_t rfl); (first | exact isK_c | exact isK_t rfl); exact rfl; (first | assumption | omega)) | (apply s_mulU; (first | exact isK_c | exact isK_t rfl); (first | exact isK_c | exact isK_t rfl); exact rfl; (first | assumption | omega)) | (apply s_shlU'; (first | exact isK_c | exact isK_t rfl); (first | exact isK_c | exact isK_t rfl); exact rfl; (first | assumption | omega); (first | assumption | omega)) | (apply s_shlU; (first | exact isK_c | exact isK_t rfl); (first | exact isK_c | exact isK_t rfl); exact rfl; (first | assumption | omega)) | (apply s_shrU; (first | exact isK_c | exact isK_t rfl); (first | exact isK_c | exact isK_t rfl); exact rfl; (first | assumption | omega)) | (apply s_andU; (first | exact isK_c | exact isK_t rfl); (first | exact isK_c | exact isK_t rfl); exact rfl; (first | assumption | omega)) | (apply s_orU; (first | exact isK_c | exact isK_t rfl); (first | exact isK_c | exact isK_t rfl); exact rfl; (first | assumption | omega)) | (apply s_xorU; (first | exact isK_c | exact isK_t rfl); (first | exact isK_c | exact isK_t rfl); exact rfl; (first | assumption | omega)) | (apply s_negI; exact rfl; exact rfl; (first | assumption | omega)) | (apply s_negU; (first | exact isK_c | exact isK_t rfl); exact rfl; (first | assumption | omega)) | (apply s_convU; (first | exact isK_c | exact isK_t rfl); exact rfl; exact rfl; exact rfl; (first | assumption | omega)) | (apply s_convI; exact rfl; exact rfl; exact rfl; exact rfl; (first | assumption | omega)) | (apply s_quoN; (first | exact isK_c | exact isK_t rfl); (first | exact isK_c | exact isK_t rfl); exact rfl; (first | assumption | omega)) | (apply s_remN; (first | exact isK_c | exact isK_t rfl); (first | exact isK_c | exact isK_t rfl); exact rfl; (first | assumption | omega)) | (apply s_shrN; (first | exact isK_c | exact isK_t rfl); (first | exact isK_c | exact isK_t rfl); exact rfl; (first | assumption | omega)) | (apply s_convN; (first | exact isK_c | exact isK_t rfl); exact rfl; exact rfl; exact rfl; (first | assumption | omega)) | (apply s_op; exact rfl; exact rfl) | (apply s_skip; exact rfl; exact rfl; exact rfl) | (apply s_nil; exact rfl) | (apply s_op0; exact rfl; exact rfl) | apply then_normal | apply then_ret | apply then_exit | apply inb_normal | apply inb_ret | apply inb_here | (apply inb_past; exact rfl) | apply again_exit | apply again_ret | apply cut_exit | apply cut_ret | (apply w_seq; exact rfl) | (apply r_plain; exact rfl) | (apply w_block; exact rfl) | (apply w_ret; exact rfl) | (apply w_cond_true; exact rfl; exact rfl) | (apply w_cond_false; exact rfl; exact rfl) | (apply w_exit; exact rfl) | (apply w_skip; exact rfl) | (apply w_label; exact rfl) | (apply r_drawnX; exact rfl; exact mixed; kernel_rfl))); exact r.get) : G := k ⟨r⟩
theorem runMN {R G : Prop} (r : R) (k : Res R → G := by intro r; (repeat (first | (apply s_moveNc; exact rfl) | (apply s_assignNc; exact rfl) | (apply s_moveUc; exact rfl) | (apply s_move; exact rfl; exact rfl) | (apply s_assignUc; exact rfl) | (apply s_assign; exact rfl; exact rfl) | (apply s_extract; exact rfl; exact rfl; exact rfl) | (apply s_pickT; exact rfl; exact rfl; exact rfl) | (apply s_pickF; exact rfl; exact rfl; exact rfl) | (apply s_not; exact rfl; exact rfl) | (apply s_lenF; exact rfl; exact rfl; (first | assumption | exact OwnF.sl (by assumption)); exact rfl) | (apply s_indexF; exact rfl; (first | exact isK_c | exact isK_t rfl); exact rfl; exact rfl; (first | assumption | exact OwnF.sl (by assumption)); exact rfl; (first | assumption | omega)) | (apply s_loadF 0; exact rfl; exact rfl; (first | exact rd_plain (by assumption) | exact rd_extF (by assumption) | exact rd_plain (OwnF.sl (by assumption)) | exact rd_extF (OwnF.sl (by assumption)) | exact rd_onlyF (by assumption) (by assumption)); exact rfl; (first | assumption | omega)) | (apply s_loadF undef; exact rfl; exact rfl; (first | exact rd_plain (by assumption) | exact rd_extF (by assumption) | exact rd_plain (OwnF.sl (by assumption)) | exact rd_extF (OwnF.sl (by assumption)) | exact rd_onlyF (by assumption) (by assumption)); exact rfl; (first | assumption | omega)) | (apply s_loadF (undef, []); exact rfl; exact rfl; (first | exact rd_plain (by assumption) | exact rd_extF (by assumption) | exact rd_plain (OwnF.sl (by assumption)) | exact rd_extF (OwnF.sl (by assumption)) | exact rd_onlyF (by assumption) (by assumption)); exact rfl; (first | assumption | omega)) | (apply s_slice_hF; exact rfl; (first | exact isK_c | exact isK_t rfl); exact rfl; exact rfl; (first | assumption | exact OwnF.sl (by assumption)); exact rfl; (first | assumption | omega)) | (apply s_slice_lF; exact rfl; (first | exact isK_c | exact isK_t rfl); exact rfl; exact rfl; (first | assumption | exact OwnF.sl (by assumption)); exact rfl; (first | assumption | omega)) | (apply s_slice_lhF; exact rfl; (first | exact isK_c | exact isK_t rfl); (first | exact isK_c | exact isK_t rfl); exact rfl; exact rfl; (first | assumption | exact OwnF.sl (by assumption)); exact rfl; (first | assumption | omega); (first | assumption | omega)) | (apply s_eqU; (first | exact isK_c | exact isK_t rfl); (first | exact isK_c | exact isK_t rfl); exact rfl) | (apply s_neU; (first | exact isK_c | exact isK_t rfl); (first | exact isK_c | exact isK_t rfl); exact rfl) | (apply s_ltU; (first | exact isK_c | exact isK_t rfl); (first | exact isK_c | exact isK_t rfl); exact rfl) | (apply s_leU; (first | exact isK_c | exact isK_t rfl); (first | exact isK_c | exact isK_t rfl); exact rfl) | (apply s_gtU; (first | exact isK_c | exact isK_t rfl); (first | exact isK_c | exact isK_t rfl); exact rfl) | (apply s_geU; (first | exact isK_c | exact isK_t rfl); (first | exact isK_c | exact isK_t rfl); exact rfl) | (apply s_eqN; (first | exact isK_c | exact isK_t rfl); (first | exact isK_c | exact isK_t rfl); exact rfl) | (apply s_neN; (first | exact isK_c | exact isK_t rfl); (first | exact isK_c | exact isK_t rfl); exact rfl) | (apply s_ltN; (first | exact isK_c | exact isK_t rfl); (first | exact isK_c | exact isK_t rfl); exact rfl) | (apply s_leN; (first | exact isK_c | exact isK_t rfl); (first | exact isK_c | exact isK_t rfl); exact rfl) | (apply s_gtN; (first | exact isK_c | exact isK_t rfl); (first | exact isK_c | exact isK_t rfl); exact rfl) | (apply s_geN; (first | exact isK_c | exact isK_t rfl); (first | exact isK_c | exact isK_t rfl); exact rfl) | (apply s_eqI; exact rfl; exact rfl; exact rfl) | (apply s_neI; exact rfl; exact rfl; exact rfl) | (apply s_ltI; exact rfl; exact rfl; exact rfl) | (apply s_leI; exact rfl; exact rfl; exact rfl) | (apply s_gtI; exact rfl; exact rfl; exact rfl) | (apply s_geI; exact rfl; exact rfl; exact rfl) | (apply s_addN; (first | exact isK_c | exact isK_t rfl); (first | exact isK_c | exact isK_t rfl); exact rfl; (first | assumption | omega)) | (apply s_subN; (first | exact isK_c | exact isK_t rfl); (first | exact isK_c | exact isK_t rfl); exact rfl; (first | assumption | omega)) | (apply s_mulN; (first | exact isK_c | exact isK_t rfl); (first | exact isK_c | exact isK_t rfl); exact rfl; (first | assumption | omega)) | (apply s_addI; exact rfl; exact rfl; exact rfl; (first | assumption | omega)) | (apply s_subI; exact rfl; exact rfl; exact rfl; (first | assumption | omega)) | (apply s_addU; (first | exact isK_c | exact isK_t rfl); (first | exact isK_c | exact isK_t rfl); exact rfl; (first | assumption | omega)) | (apply s_subU; (first | exact isK_c | exact isK_t rfl); (first | exact isK_c | exact isK_t rfl); exact rfl; (first | assumption | omega)) | (apply s_remU; (first | exact isK_c | exact isK_t rfl); (first | exact isK_c | exact isK_t rfl); exact rfl; (first | assumption | omega)) | (apply s_quoU; (first | exact isK_c | exact isK_t rfl); (first | exact isK_c | exact isK_t rfl); exact rfl; (first | assumption | omega)) | (apply s_mulU; (first | exact isK_c | exact isK_t rfl); (first | exact isK_c | exact isK_t rfl); exact rfl; (first | assumption | omega)) | (apply s_shlU'; (first | exact isK_c | exact isK_t rfl); (first | exact isK_c | exact isK_t rfl); exact rfl; (first | assumption | omega); (first | assumption | omega)) | (apply s_shlU; (first | exact isK_c | exact isK_t rfl); (first | exact isK_c | exact isK_t rfl); exact rfl; (first | assumption | omega)) | (apply s_shrU; (first | exact isK_c | exact isK_t rfl); (first | exact isK_c | exact isK_t rfl); exact rfl; (first | assumption | omega)) | (apply s_andU; (first | exact isK_c | exact isK_t rfl); (first | exact isK_c | exact isK_t rfl); exact rfl; (first | assumption | omega)) | (apply s_orU; (first | exact isK_c | exact isK_t rfl); (first | exact isK_c | exact isK_t rfl); exact rfl; (first | assumption | omega)) | (apply s_xorU; (first | exact isK_c | exact isK_t rfl); (first | exact isK_c | exact isK_t rfl); exact rfl; (first | assumption | omega)) | (apply s_negI; exact rfl; exact rfl; (first | assumption | omega)) | (apply s_negU; (first | exact isK_c | exact isK_t rfl); exact rfl; (first | assumption | omega)) | (apply s_convU; (first | exact isK_c | exact isK_t rfl); exact rfl; exact rfl; exact rfl; (first | assumption | omega)) | (apply s_convI; exact rfl; exact rfl; exact rfl; exact rfl; (first | assumption | omega)) | (apply s_quoN; (first | exact isK_c | exact isK_t rfl); (first | exact isK_c | exact isK_t rfl); exact rfl; (first | assumption | omega)) | (apply s_remN; (first | exact isK_c | exact isK_t rfl); (first | exact isK_c | exact isK_t rfl); exact rfl; (first | assumption | omega)) | (apply s_shrN; (first | exact isK_c | exact isK_t rfl); (first | exact isK_c | exact isK_t rfl); exact rfl; (first | assumption | omega)) | (apply s_convN; (first | exact isK_c | exact isK_t rfl); exact rfl; exact rfl; exact rfl; (first | assumption | omega)) | (apply s_op; exact rfl; exact rfl) | (apply s_skip; exact rfl; exact rfl; exact rfl) | (apply s_nil; exact rfl) | (apply s_op0; exact rfl; exact rfl) | apply then_normal | apply then_ret | apply then_exit | apply inb_normal | apply inb_ret | apply inb_here | (apply inb_past; exact rfl) | apply again_exit | apply again_ret | apply cut_exit | apply cut_ret | (apply w_seq; exact rfl) | (apply r_plain; exact rfl) | (apply w_block; exact rfl) | (apply w_ret; exact rfl) | (apply w_cond_true; exact rfl; exact rfl) | (apply w_cond_false; exact rfl; exact rfl) | (apply w_exit; exact rfl) | (apply w_skip; exact rfl) | (apply w_label; exact rfl))); exact r.get) : G := k ⟨r⟩
end Go.Den

