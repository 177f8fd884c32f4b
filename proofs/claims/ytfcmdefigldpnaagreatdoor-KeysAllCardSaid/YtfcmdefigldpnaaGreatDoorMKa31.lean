/- Texts KeyH to KeyD of this work, joined, without what the law does not lean on. -/
import Derived.Test.YtfcmdefigldpnaaGreatDoorMKa30
namespace Go.Den
set_option linter.unusedVariables false
set_option maxRecDepth 8000
open Go Go.RowKit
section rules
variable {P : Program} {n : Nat} {Q : Post} {l : Fr} {h : Hp} {ops : List Oper} {Ch : Hp → Prop} {E : Nat → Bool} {i d : Nat} {x y : Operand} {ts : Array TypeId}
theorem s_maxI {a b : Int} (hx : ev l x = some (I a)) (hy : ev l y = some (I b)) (hb : Nat.blt d n = true)
    (k : S P n ops Ch E Q (i + 1) ((d, I (max a b)) :: l) h) : O P n ops Ch E Q i d (.call ⟨.builtin .max, #[x, y], ts⟩) l h :=
  s_pure hb (fun A w' hf => by
    have e : (if b > a then b else a) = max a b := by
      split <;> omega
    simp [execOp, resolve, invoke, builtin, hf.ev hx, hf.ev hy, Builtin.max_, Builtin.max2, e]) k
theorem s_remU16 {a b : Nat} {t yt : TypeId} (hx : IsK (ev l x) .u16 a) (hy : IsK (ev l y) .u16 b) (hb : Nat.blt d n = true) (hn : 0 < b)
    (q : S P n ops Ch E Q (i + 1) ((d, .int .u16 ((a % b : Nat) : Int)) :: l) h) : O P n ops Ch E Q i d (.binOp .rem t x y yt) l h :=
  s_bin hx.h hy.h hb (fun w' => by
    show (Op.intDiv .rem .u16 (a : Int) (b : Int)).run P w' = _
    unfold Op.intDiv
    rw [if_neg (by omega)]
    show Result.ok (Value.int .u16 ((a : Int).tmod b)) w' = _
    rw [← Int.ofNat_tmod]) q
end rules
end Go.Den
namespace Go.Proofs.YtfcmdefigldpnaaGreatDoor
set_option linter.unusedVariables false
open Go Go.Den Go.RowKit Go.Mth Go.Dig

/-- All rows so long. -/
def RowsLe (m n : Nat) (A : List (List (List Nat))) : Prop := ∀ p ∈ A, p.length ≤ m ∧ ∀ l ∈ p, l.length ≤ n
theorem hideG_rows {n w : Nat} {qs ds : List Nat} {ae : List (List Nat) × List Int} {ds' : List Nat} (hq : ∀ q ∈ qs, 0 < q) (h : hideG n w qs ds = some (ae, ds')) : ae.1.length = qs.length ∧ ∀ l ∈ ae.1, l.length = n := by
  unfold hideG at h
  cases hU : uniG n qs ds with
  | none => rw [hU] at h; cases h
  | some u =>
    obtain ⟨a, d1⟩ := u
    rw [hU] at h
    dsimp only at h
    cases hE : rowG (firstE w) n d1 with
    | none => rw [hE] at h; cases h
    | some v =>
      obtain ⟨e, d2⟩ := v
      rw [hE] at h
      cases h
      obtain ⟨a1, a2⟩ := uniG_all9 qs ds a d1 hq hU
      refine ⟨a1, fun l hl => ?_⟩
      obtain ⟨i, hi⟩ := List.mem_iff_getElem?.1 hl
      have hil := (List.getElem?_eq_some_iff.1 hi).1
      obtain ⟨q, hq'⟩ := get_lt (l := qs) (j := i) (by dsimp only at hil; omega)
      exact (a2 i q l hi hq').1
theorem swG_rows {n w : Nat} {qs : List Nat} (hq : ∀ q ∈ qs, 0 < q) : ∀ (k : Nat) (ds : List Nat) (xs : List (List (List Nat) × List Int)) (ds' : List Nat), swG n w qs k ds = some (xs, ds') → RowsLe qs.length n (xs.map (·.1))
  | 0, ds, xs, ds', h => by
    simp only [swG, Option.some.injEq, Prod.mk.injEq] at h
    obtain ⟨rfl, -⟩ := h
    exact fun x hx => by cases hx
  | k + 1, ds, xs, ds', h => by
    simp only [swG] at h
    cases h1 : hideG n w qs ds with
    | none => rw [h1] at h; cases h
    | some y =>
      obtain ⟨x, ds1⟩ := y
      rw [h1] at h
      dsimp only at h
      cases h2 : swG n w qs k ds1 with
      | none => rw [h2] at h; cases h
      | some y2 =>
        obtain ⟨xs2, ds2⟩ := y2
        rw [h2] at h
        simp only [Option.some.injEq, Prod.mk.injEq] at h
        obtain ⟨rfl, rfl⟩ := h
        have i1 := swG_rows hq k ds1 xs2 ds2 h2
        intro p hp
        rw [List.map_cons] at hp
        rcases List.mem_cons.1 hp with rfl | hp
        · obtain ⟨a1, a2⟩ := hideG_rows hq h1
          exact ⟨Nat.le_of_eq a1, fun l hl => Nat.le_of_eq (a2 l hl)⟩
        · exact i1 p hp
theorem allsG_rows {n w : Nat} {qs : List Nat} (hq : ∀ q ∈ qs, 0 < q) : ∀ (k : Nat) (ds : List Nat) (xss : List (List (List (List Nat) × List Int))) (ds' : List Nat), allsG n w qs k ds = some (xss, ds') → ∀ xs ∈ xss, RowsLe qs.length n (xs.map (·.1))
  | 0, ds, xss, ds', h => by
    simp only [allsG, Option.some.injEq, Prod.mk.injEq] at h
    obtain ⟨rfl, -⟩ := h
    exact fun x hx => by cases hx
  | k + 1, ds, xss, ds', h => by
    simp only [allsG] at h
    cases h1 : swG n w qs qs.length ds with
    | none => rw [h1] at h; cases h
    | some y =>
      obtain ⟨x, ds1⟩ := y
      rw [h1] at h
      dsimp only at h
      cases h2 : allsG n w qs k ds1 with
      | none => rw [h2] at h; cases h
      | some y2 =>
        obtain ⟨xs2, ds2⟩ := y2
        rw [h2] at h
        simp only [Option.some.injEq, Prod.mk.injEq] at h
        obtain ⟨rfl, rfl⟩ := h
        have i1 := allsG_rows hq k ds1 xs2 ds2 h2
        intro p hp
        rcases List.mem_cons.1 hp with rfl | hp
        · exact swG_rows hq _ _ _ _ h1
        · exact i1 p hp
theorem swR_rows {n : Nat} {qs : List Nat} {S H : List (List Nat)} {xs : List (List (List Nat) × List Int)} {B A : List (List (List Nat))} (hS : S.length = qs.length) (hH : H.length = qs.length) (hx : ∀ x ∈ xs, x.1.length = qs.length) (lx : xs.length = qs.length) (h : SwR n qs S H xs B A) (hr : RowsLe qs.length n (xs.map (·.1))) : RowsLe qs.length n B ∧ RowsLe qs.length n A ∧ B.length = qs.length ∧ A.length = qs.length := by
  obtain ⟨rfl, l, h⟩ := h
  refine ⟨fun p hp => ?_, hr, l, by rw [List.length_map]; exact lx⟩
  obtain ⟨i, hi⟩ := List.mem_iff_getElem?.1 hp
  have hil := (List.getElem?_eq_some_iff.1 hi).1
  obtain ⟨ae, hae⟩ := get_lt (l := xs) (j := i) (by omega)
  obtain ⟨lp, hp2⟩ := h i ae p hae hi
  refine ⟨Nat.le_of_eq lp, fun bk hbk => ?_⟩
  obtain ⟨k, hk⟩ := List.mem_iff_getElem?.1 hbk
  have hkl := (List.getElem?_eq_some_iff.1 hk).1
  obtain ⟨q, hq⟩ := get_lt (l := qs) (j := k) (by omega)
  obtain ⟨s, hs⟩ := get_lt (l := S) (j := k) (by omega)
  obtain ⟨hr', hhr⟩ := get_lt (l := H) (j := k) (by omega)
  obtain ⟨ai, hai⟩ := get_lt (l := ae.1) (j := k) (by have := hx ae (List.mem_of_getElem? hae); omega)
  obtain ⟨zs, hz, rfl⟩ := hp2 k q s hr' ai bk hq hs hhr hai hk
  unfold subL addL
  rw [List.length_zipWith, List.length_zipWith, hz.1.1]
  omega
/-- The rows of all keys. -/
theorem keysR_rows {n : Nat} {qs : List Nat} {S : List (List Nat)} {ks : List Int} {xss : List (List (List (List Nat) × List Int))} {B A : List (List (List Nat))} {t : List (Int × List (List (List Nat)) × List (List (List Nat)))} (hS : S.length = qs.length) (lx : xss.length = ks.length + 1) (hx : ∀ xs ∈ xss, xs.length = qs.length ∧ ∀ x ∈ xs, x.1.length = qs.length) (hr : ∀ xs ∈ xss, RowsLe qs.length n (xs.map (·.1))) (h : KeysR n qs S ks xss B A t) :
    (RowsLe qs.length n B ∧ RowsLe qs.length n A ∧ B.length = qs.length ∧ A.length = qs.length) ∧ ∀ x ∈ t, RowsLe qs.length n x.2.1 ∧ RowsLe qs.length n x.2.2 ∧ x.2.1.length = qs.length ∧ x.2.2.length = qs.length := by
  obtain ⟨⟨H, x0, q0, e0, r0⟩, m, g⟩ := h
  have h0 := hx x0 (List.mem_of_getElem? e0)
  refine ⟨swR_rows hS q0.1 h0.2 h0.1 r0 (hr x0 (List.mem_of_getElem? e0)), fun x hxm => ?_⟩
  obtain ⟨j, hj⟩ := List.mem_iff_getElem?.1 hxm
  have hjl := (List.getElem?_eq_some_iff.1 hj).1
  have lt : t.length = ks.length := by rw [← m, List.length_map]
  obtain ⟨xs, hxs⟩ := get_lt (l := xss) (j := j + 1) (by omega)
  obtain ⟨G, a, b⟩ := g j x xs hj hxs
  have h1 := hx xs (List.mem_of_getElem? hxs)
  exact swR_rows hS a.1 h1.2 h1.1 b (hr xs (List.mem_of_getElem? hxs))
end Go.Proofs.YtfcmdefigldpnaaGreatDoor


namespace Go.Proofs.YtfcmdefigldpnaaGreatDoor
set_option linter.unusedVariables false
set_option maxRecDepth 8000
open Go Go.Den Go.RowKit Go.Dig

/-- What the draws are like. -/
def DrawsOk (ds : List Nat) : Prop := Al 18446744073709551616 ds ∧ ∀ i d, ds[i]? = some d → i % 2 = 1 → d < 9223372036854775808 ∧ d % 4 ≠ 3
theorem DrawsOk.snoc {ds : List Nat} {d : Nat} (h : DrawsOk ds) (h1 : d < 18446744073709551616) (h2 : ds.length % 2 = 1 → d < 9223372036854775808 ∧ d % 4 ≠ 3) : DrawsOk (ds ++ [d]) := by
  refine ⟨fun x hx => ?_, fun i x hi ho => ?_⟩
  · rcases List.mem_append.1 hx with hx | hx
    · exact h.1 x hx
    · rw [List.mem_singleton.1 hx]; exact h1
  · by_cases hl : i < ds.length
    · rw [List.getElem?_append_left hl] at hi
      exact h.2 i x hi ho
    · rw [List.getElem?_append_right (by omega)] at hi
      have : i - ds.length = 0 := by
        rcases Nat.lt_or_ge (i - ds.length) 1 with h | h
        · omega
        · rw [List.getElem?_eq_none (by simpa using h)] at hi; cases hi
      rw [this] at hi
      cases hi
      exact h2 (by rw [show ds.length = i by omega]; exact ho)

theorem Tryz_ent8 : Ent Tryz.prog 8 := ent_of Tryz.func8 (by kernel_rfl) rfl
set_option maxHeartbeats 2000000 in
theorem draws_spec (vs : Value) (xs : List Nat) (n : Nat) (h : Hp) (s : SlF h U vs xs) (al : Al 18446744073709551616 xs) (hl : xs.length < 4611686018427387904) (hn : n ≤ 1000000) :
    CallsH Tryz.prog 8 [vs, N n] h fun v' h' => Ext h h' ∧ ∃ ds, OwnF h' h.size 26 U v' ds ∧ ds.length = n ∧ DrawsOk ds := by
  have e64 : (2 : Nat) ^ 64 = 18446744073709551616 := by decide
  have xlt : ∀ a b : Nat, a < 18446744073709551616 → b < 18446744073709551616 → a ^^^ b < 18446744073709551616 := fun a b ha hb => by
    rw [← e64] at *
    exact Nat.xor_lt_two_pow ha hb
  (apply enter Tryz.func8 rfl Tryz.ntmps8 rfl)
  refine runJ ?_
  (first | (apply w_seqB; exact rfl; apply w_block; exact rfl) | skip)
  apply (w_loop (σ := Nat × Nat × Value × List Nat) rfl (fun j => [(0, vs), (1, N n), (5, U j.2.1), (6, j.2.2.1), (7, N j.1)])
    (fun j h' => j.1 ≤ n ∧ Ext h h' ∧ OwnF h' h.size 26 U j.2.2.1 j.2.2.2 ∧ j.2.2.2.length = j.1 ∧ DrawsOk j.2.2.2 ∧ j.2.1 < 18446744073709551616) (fun j => n - j.1) (0, 11400714819323198485, .slice none 0 0, []))
  · exact (Sub.cons rfl (Sub.cons rfl (Sub.cons rfl (Sub.cons rfl (Sub.cons rfl (Sub.nil _))))))
  · exact ⟨Nat.zero_le _, Ext.refl _, OwnF.nil _ _ _ _, rfl, ⟨(by intro x hx; cases hx), (by intro i d hd; cases hd)⟩, by decide⟩
  rintro ⟨j, x, v, ds⟩ h1 ⟨j1, e1, o1, l1, d1, hx⟩
  dsimp only at j1 o1 l1 d1 hx ⊢
  have s1 := s.ext e1
  refine runJ ?_
  (apply w_condD; exact rfl; exact rfl) <;> intro hj
  · refine runJ ?_
    apply (w_tcut (σ := Nat) (fun y => [(0, vs), (1, N n), (5, U y), (6, v), (7, N j)]) (fun y h' => h1 = h' ∧ y < 18446744073709551616))
    · (apply w_condD; exact rfl; exact rfl) <;> intro h0
      · obtain ⟨a, ha⟩ := get_lt (l := xs) (j := j % xs.length) (Nat.mod_lt _ h0)
        have haa := al a (List.mem_of_getElem? ha)
        have hlt := Nat.mod_lt j h0
        refine runJ ?_
        apply cut_normal (x ^^^ a)
        · exact (Sub.cons rfl (Sub.cons rfl (Sub.cons rfl (Sub.cons rfl (Sub.cons rfl (Sub.nil _))))))
        · exact ⟨rfl, xlt _ _ hx haa⟩
      · refine runJ ?_
        apply cut_normal x
        · exact (Sub.cons rfl (Sub.cons rfl (Sub.cons rfl (Sub.cons rfl (Sub.cons rfl (Sub.nil _))))))
        · exact ⟨rfl, hx⟩
    rintro y h' ⟨rfl, hy⟩
    have hy1 := xlt y (y * 2 ^ 13 % 18446744073709551616) hy (Nat.mod_lt _ (by decide))
    refine runJ ?_
    generalize y ^^^ y * 2 ^ 13 % 18446744073709551616 = y1 at *
    have hy2 := xlt y1 (y1 / 2 ^ 7) hy1 (Nat.lt_of_le_of_lt (Nat.div_le_self _ _) hy1)
    refine runJ ?_
    generalize y1 ^^^ y1 / 2 ^ 7 = y2 at *
    have hy3 := xlt y2 (y2 * 2 ^ 17 % 18446744073709551616) hy2 (Nat.mod_lt _ (by decide))
    refine runJ ?_
    generalize y2 ^^^ y2 * 2 ^ 17 % 18446744073709551616 = y3 at *
    (apply s_addUw; (first | exact isK_c | exact isK_t rfl); (first | exact isK_c | exact isK_t rfl); exact rfl)
    have hz : (y3 + j) % 18446744073709551616 < 18446744073709551616 := Nat.mod_lt _ (by decide)
    generalize (y3 + j) % 18446744073709551616 = z at *
    have hj64 : j < 9223372036854775808 := by omega
    refine runJ ?_
    apply (w_tcut (σ := Nat) (fun z => [(0, vs), (1, N n), (5, U y3), (6, v), (7, N j), (8, U z)]) (fun z h' => h1 = h' ∧ z < 18446744073709551616 ∧ (j % 2 = 1 → z < 9223372036854775808 ∧ z % 4 ≠ 3)))
    · (apply w_condD; exact rfl; exact rfl) <;> intro h0
      · have hz3 : z % 9223372036854775808 < 9223372036854775808 := Nat.mod_lt _ (by decide)
        refine runJ ?_
        generalize z % 9223372036854775808 = z3 at *
        (apply w_condD; exact rfl; exact rfl) <;> intro h4
        · refine runJ ?_
          apply cut_normal (z3 - 1)
          · exact (Sub.cons rfl (Sub.cons rfl (Sub.cons rfl (Sub.cons rfl (Sub.cons rfl (Sub.cons rfl (Sub.nil _)))))))
          · exact ⟨rfl, by omega, fun _ => ⟨by omega, by omega⟩⟩
        · refine runJ ?_
          apply cut_normal z3
          · exact (Sub.cons rfl (Sub.cons rfl (Sub.cons rfl (Sub.cons rfl (Sub.cons rfl (Sub.cons rfl (Sub.nil _)))))))
          · exact ⟨rfl, by omega, fun _ => ⟨hz3, h4⟩⟩
      · refine runJ ?_
        apply cut_normal z
        · exact (Sub.cons rfl (Sub.cons rfl (Sub.cons rfl (Sub.cons rfl (Sub.cons rfl (Sub.cons rfl (Sub.nil _)))))))
        · exact ⟨rfl, hz, fun h => absurd h h0⟩
    clear hz
    rintro w h' ⟨rfl, hw, hw2⟩
    refine runJ ?_
    obtain ⟨hsz, ex1⟩ := cutH_ext e1.1
    have hl1 : ds.length ≤ 1000000 := by omega
    rw [← hsz] at o1
    (refine s_app1 (bytes := 8) (w) o1 ex1 rfl rfl rfl rfl rfl rfl rfl rfl rfl (by first | exact rfl | exact congrArg some (congrArg I (by omega))) (fun _ => rfl) rfl rfl (fun _ _ => trivial) (by omega) (by simp only [maxLen]; omega) ?_)
    intro v2 h2 o2 e2 k2 b2
    rw [hsz] at o1 o2
    have hb : ∀ b, v.ownBlock = some b → h.size ≤ b := fun b hb => (o1.blk b hb).1
    refine runJ ?_
    apply again_normal (j + 1, y3, v2, ds ++ [w])
    · exact (Sub.cons rfl (Sub.cons rfl (Sub.cons rfl (Sub.cons rfl (Sub.cons rfl (Sub.nil _))))))
    · exact ⟨hj, k2.old e1 hb, o2, by dsimp only; rw [List.length_append, l1]; rfl, d1.snoc hw (by rw [l1]; exact hw2), hy3⟩
    · dsimp only; omega
  · obtain rfl : j = n := by omega
    refine runJ ?_
    exact fin1 rfl rfl ⟨e1, ds, o1, l1, d1⟩
end Go.Proofs.YtfcmdefigldpnaaGreatDoor


namespace Go.Proofs.YtfcmdefigldpnaaGreatDoor
set_option linter.unusedVariables false
set_option maxRecDepth 8000
open Go Go.Den Go.RowKit Go.Dig

/-- From a place on every second draw is taken. -/
def Alt (k : Nat) (ds : List Nat) : Prop := ∀ i d, ds[i]? = some d → (i + k) % 2 = 1 → d < 9223372036854775808 ∧ d % 4 ≠ 3
def AltE (ds : List Nat) : Prop := ∃ k, Alt k ds
theorem DrawsOk.alt {ds : List Nat} (h : DrawsOk ds) : AltE ds := ⟨0, fun i d hi ho => h.2 i d hi ho⟩
theorem Alt.tail {k d : Nat} {ds : List Nat} (h : Alt k (d :: ds)) : Alt (k + 1) ds := fun i x hi ho => h (i + 1) x hi (by omega)
/-- What takes every such draw, and at most passes over others. -/
structure Takes {α : Type} (f : List Nat → Option (α × List Nat)) : Prop where mk ::
  good : ∀ d ds, d < 9223372036854775808 → d % 4 ≠ 3 → ∃ r, f (d :: ds) = some (r, ds)
  any : ∀ d ds, (∃ r, f (d :: ds) = some (r, ds)) ∨ f (d :: ds) = f ds
theorem takes_one {α : Type} {f : List Nat → Option (α × List Nat)} (F : Takes f) {ds : List Nat} (h : AltE ds) (hl : 2 ≤ ds.length) : ∃ r ds', f ds = some (r, ds') ∧ AltE ds' ∧ ds.length ≤ ds'.length + 2 := by
  obtain ⟨k, h⟩ := h
  match ds, hl, h with
  | d1 :: d2 :: tl, _, h =>
    rcases F.any d1 (d2 :: tl) with ⟨r, hr⟩ | he
    · exact ⟨r, _, hr, ⟨_, h.tail⟩, by simp⟩
    · by_cases hk : k % 2 = 1
      · obtain ⟨g1, g2⟩ := h 0 d1 rfl (by omega)
        obtain ⟨r, hr⟩ := F.good d1 (d2 :: tl) g1 g2
        exact ⟨r, _, hr, ⟨_, h.tail⟩, by simp⟩
      · obtain ⟨g1, g2⟩ := h 1 d2 rfl (by omega)
        obtain ⟨r, hr⟩ := F.good d2 tl g1 g2
        exact ⟨r, tl, he.trans hr, ⟨_, h.tail.tail⟩, by simp⟩
theorem takes_row {α : Type} {f : List Nat → Option (α × List Nat)} (F : Takes f) : ∀ (n : Nat) {ds : List Nat}, AltE ds → 2 * n ≤ ds.length → ∃ rs ds', rowG f n ds = some (rs, ds') ∧ AltE ds' ∧ ds.length ≤ ds'.length + 2 * n
  | 0, ds, h, _ => ⟨[], ds, rfl, h, by omega⟩
  | n + 1, ds, h, hl => by
    obtain ⟨r, ds1, h1, a1, l1⟩ := takes_one F h (by omega)
    obtain ⟨rs, ds2, h2, a2, l2⟩ := takes_row F n a1 (by omega)
    refine ⟨r :: rs, ds2, ?_, a2, by omega⟩
    unfold rowG
    rw [h1]
    dsimp only
    rw [h2]
theorem takes_T : Takes firstT := by
  refine ⟨fun d ds h1 h2 => ?_, fun d ds => ?_⟩
  · obtain ⟨-, -, -, m3⟩ := tern_mod d
    exact ⟨tern d, by unfold firstT; rw [if_neg (by rw [m3]; exact h2)]⟩
  · by_cases h : d &&& 3 = 3
    · exact .inr (by conv => lhs; unfold firstT
                     rw [if_pos h])
    · exact .inl ⟨tern d, by unfold firstT; rw [if_neg h]⟩
theorem firstT_val9 : ∀ (ds : List Nat) (r : Int) (ds' : List Nat), firstT ds = some (r, ds') → r = 0 ∨ r = 1 ∨ r = -1
  | [], r, ds', h => by cases h
  | d :: ds, r, ds', h => by
    obtain ⟨m0, m1, m2, m3⟩ := tern_mod d
    unfold firstT at h
    split at h
    · exact firstT_val9 ds r ds' h
    · rename_i hd
      cases h
      rw [m3] at hd
      have : d % 4 < 4 := Nat.mod_lt _ (by decide)
      rcases (show d % 4 = 0 ∨ d % 4 = 1 ∨ d % 4 = 2 by omega) with h | h | h
      · exact .inl (m0 h)
      · exact .inr (.inl (m1 h))
      · exact .inr (.inr (m2 h))
end Go.Proofs.YtfcmdefigldpnaaGreatDoor


namespace Go.Proofs.YtfcmdefigldpnaaGreatDoor
set_option linter.unusedVariables false
set_option maxRecDepth 8000
open Go Go.Den Go.RowKit Go.Mth Go.Dig

theorem RowP.base {α : Type} {f : α → Value} {e : TypeId} {h0 h h' : Hp} {t : Value} {B : Option Nat} {v' : Value} {Z : Option (List α × List Nat)} (s : RowP f e h h' t B v' Z) (hz : h0.size ≤ h.size) : RowP f e h0 h' t B v' Z := by
  cases Z with
  | none => exact s
  | some x =>
    obtain ⟨rs, ds⟩ := x
    obtain ⟨u, h1, h2, h3⟩ := s
    exact ⟨u, h1, h2.base hz, h3⟩

theorem Tryz_ent18 : Ent Tryz.prog 18 := ent_of Tryz.func18 (by kernel_rfl) rfl
theorem keysSecret_spec (L t w : Nat) (vq tp : Value) (qs : List Nat) (B : Option Nat) (ds : List Nat) (h : Hp) (TB0 : TB h) (A : ParAt h ⟨((2 ^ L : Nat) : Int), t, vq, qs, (w : Int)⟩) (P : parP ⟨((2 ^ L : Nat) : Int), t, vq, qs, (w : Int)⟩) (hL9 : L ≤ 9) (T : TapeAt h tp B ds false) :
    CallsH Tryz.prog 18 [.agg #[N (2 ^ L), U t, vq, N w], tp] h fun v' h' => Only (pblk tp) h h' ∧ RowP I 2 h h' tp B v' (rowG firstT (2 ^ L) ds) := by
  have CK := fun h T A => check_spec ⟨((2 ^ L : Nat) : Int), t, vq, qs, (w : Int)⟩ h T A
  rw [if_pos P] at CK
  have hp9 : 2 ^ L ≤ 2 ^ 9 := Nat.pow_le_pow_right (by decide) hL9
  have e9 : (2 : Nat) ^ 9 = 512 := by decide
  have hp0 : 0 < 2 ^ L := Nat.two_pow_pos _
  unfold ParD.cells at CK
  dsimp only [List.toArray] at CK
  (apply enter Tryz.func18 rfl Tryz.ntmps18 rfl)
  refine runJ ?_
  (apply s_box; exact rfl; exact rfl; exact rfl; exact rfl)
  intro p4 h1 x1 e1 b1
  (try dsimp only [Value.cells, List.toList_toArray] at x1)
  refine ⟨(by first | exact trivial | exact Ext.refl _ | assumption | exact Ext.trans (by assumption) (by assumption)), ?_⟩
  refine runJ ?_
  apply (s_call Tryz_ent45 rfl rfl rfl)
  refine (CK h1 (TB0.ext e1) (A.ext e1)).mono ?_
  rintro _ h2 ⟨rfl, e2⟩
  refine ⟨(by first | exact trivial | exact trivial), ?_⟩
  have x2 := x1.ext e2
  have E2 := e1.trans e2
  refine runJ ?_
  apply (s_call Tryz_ent46 rfl rfl rfl)
  refine (ternariesP_spec tp B (2 ^ L) ds h2 (T.ext E2) (by omega) (by omega)).mono ?_
  rintro v h3 ⟨k3, R3⟩
  refine ⟨(by first | exact trivial | exact trivial), ?_⟩
  have R3 := R3.base E2.1
  have K3 := (E2.only (pblk tp)).trans k3
  cases hZ : rowG firstT (2 ^ L) ds with
  | none =>
    rw [hZ] at R3
    obtain ⟨rfl, T3⟩ := R3
    refine runJ ?_
    exact fin2 rfl rfl rfl ⟨K3, rfl, T3⟩
  | some x =>
    obtain ⟨rs, ds'⟩ := x
    rw [hZ] at R3
    obtain ⟨u, rfl, o3, T3⟩ := R3
    refine runJ ?_
    exact fin2 rfl rfl rfl ⟨K3, u, rfl, o3, T3⟩

theorem Tryz_ent6 : Ent Tryz.prog 6 := ent_of Tryz.func6 (by kernel_rfl) rfl
theorem fixed11_spec (h : Hp) (TB0 : TB h) : CallsH Tryz.prog 6 [] h fun v' h' => v' = .bool true ∧ Ext h h' := by
  have hR : rowG firstT (2 ^ 3) [0, 1, 2, 3, 0, 0, 0, 0, 0] = some ([0, 1, -1, 0, 0, 0, 0, 0], []) := by decide +kernel
  (apply enter Tryz.func6 rfl Tryz.ntmps6 rfl)
  refine runJ ?_
  (apply (s_litF (f := U) [97] (fun _ => rfl)); exact rfl; exact rfl; exact rfl; exact rfl; exact rfl; exact rfl; exact rfl; exact rfl; omega)
  intro w1 h1 o1 e1 b1
  refine ⟨(by first | exact trivial | exact Ext.refl _ | assumption | exact Ext.trans (by assumption) (by assumption)), ?_⟩
  refine runJ ?_
  (apply (s_build ([I 8, U 17, w1, I 1])); exact rfl; exact rfl; exact rfl; (repeat (first | exact CellsAll.nil | (apply CellsAll.cons; (first | exact oneL (by assumption) | exact oneL (SlF.one (by assumption)) | exact oneL (SlF.one (OwnF.sl (by assumption))) | exact oneL (Var.one (by assumption)) | exact rfl)))); exact rfl; exact rfl)
  refine runJ ?_
  (apply s_alloc; exact rfl; exact rfl; exact rfl)
  intro p1 h2 x2 e2 b2
  (try dsimp only [Value.cells, List.toList_toArray] at x2)
  refine ⟨(by first | exact trivial | exact Ext.refl _ | assumption | exact Ext.trans (by assumption) (by assumption)), ?_⟩
  refine runJ ?_
  have hw1 := o1.sl.one
  (apply s_storeV; exact rfl; exact rfl; exact rfl; exact (OneAll.cons rfl (OneAll.cons rfl (OneAll.cons hw1 (OneAll.cons rfl OneAll.nil))) : OneAll [I 8, U 17, w1, I 1]); exact rfl; exact rfl; exact x2; exact rfl)
  intro h3 x3 k3
  refine ⟨trivial, ?_⟩
  have x3 : Var h3 p1 28 [I 8, U 17, w1, I 1] := x3
  have E3 : Ext h h3 := k3.oldV (e1.trans e2) b2 e1.1
  have e13 : Ext h1 h3 := k3.oldV e2 b2 (Nat.le_refl _)
  have A3 : ParAt h3 ⟨((2 ^ 3 : Nat) : Int), 17, w1, [97], ((1 : Nat) : Int)⟩ := ⟨o1.sl.ext e13, by intro x hx; rw [List.mem_singleton.1 hx]; decide, (by decide : 17 < 18446744073709551616), (by decide : 1 ≤ 4611686018427387904)⟩
  refine runJ ?_
  (apply (s_litF (f := U) [0, 1, 2, 3, 0, 0, 0, 0, 0] (fun _ => rfl)); exact rfl; exact rfl; exact rfl; exact rfl; exact rfl; exact rfl; exact rfl; exact rfl; omega)
  intro w4 h4 o4 e4 b4
  refine ⟨(by first | exact e4 | exact trivial | exact Ext.refl _ | assumption | exact Ext.trans (by assumption) (by assumption)), ?_⟩
  refine runJ ?_
  apply (s_call Tryz_ent10 rfl rfl rfl)
  refine (new_spec w4 _ h4 o4.sl (show ∀ x ∈ [0, 1, 2, 3, 0, 0, 0, 0, 0], x < 18446744073709551616 by decide) (by decide)).mono ?_
  rintro tp h5 ⟨e5, kt, B, hkt, hkl, T5⟩
  refine ⟨(by first | exact trivial | exact e4.trans e5), ?_⟩
  have E35 := e4.trans e5
  refine runJ ?_
  apply (s_call Tryz_ent18 rfl rfl rfl)
  refine (keysSecret_spec 3 17 1 w1 tp [97] B _ h5 (TB0.ext (E3.trans E35)) (A3.ext E35) (par17 w1) (by decide) T5).mono ?_
  rintro v h6 ⟨k6, R6⟩
  refine ⟨(by first | exact trivial | exact ext_onlyR E35 k6 fun j hj => by rw [hkt] at hj; cases hj; exact Nat.le_trans e4.1 hkl), ?_⟩
  rw [hR] at R6
  obtain ⟨u, rfl, o6, T6⟩ := R6
  have E6 : Ext h3 h6 := ext_onlyR E35 k6 fun j hj => by rw [hkt] at hj; cases hj; exact Nat.le_trans e4.1 hkl
  refine runJ ?_
  (apply (s_litF (f := I) [0, 1, -1, 0, 0, 0, 0, 0] (fun _ => rfl)); exact rfl; exact rfl; exact rfl; exact rfl; exact rfl; exact rfl; exact rfl; exact rfl; omega)
  intro w7 h7 o7 e7 b7
  refine ⟨(by first | exact trivial | exact Ext.refl _ | assumption | exact Ext.trans (by assumption) (by assumption)), ?_⟩
  have s6 := o6.sl.ext e7
  refine runJ ?_
  apply (s_call Tryz_ent31 rfl rfl rfl)
  refine (sameInts_spec u w7 _ _ h7 s6 o7.sl (by decide) (by decide)).mono ?_
  rintro _ _ ⟨rfl, rfl⟩
  refine ⟨(by first | exact trivial | exact trivial), ?_⟩
  refine runJ ?_
  exact fin1 rfl rfl ⟨by rw [decide_eq_true rfl], E3.trans (E6.trans e7)⟩

theorem TB.lt {h : Hp} (s : TB h) : 2 < h.size := by
  obtain ⟨b, o, e, hc⟩ := s
  cases e
  exact cellH_lt (hc 0 _ rfl)
theorem q_isR : ∀ i, i < 3 → ∀ j, j < 4 → (qOf i j).all isRF = true := by decide +kernel
theorem row_pow {L : Nat} (h3 : 3 ≤ L) (h8 : L ≤ 8) : rowF ((2 ^ L : Nat) : Int) = 420 := by
  unfold rowF
  have : L = 3 ∨ L = 4 ∨ L = 5 ∨ L = 6 ∨ L = 7 ∨ L = 8 := by omega
  rw [if_pos]
  unfold rowP
  rcases this with rfl | rfl | rfl | rfl | rfl | rfl <;> decide
/-- What the reference asks of parameters that are made. -/
theorem made_isR (a b : Nat) : isR (tPar a) = true ∧ tPar a % (2 * 2 ^ (pI a + 3)) = 1 ∧ tPar a < 1073741824 ∧ ∀ q ∈ qPar a b, q < 1125899906842624 ∧ q % (2 * 2 ^ (pI a + 3)) = 1 ∧ q ≠ tPar a ∧ isR q = true := by
  obtain ⟨q1, q2, q3, q4⟩ := qPar_facts a b
  obtain ⟨t1, t2⟩ := tPar_facts a
  have hi : pI a < 3 := Nat.mod_lt _ (by decide)
  have hj : pJ a < 4 := Nat.mod_lt _ (by decide)
  have hk : pK b < 4 := Nat.mod_lt _ (by decide)
  refine ⟨by rw [isR_fast (by omega)]; exact t_isR _ hi _ hj, t2.qm, by omega, fun q hq => ?_⟩
  obtain ⟨g1, g2, g3⟩ := q2 q hq
  refine ⟨g2, g3.qm, by omega, ?_⟩
  rw [isR_fast (by omega)]
  have := q_isR _ hi _ hk
  exact List.all_eq_true.1 this q (List.mem_of_mem_take hq)

set_option maxHeartbeats 8000000 in
theorem keysAll_law (a b ls : Nat) (vs vk vd : Value) (secret seed : List Nat) (ks : List Int) (h : Hp) (TB0 : TB h) (s : SlF h U vs secret) (al : Al 18446744073709551616 secret) (hl : secret.length < 9223372036854775808) (sk : SlF h I vk ks) (hkb : ∀ x ∈ ks, -9223372036854775808 ≤ x ∧ x < 9223372036854775808) (hlk : ks.length < 9223372036854775808) (sd : SlF h U vd seed) (ald : Al 18446744073709551616 seed) (hld : seed.length < 9223372036854775808) (ha : a < 256) (hb : b < 256) (hls : ls < 65536) :
    CallsH Tryz.prog 3 [Y a, Y b, vs, vk, vd, .int .u16 (ls : Int)] h fun v' h' => v' = .bool true ∧ Ext h h' := by
  have PM := fun h => params_spec a b h ha hb
  obtain ⟨q1, q2, q3, q4⟩ := qPar_facts a b
  obtain ⟨t1, t2⟩ := tPar_facts a
  obtain ⟨r1, r2, r3, r4⟩ := made_isR a b
  have hpi : pI a < 3 := Nat.mod_lt _ (by decide)
  have hpc : pC b ≤ 5 ∧ 2 ≤ pC b := by unfold pC; omega
  have PP := fun v => parM_ok a b v
  generalize hL : pI a + 3 = L at *
  have hN2 : 8 ≤ 2 ^ L := Nat.pow_le_pow_right (n := 2) (i := 3) (by decide) (by omega)
  have hNle : 2 ^ L ≤ 2 ^ 5 := Nat.pow_le_pow_right (by decide) (by omega)
  have e5 : (2 : Nat) ^ 5 = 32 := by decide
  have hPar : ∀ v, (parM a b v).cells = [N (2 ^ L), U (tPar a), v, N (1 + b / 16 % 16)] := fun v => by rw [← hL]; rfl
  have hParM : ∀ v, parM a b v = ⟨((2 ^ L : Nat) : Int), tPar a, v, qPar a b, ((1 + b / 16 % 16 : Nat) : Int)⟩ := fun v => by rw [← hL]; rfl
  simp only [hPar] at PM
  (apply enter Tryz.func3 rfl Tryz.ntmps3 rfl)
  refine runJ ?_
  apply (s_call Tryz_ent6 rfl rfl rfl)
  refine (fixed11_spec h TB0).mono ?_
  rintro _ h1 ⟨rfl, e1⟩
  refine ⟨(by first | exact trivial | exact trivial), ?_⟩
  refine runJ ?_
  apply (s_call Tryz_ent7 rfl rfl rfl)
  refine (PM h1).mono ?_
  rintro _ h2 ⟨e2, vq, rfl, A2, o2⟩
  refine ⟨(by first | exact trivial | exact trivial), ?_⟩
  refine runJ ?_
  (apply s_alloc; exact rfl; exact rfl; exact rfl)
  intro p13 h3 x3 e3 b3
  (try dsimp only [Value.cells, List.toList_toArray] at x3)
  refine ⟨(by first | exact trivial | exact Ext.refl _ | assumption | exact Ext.trans (by assumption) (by assumption)), ?_⟩
  refine runJ ?_
  have hqone := o2.sl.one
  (apply s_storeV; exact rfl; exact rfl; exact rfl; exact (OneAll.cons rfl (OneAll.cons rfl (OneAll.cons hqone (OneAll.cons rfl OneAll.nil))) : OneAll [N (2 ^ L), U (tPar a), vq, N (1 + b / 16 % 16)]); exact rfl; exact rfl; exact x3; exact rfl)
  intro h4 x4 k4
  refine ⟨trivial, ?_⟩
  have x4 : Var h4 p13 28 [N (2 ^ L), U (tPar a), vq, N (1 + b / 16 % 16)] := x4
  have E2 := e1.trans e2
  have e24 : Ext h2 h4 := k4.oldV e3 b3 (Nat.le_refl _)
  have E4 := E2.trans e24
  have s4 := s.ext E4
  have sk4 := sk.ext E4
  have sd4 := sd.ext E4
  have A4 := A2.ext e24
  have sq4 := o2.sl.ext e24
  refine runJ ?_
  (apply s_splitG; exact rfl; exact rfl; exact rfl; exact rfl) <;> intro g1
  · refine runJ ?_
    exact fin1 rfl rfl ⟨rfl, E4⟩
  refine runJ ?_
  (apply s_splitG; exact rfl; exact rfl; exact rfl; exact rfl) <;> intro g2
  · refine runJ ?_
    exact fin1 rfl rfl ⟨rfl, E4⟩
  refine runJ ?_
  (apply s_splitG; exact rfl; exact rfl; exact rfl; exact rfl) <;> intro g3
  · refine runJ ?_
    exact fin1 rfl rfl ⟨rfl, E4⟩
  refine runJ ?_
  (apply s_splitG; exact rfl; exact rfl; exact rfl; exact rfl) <;> intro g4
  · refine runJ ?_
    exact fin1 rfl rfl ⟨rfl, E4⟩
  refine runJ ?_
  (apply w_condD; exact rfl; exact rfl) <;> intro g5
  · refine runJ ?_
    exact fin1 rfl rfl ⟨rfl, E4⟩
  refine runJ ?_
  have hm : (qPar a b).length = 2 ∨ (qPar a b).length = 3 := by omega
  have hq64 : ∀ q ∈ qPar a b, 0 < q ∧ q < 18446744073709551616 := fun q hq => by have := q2 q hq; omega
  have hq63 : ∀ q ∈ qPar a b, 0 < q ∧ q < 9223372036854775808 := fun q hq => by have := q2 q hq; omega
  have hqq : ∀ q ∈ qPar a b, 1 < q ∧ q < 18446744073709551616 := fun q hq => by have := q2 q hq; omega
  apply (s_call Tryz_ent8 rfl rfl rfl)
  refine (draws_spec vs secret (40 * 2 ^ L) h4 s4 al (by omega) (by omega)).mono ?_
  rintro vd5 h5 ⟨e5', ds5, o5, l5, d5⟩
  refine ⟨(by first | exact trivial | exact e5'), ?_⟩
  refine runJ ?_
  (apply (s_build ([vd5, .bool false])); exact rfl; exact rfl; exact rfl; (repeat (first | exact CellsAll.nil | (apply CellsAll.cons; (first | exact oneL (by assumption) | exact oneL (SlF.one (by assumption)) | exact oneL (SlF.one (OwnF.sl (by assumption))) | exact oneL (Var.one (by assumption)) | exact rfl)))); exact rfl; exact rfl)
  refine runJ ?_
  (apply s_box; exact rfl; exact rfl; exact rfl; exact rfl)
  intro tr0 h6 x6 e6 b6
  (try dsimp only [Value.cells, List.toList_toArray] at x6)
  refine ⟨(by first | exact trivial | exact Ext.refl _ | assumption | exact Ext.trans (by assumption) (by assumption)), ?_⟩
  have x6 : Var h6 tr0 36 [vd5, .bool false] := x6
  have e46 := e5'.trans e6
  have hs6 : h5.size < h6.size := by obtain ⟨j, hj, hl⟩ := x6.blk; rw [b6] at hj; cases hj; exact hl
  have dl5 : ds5.length < 4611686018427387904 := by omega
  have T6 : TapR h6 tr0 vd5.ownBlock ds5 false := ⟨vd5, x6, o5.sl.ext e6, ⟨.inr rfl, (by rw [b6]; intro e; have := (o5.blk _ e).2; omega), fun b hb => by have := (o5.blk b hb).2; omega⟩, d5.1, dl5⟩
  have hge6 : ∀ j, pblk tr0 = some j → h4.size ≤ j := fun j hj => by rw [b6] at hj; have := Option.some.inj hj; have := e5'.1; omega
  refine runJ ?_
  apply (s_call Tryz_ent9 rfl rfl rfl)
  refine (ternariesR_spec tr0 _ (2 ^ L) ds5 false h6 T6 (by omega) (by omega)).mono ?_
  rintro v7 h7 ⟨k7, D7⟩
  refine ⟨(by first | exact trivial | exact ext_onlyR e46 k7 hge6), ?_⟩
  have e47 := ext_onlyR e46 k7 hge6
  obtain ⟨ss, ds7, hZ, -⟩ := takes_row takes_T (2 ^ L) d5.alt (by omega)
  rw [if_neg (by simp), hZ] at D7
  obtain ⟨u, rfl, ou, -⟩ := D7
  obtain ⟨hsn, hs3⟩ := rowG_all (p := fun r => r = 0 ∨ r = 1 ∨ r = -1) firstT_val9 (2 ^ L) ds5 ss ds7 hZ
  have hsb : ∀ x ∈ ss, -9223372036854775808 ≤ x ∧ x < 9223372036854775808 := fun x hx => by have := hs3 x hx; omega
  have E7 := E4.trans e47
  have x47 := x4.ext e47
  have sd7 := sd4.ext e47
  have hM1 : (1 + ks.length) * (qPar a b).length < 9223372036854775808 := Nat.lt_of_le_of_lt (Nat.mul_le_mul (show 1 + ks.length ≤ 4 by omega) (show (qPar a b).length ≤ 3 by omega)) (by decide)
  have hM2 : (1 + ks.length) * (qPar a b).length * ((qPar a b).length + 1) < 9223372036854775808 := Nat.lt_of_le_of_lt (Nat.mul_le_mul (Nat.mul_le_mul (show 1 + ks.length ≤ 4 by omega) (show (qPar a b).length ≤ 3 by omega)) (show (qPar a b).length + 1 ≤ 4 by omega)) (by decide)
  have hM3' : (1 + ks.length) * (qPar a b).length * ((qPar a b).length + 1) * 2 ^ L ≤ 4 * 3 * 4 * 16 := Nat.mul_le_mul (Nat.mul_le_mul (Nat.mul_le_mul (show 1 + ks.length ≤ 4 by omega) (show (qPar a b).length ≤ 3 by omega)) (show (qPar a b).length + 1 ≤ 4 by omega)) (by omega)
  have hM3 : (1 + ks.length) * (qPar a b).length * ((qPar a b).length + 1) * 2 ^ L < 9223372036854775808 := Nat.lt_of_le_of_lt hM3' (by decide)
  refine runJ ?_
  apply (s_call Tryz_ent8 rfl rfl rfl)
  refine (draws_spec vd seed _ h7 sd7 ald (by omega) (by omega)).mono ?_
  rintro vd8 h8 ⟨e8, ds8, o8, l8, d8⟩
  refine ⟨(by first | exact trivial | exact trivial), ?_⟩
  have x48 := x47.ext e8
  have E8 := E7.trans e8
  refine runJ ?_
  apply s_remU16 (isK_t rfl) isK_c rfl (by decide)
  have hls4 : ls % 400 < 400 := Nat.mod_lt _ (by decide)
  generalize ls % 400 = lr at *
  refine runJ ?_
  refine s_maxI rfl rfl rfl ?_
  refine runJ ?_
  refine o_know (t := 91) (u := N (ds8.length - lr)) rfl (congrArg I (by omega)) ?_
  refine runJ ?_
  have c9 := o8.sl.cut (lo := 0) (hi := ds8.length - lr) (Nat.zero_le _) (Nat.sub_le _ _)
  rw [List.drop_zero, Nat.sub_zero] at c9
  have al9 : Al 18446744073709551616 (ds8.take (ds8.length - lr)) := fun x hx => d8.1 x (List.mem_of_mem_take hx)
  have l9 : (ds8.take (ds8.length - lr)).length ≤ 808 := by rw [List.length_take]; omega
  have ow9 : (cutV 1 vd8 0 (ds8.length - lr)).ownBlock = none ∨ (cutV 1 vd8 0 (ds8.length - lr)).ownBlock = vd8.ownBlock := by
    have e := o8.2
    rcases e with ⟨e, -⟩ | ⟨g, cap, cur, e, -⟩
    · rw [e]; exact .inl (by unfold cutV; simp only []; split <;> rfl)
    · rw [e]; exact .inr (by unfold cutV; simp only [Nat.zero_mul, Option.map_some]; split <;> rfl)
  generalize cutV 1 vd8 0 (ds8.length - lr) = vd9 at *
  generalize ds8.take (ds8.length - lr) = ds9 at *
  apply (s_call Tryz_ent10 rfl rfl rfl)
  refine (new_spec vd9 ds9 h8 c9 al9 (by omega)).mono ?_
  rintro tp h9 ⟨e9, kt, Bt, hkt, hkl, T9⟩
  refine ⟨(by first | exact trivial | exact trivial), ?_⟩
  have x49 := x48.ext e9
  refine runJ ?_
  have v9one := c9.one
  (apply (s_build ([vd9, .bool false])); exact rfl; exact rfl; exact rfl; (repeat (first | exact CellsAll.nil | (apply CellsAll.cons; (first | exact oneL (by assumption) | exact oneL (SlF.one (by assumption)) | exact oneL (SlF.one (OwnF.sl (by assumption))) | exact oneL (Var.one (by assumption)) | exact rfl)))); exact rfl; exact rfl)
  refine runJ ?_
  (apply s_box; exact rfl; exact rfl; exact rfl; exact rfl)
  intro tr h10 x10 e10 b10
  (try dsimp only [Value.cells, List.toList_toArray] at x10)
  refine ⟨(by first | exact trivial | exact Ext.refl _ | assumption | exact Ext.trans (by assumption) (by assumption)), ?_⟩
  have x10 : Var h10 tr 36 [vd9, .bool false] := x10
  have e810 := e9.trans e10
  have E10 := E8.trans e810
  have T10 := T9.ext e10
  have hs10 : h9.size < h10.size := by obtain ⟨j, hj, hl⟩ := x10.blk; rw [b10] at hj; cases hj; exact hl
  have R10 : TapR h10 tr vd8.ownBlock ds9 false := ⟨vd9, x10, c9.ext e810, ⟨ow9, (by rw [b10]; intro e; have := (o8.blk _ e).2; have := e9.1; omega), fun b hb => by have := (o8.blk b hb).2; have := e810.1; omega⟩, al9, by omega⟩
  have x410 := x49.ext e10
  obtain ⟨kt', hkt', hktl⟩ := T9.pb
  rw [hkt] at hkt'; cases hkt'
  have ntr : pblk tr ≠ pblk tp := by rw [b10, hkt]; intro e; have := Option.some.inj e; omega
  have nv8 : vd8.ownBlock ≠ pblk tp := by rw [hkt]; intro e; have := (o8.blk _ e).2; omega
  have n13 : pblk p13 ≠ pblk tp := by rw [b3, hkt]; intro e; have := Option.some.inj e; have := e24.1; have := e47.1; have := e8.1; have := k4.1; obtain ⟨j, hj, hl⟩ := x4.blk; rw [b3] at hj; cases hj; omega
  have nvq : vq.ownBlock = none ∨ vq.ownBlock ≠ pblk tp := by
    cases hv : vq.ownBlock with
    | none => exact .inl rfl
    | some j => exact .inr fun e => by rw [hkt] at e; cases e; have := (o2.blk _ hv).2; have := e24.1; have := e47.1; have := e8.1; omega
  have nvk : ks = [] ∨ (vk.ownBlock = none ∨ vk.ownBlock ≠ pblk tp) := by
    by_cases h0 : 0 < ks.length
    · cases hv : vk.ownBlock with
      | none => exact .inr (.inl rfl)
      | some j => exact .inr (.inr fun e => by rw [hkt] at e; cases e; have := sk4.lt h0 _ hv; have := e47.1; have := e8.1; omega)
    · exact .inl (List.eq_nil_of_length_eq_zero (by omega))
  have hgt : pblk tp ≠ some 2 := by
    rw [hkt]; intro e; have := Option.some.inj e; have := TB0.lt; have := E8.1; omega
  refine runJ ?_
  have A10 := A4.ext (e47.trans (e8.trans e810))
  rw [hParM] at A10
  have P10 := PP vq
  rw [hParM] at P10
  have u10 := ou.sl.ext (e8.trans e810)
  have sk10 := sk4.ext (e47.trans (e8.trans e810))
  have hgeT8 : ∀ j, pblk tp = some j → h8.size ≤ j := fun j hj => by rw [hkt] at hj; cases hj; exact hkl
  have KA := keysAll_spec L (tPar a) (1 + b / 16 % 16) vq u tp vk (qPar a b) ss ks Bt ds9 h10 (TB0.ext E10) A10 P10 (by omega) (by omega) (fun q hq => (q2 q hq).2.2) t2 u10 (by omega) hsb sk10 (by omega) hkb T10 nvq nvk hgt
  apply (s_call Tryz_ent11 rfl rfl rfl)
  refine (KA).mono ?_
  rintro r11 h11 ⟨k11, G11⟩
  refine ⟨(by first | exact trivial | exact trivial), ?_⟩
  clear KA
  have e811 : Ext h8 h11 := ext_onlyR e810 k11 hgeT8
  have R11 := R10.only k11 ntr nv8
  have x411 := x48.ext e811
  have E11 := E8.trans e811
  obtain ⟨c1, c2, c3, er, rfl, oc1, oc2, oc3, G11⟩ : ∃ c1 c2 c3 er, r11 = .tuple #[.agg #[c1, c2, c3], N er] ∧ c1.oneCell' = true ∧ c2.oneCell' = true ∧ c3.oneCell' = true ∧
      ((¬ SecP ((2 ^ L : Nat) : Int) ss ∧ er = 3 ∧ c2 = .slice none 0 0 ∧ TapeAt h11 tp Bt ds9 false) ∨
       (SecP ((2 ^ L : Nat) : Int) ss ∧ stepsB ((2 ^ L / 2 : Nat) : Int) 0 ks = false ∧ er = 5 ∧ c2 = .slice none 0 0 ∧ TapeAt h11 tp Bt ds9 false) ∨
       (SecP ((2 ^ L : Nat) : Int) ss ∧ stepsB ((2 ^ L / 2 : Nat) : Int) 0 ks = true ∧ match allsG (2 ^ L) (1 + b / 16 % 16) (qPar a b) (ks.length + 1) ds9 with
        | none => er = 11 ∧ c1 = .slice none 0 0 ∧ c2 = .slice none 0 0 ∧ c3 = .slice none 0 0 ∧ TapeAt h11 tp Bt [] true
        | some (xss, ds') => er = 0 ∧ ∃ pB pA ts, SwAt h11 h10.size c1 pB ∧ SwAt h11 h10.size c2 pA ∧ TurnsAt h11 h10.size c3 ts ∧ TapeAt h11 tp Bt ds' false ∧ KeysR (2 ^ L) (qPar a b) ((qPar a b).map (liftL ss)) ks xss (polysL pB) (polysL pA) (turnsL ts))) := by
    rcases G11 with ⟨g, rfl, T⟩ | ⟨g, g', rfl, T⟩ | ⟨g, g', G⟩
    · exact ⟨_, _, _, 3, rfl, rfl, rfl, rfl, .inl ⟨g, rfl, rfl, T⟩⟩
    · exact ⟨_, _, _, 5, rfl, rfl, rfl, rfl, .inr (.inl ⟨g, g', rfl, rfl, T⟩)⟩
    · cases hA : allsG (2 ^ L) (1 + b / 16 % 16) (qPar a b) (ks.length + 1) ds9 with
      | none =>
        rw [hA] at G
        obtain ⟨rfl, T⟩ := G
        exact ⟨_, _, _, 11, rfl, rfl, rfl, rfl, .inr (.inr ⟨g, g', rfl, rfl, rfl, rfl, T⟩)⟩
      | some y =>
        obtain ⟨xss, ds'⟩ := y
        rw [hA] at G
        obtain ⟨vB, vA, vT, pB, pA, ts, rfl, SB, SA, ST, T, K⟩ := G
        exact ⟨_, _, _, 0, rfl, SB.own.sl.one, SA.own.sl.one, ST.own.sl.one, .inr (.inr ⟨g, g', rfl, pB, pA, ts, SB, SA, ST, T, K⟩)⟩
  refine runJ ?_
  (apply s_alloc; exact rfl; exact rfl; exact rfl)
  intro p19 h12 x12 e12 b12
  (try dsimp only [Value.cells, List.toList_toArray] at x12)
  refine ⟨(by first | exact trivial | exact Ext.refl _ | assumption | exact Ext.trans (by assumption) (by assumption)), ?_⟩
  refine runJ ?_
  (apply s_storeV; exact rfl; exact rfl; exact rfl; exact (OneAll.cons oc1 (OneAll.cons oc2 (OneAll.cons oc3 OneAll.nil)) : OneAll [c1, c2, c3]); exact rfl; exact rfl; exact x12; exact rfl)
  intro h13 x13 k13
  refine ⟨trivial, ?_⟩
  have x13 : Var h13 p19 45 [c1, c2, c3] := x13
  have e1113 : Ext h11 h13 := k13.oldV e12 b12 (Nat.le_refl _)
  have x413 := x411.ext e1113
  have e813 := e811.trans e1113
  have E13 := E8.trans e813
  have sk13 := sk4.ext (e47.trans (e8.trans e813))
  have u13 := ou.sl.ext (e8.trans e813)
  have sq13 := sq4.ext (e47.trans (e8.trans e813))
  have hrow : rowF ((2 ^ L : Nat) : Int) = 420 := row_pow (by omega) (by omega)
  have RC := refCheck11_spec (2 ^ L) (tPar a) (1 + b / 16 % 16) vq u vk (qPar a b) ss ks h13 sq13 (by rw [hrow]; decide) (by omega) (by omega) (by omega) (by omega) r3 r2 r1 r4 q3 (by rw [hrow]; exact q4) u13 (by omega) sk13 (by omega) hkb
  refine runJ ?_
  apply (s_call Tryz_ent12 rfl rfl rfl)
  refine (RC).mono ?_
  rintro _ h14 ⟨rfl, e14⟩
  refine ⟨(by first | exact trivial | exact trivial), ?_⟩
  clear RC
  have e1114 := e1113.trans e14
  have x414 := x413.ext e14
  have x14 := x13.ext e14
  have R14 := R11.ext e1114
  have E14 := E13.trans e14
  have c14 := c9.ext (e813.trans e14)
  have nil14 : SlF h14 U (.slice none 0 0) [] := SlF.nil _ _
  rcases G11 with ⟨g, rfl, rfl, T11⟩ | ⟨g, g', rfl, rfl, T11⟩ | ⟨g, g', G11⟩
  · rw [if_neg g]
    have T14 := T11.ext e1114
    refine runJ ?_
    apply (s_call Tryz_ent13 rfl rfl rfl)
    refine (left_spec tp Bt ds9 false h14 T14).mono ?_
    rintro _ _ ⟨rfl, rfl⟩
    refine ⟨(by first | exact trivial | exact trivial), ?_⟩
    refine runJ ?_
    exact fin1 rfl rfl ⟨by simp, E14⟩
  · rw [if_pos g, if_neg (by rw [g']; simp)]
    have T14 := T11.ext e1114
    refine runJ ?_
    apply (s_call Tryz_ent13 rfl rfl rfl)
    refine (left_spec tp Bt ds9 false h14 T14).mono ?_
    rintro _ _ ⟨rfl, rfl⟩
    refine ⟨(by first | exact trivial | exact trivial), ?_⟩
    refine runJ ?_
    exact fin1 rfl rfl ⟨by simp, E14⟩
  rw [if_pos g, if_pos g']
  refine runJ ?_
  have u14 := u13.ext e14
  have sk14 := sk13.ext e14
  have sq14 := sq13.ext e14
  have vl8 : ∀ {v : Value}, (∀ j, v.ownBlock = some j → j < h8.size) → v.ownBlock = none ∨ v.ownBlock ≠ pblk tr := fun {v} hv => by
    cases hb : v.ownBlock with
    | none => exact .inl rfl
    | some j => exact .inr fun e => by rw [b10] at e; cases e; have := hv _ hb; have := e9.1; omega
  have nuR : u.ownBlock = none ∨ u.ownBlock ≠ pblk tr := vl8 fun j hj => Nat.lt_of_lt_of_le (ou.blk j hj).2 e8.1
  have nqR : vq.ownBlock = none ∨ vq.ownBlock ≠ pblk tr := vl8 fun j hj => Nat.lt_of_lt_of_le (o2.blk j hj).2 (e24.trans (e47.trans e8)).1
  have nkR : ks = [] ∨ (vk.ownBlock = none ∨ vk.ownBlock ≠ pblk tr) := by
    by_cases h0 : 0 < ks.length
    · exact .inr (vl8 fun j hj => Nat.lt_of_lt_of_le (sk4.lt h0 j hj) (e47.trans e8).1)
    · exact .inl (List.eq_nil_of_length_eq_zero (by omega))
  have AR := allR_spec (2 ^ L) (tPar a) (1 + b / 16 % 16) vq u vk tr (qPar a b) ss ks vd8.ownBlock ds9 h14 R14 sq14 nqR u14 nuR hsn hsb sk14 nkR (by omega) hkb (by omega) (by omega) (by omega) (by omega) hqq (by omega) (by omega)
  apply (s_call Tryz_ent14 rfl rfl rfl)
  refine (AR).mono ?_
  rintro r15 h15 ⟨k15, G15⟩
  refine ⟨(by first | exact trivial | exact trivial), ?_⟩
  clear AR
  have hgtr : ∀ j, pblk tr = some j → h.size ≤ j := fun j hj => by rw [b10] at hj; cases hj; exact Nat.le_trans E8.1 e9.1
  have E15 := ext_onlyR E14 k15 hgtr
  have h11s := k11.1
  have x15 := x14.only k15 (by rw [b12, b10]; intro e; have := Option.some.inj e; omega)
  have k15' : Only (some h9.size) h14 h15 := by rw [← b10]; exact k15
  have Tlow : ∀ {ds o}, TapeAt h11 tp Bt ds o → TapeAt h15 tp Bt ds o := fun {ds o} T => (T.ext e1114).only k15 (fun e => ntr e.symm) (fun e => by have := T9.bl _ (e.trans b10); omega)
  have hq0 : ∀ q ∈ qPar a b, 0 < q := fun q hq => by have := hqq q hq; omega
  cases hA : allsG (2 ^ L) (1 + b / 16 % 16) (qPar a b) (ks.length + 1) ds9 with
  | none =>
    rw [hA] at G11 G15
    obtain ⟨rfl, rfl, rfl, rfl, T11⟩ := G11
    obtain ⟨rfl, dso, R15⟩ := G15
    have T15 := Tlow T11
    refine runJ ?_
    (apply s_alloc; exact rfl; exact rfl; exact rfl)
    intro p22 h16 x16 e16 b16
    (try dsimp only [Value.cells, List.toList_toArray] at x16)
    refine ⟨(by first | exact trivial | exact Ext.refl _ | assumption | exact Ext.trans (by assumption) (by assumption)), ?_⟩
    refine runJ ?_
    (apply s_storeV; exact rfl; exact rfl; exact rfl; exact (OneAll.cons rfl (OneAll.cons rfl (OneAll.cons rfl OneAll.nil)) : OneAll [.slice none 0 0, .slice none 0 0, .slice none 0 0]); exact rfl; exact rfl; exact x16; exact rfl)
    intro h17 x17 k17
    refine ⟨trivial, ?_⟩
    have x17 : Var h17 p22 45 [.slice none 0 0, .slice none 0 0, .slice none 0 0] := x17
    have e17 : Ext h15 h17 := k17.oldV e16 b16 (Nat.le_refl _)
    have x1517 := x15.ext e17
    have SN : SwAt h17 0 (.slice none 0 0) [] := ⟨OwnF.nil _ _ _ _, fun x hx => by cases hx⟩
    have SK := sameKeys_spec (.slice none 0 0) (.slice none 0 0) (.slice none 0 0) (.slice none 0 0) (.slice none 0 0) (.slice none 0 0) [] [] [] [] [] [] 0 0 0 0 0 0 h17 SN SN ⟨Own.nil _ _ _ _, fun x hx => by cases hx⟩ SN SN ⟨Own.nil _ _ _ _, fun x hx => by cases hx⟩ rfl rfl rfl (fun p hp => by cases hp) (fun p hp => by cases hp) (by decide) (by decide) (fun t ht => by cases ht) (by decide)
    refine runJ ?_
    apply (s_call Tryz_ent15 rfl rfl rfl)
    refine (SK).mono ?_
    rintro _ h18 ⟨rfl, e18⟩
    refine ⟨(by first | exact trivial | exact trivial), ?_⟩
    have T18 := (T15.ext e17).ext e18
    have R18 := (R15.ext e17).ext e18
    refine runJ ?_
    apply (s_call Tryz_ent13 rfl rfl rfl)
    refine (left_spec tp Bt [] true h18 T18).mono ?_
    rintro _ _ ⟨rfl, rfl⟩
    refine ⟨(by first | exact trivial | exact trivial), ?_⟩
    refine runJ ?_
    apply (s_call Tryz_ent16 rfl rfl rfl)
    refine (leftR_spec tr vd8.ownBlock dso true h18 R18).mono ?_
    rintro _ _ ⟨rfl, rfl⟩
    refine ⟨(by first | exact trivial | exact trivial), ?_⟩
    refine runJ ?_
    exact fin1 rfl rfl ⟨by simp, E15.trans (e17.trans e18)⟩
  | some y =>
    obtain ⟨xss, ds'⟩ := y
    rw [hA] at G11 G15
    obtain ⟨rfl, pB, pA, ts, SB, SA, ST, T11, K1⟩ := G11
    obtain ⟨vB', vA', vT', pB', pA', ts', rfl, SB', SA', ST', R15, K2⟩ := G15
    have T15 := Tlow T11
    obtain ⟨lx, hx⟩ := allsG_len hq0 _ _ _ _ hA
    have hrr := allsG_rows hq0 _ _ _ _ hA
    have hS : ((qPar a b).map (liftL ss)).length = (qPar a b).length := List.length_map ..
    obtain ⟨uB, uA, uT⟩ := keysR_uniq hS lx hx K1 K2
    obtain ⟨⟨rB, rA, lB, lA⟩, rT⟩ := keysR_rows hS lx hx hrr K1
    have bd : ∀ A, RowsLe (qPar a b).length (2 ^ L) A → ∀ p ∈ A, p.length < 1000 ∧ ∀ l ∈ p, l.length < 1000000 := fun A h p hp => ⟨by have := (h p hp).1; omega, fun l hl => by have := (h p hp).2 l hl; omega⟩
    have lpB : pB.length < 1000000 := by unfold polysL at lB; rw [List.length_map] at lB; omega
    have lpA : pA.length < 1000000 := by unfold polysL at lA; rw [List.length_map] at lA; omega
    have lts : ts.length < 1000000 := by have := congrArg List.length K1.2.1; unfold turnsL at this; simp only [List.length_map] at this; omega
    have bT : ∀ t ∈ turnsL ts, (∀ p ∈ t.2.1, p.length < 1000 ∧ ∀ l ∈ p, l.length < 1000000) ∧ (∀ p ∈ t.2.2, p.length < 1000 ∧ ∀ l ∈ p, l.length < 1000000) ∧ t.2.1.length < 1000000 ∧ t.2.2.length < 1000000 := fun t ht => by
      obtain ⟨g1, g2, g3, g4⟩ := rT t ht
      exact ⟨bd _ g1, bd _ g2, by omega, by omega⟩
    have bB := bd _ rB
    have bA := bd _ rA
    have z15 : h10.size ≤ h10.size := Nat.le_refl _
    have SB15 := (SB.ext e1114).low k15' hs10
    have SA15 := (SA.ext e1114).low k15' hs10
    have ST15 := (ST.ext e1114).low k15' hs10
    have o1 := SB'.own.sl.one
    have o2' := SA'.own.sl.one
    have o3 := ST'.own.sl.one
    clear K1 K2 hx hrr rT rB rA
    refine runJ ?_
    (apply s_alloc; exact rfl; exact rfl; exact rfl)
    intro p22 h16 x16 e16 b16
    (try dsimp only [Value.cells, List.toList_toArray] at x16)
    refine ⟨(by first | exact trivial | exact Ext.refl _ | assumption | exact Ext.trans (by assumption) (by assumption)), ?_⟩
    refine runJ ?_
    (apply s_storeV; exact rfl; exact rfl; exact rfl; exact (OneAll.cons o1 (OneAll.cons o2' (OneAll.cons o3 OneAll.nil)) : OneAll [vB', vA', vT']); exact rfl; exact rfl; exact x16; exact rfl)
    intro h17 x17 k17
    refine ⟨trivial, ?_⟩
    have x17 : Var h17 p22 45 [vB', vA', vT'] := x17
    have e17 : Ext h15 h17 := k17.oldV e16 b16 (Nat.le_refl _)
    have x1517 := x15.ext e17
    have SK := sameKeys_spec c1 c2 c3 vB' vA' vT' pB pA pB' pA' ts ts' _ _ _ _ _ _ h17 (SB15.ext e17) (SA15.ext e17) (ST15.ext e17) (SB'.ext e17) (SA'.ext e17) (ST'.ext e17) uB uA uT bB bA lpB lpA bT lts
    refine runJ ?_
    apply (s_call Tryz_ent15 rfl rfl rfl)
    refine (SK).mono ?_
    rintro _ h18 ⟨rfl, e18⟩
    refine ⟨(by first | exact trivial | exact trivial), ?_⟩
    have T18 := (T15.ext e17).ext e18
    have R18 := (R15.ext e17).ext e18
    refine runJ ?_
    apply (s_call Tryz_ent13 rfl rfl rfl)
    refine (left_spec tp Bt ds' false h18 T18).mono ?_
    rintro _ _ ⟨rfl, rfl⟩
    refine ⟨(by first | exact trivial | exact trivial), ?_⟩
    refine runJ ?_
    apply (s_call Tryz_ent16 rfl rfl rfl)
    refine (leftR_spec tr vd8.ownBlock ds' false h18 R18).mono ?_
    rintro _ _ ⟨rfl, rfl⟩
    refine ⟨(by first | exact trivial | exact trivial), ?_⟩
    refine runJ ?_
    exact fin1 rfl rfl ⟨by simp, E15.trans (e17.trans e18)⟩
end Go.Proofs.YtfcmdefigldpnaaGreatDoor

