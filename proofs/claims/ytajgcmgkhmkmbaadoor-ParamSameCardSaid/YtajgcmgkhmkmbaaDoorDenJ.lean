/- Own calculus, part J: append of one element whose like may be of any kind. No condition. -/
import Derived.Test.YtajgcmgkhmkmbaaDoorDenI
namespace Go.Den
set_option linter.unusedVariables false
set_option maxRecDepth 8000
open Go Go.RowKit
section
variable {P : Program} {n : Nat} {Q : Post} {l : Fr} {h : Hp} {ops : List Oper} {Ch : Hp → Prop} {E : Nat → Bool} {i : Nat}
variable {d : Nat} {t : TypeId} {x y z : Operand} {yt : TypeId}
/-- append of one element, which is laid in a row of its own first. -/
theorem s_app1V {α : Type} {f : α → Value} {h0 : Hp} {xs : List α} {v : Value} {e : TypeId} (a : α) (own : OwnF h h0.size e f v xs) (ext : Ext h0 h) {d1 d2 bytes : Nat} {z0 : Value} {ty2 : TypeId} {ps2 : String} {af2 : Array Edge}
    (ho2 : opAt ops (i + 1) = some ⟨some d2, .call ⟨.builtin .append, #[x, .tmp d1], #[t, t]⟩, ty2, ps2, af2, none⟩)
    (hb1 : Nat.blt d1 n = true) (hb2 : Nat.blt d2 n = true) (hn : look l d1 = none) (ht : P.underlying t = some (.slice e)) (hi : (P.info? e).map (fun i => (i.size, i.bytes, i.zero)) = some (1, bytes, some z0)) (hz1 : z0.oneCell' = true)
    (hx : ev ((d1, undef) :: l) x = some v) (hx' : ev l x = some v) (hz : ev l z = some (f a)) (h1 : (f a).oneCell' = true) (hE1 : E i = true) (hE2 : E (i + 1) = true) (hC : ∀ h', Ext h0 h' → Ch h')
    (hby : (xs.length + 1) * bytes ≤ 140737488355328) (h63 : xs.length + 1 ≤ maxLen)
    (k : ∀ v' h', OwnF h' h0.size e f v' (xs ++ [a]) → Ext h0 h' → Only v.ownBlock h h' → (v'.ownBlock = v.ownBlock ∨ ∃ b, v'.ownBlock = some b ∧ h.size ≤ b) → S P n ops Ch E Q (i + 2) ((d2, v') :: l) h') : O P n ops Ch E Q i d1 (.buildSlice t 1 #[(0, z)]) l h := by
  refine (s_lit [a] (vs := [f a]) (by simp only [List.map_cons, List.map_nil, evs, hz]) rfl rfl rfl ht hi (by simpa using h1) hz1 hE1 hb1 (by omega) fun u ha o1 e1 _ => ⟨hC _ (ext.trans e1), ?_⟩)
  have hxu : ev ((d1, u) :: l) x = some v := by
    cases x with
    | tmp t =>
      simp only [ev, look] at hx hx' ⊢
      cases ht : Nat.beq t d1 with
      | true => have := Nat.eq_of_beq_eq_true ht; subst this; rw [hn] at hx'; cases hx'
      | false => exact hx'
    | const c => exact hx'
    | global c => exact hx'
    | func c => exact hx'
  have hsz := ext_size e1
  have hsz0 := ext_size ext
  refine s_op ho2 rfl (s_append (s := 1) (m := xs.length) (k' := 1) (cs := xs.map f) (news := [a].map f) hxu (show ev ((d1, u) :: l) (.tmp d1) = some u by simp only [ev, look, Nat.beq_refl, cond_true]) ht hi (by cases z0 <;> first | rfl | cases hz1) Nat.zero_lt_one hE2 hb2 (own.ext e1) o1.sl (by simp) (by simpa using h1) (by omega) h63 hby fun v' h' o2' k2 b2 => ?_)
  have o2 : OwnF h' h0.size e f v' (xs ++ [a]) := by unfold OwnF; rw [List.length_append, List.map_append]; exact o2'
  have ext2 : Ext h0 h' := (own.ext e1).old k2 (ext.trans e1) (Nat.le_refl _)
  refine ⟨hC _ ext2, s_sub (l' := (d2, v') :: l) ?_ (k v' h' o2 ext2 ((e1.only _).trans k2) ?_)⟩
  · intro j w hw
    simp only [look] at hw ⊢
    cases hj : Nat.beq j d2 with
    | true => rw [hj] at hw; exact hw
    | false =>
      rw [hj] at hw
      simp only [cond_false] at hw ⊢
      cases hj1 : Nat.beq j d1 with
      | true => have := Nat.eq_of_beq_eq_true hj1; subst this; rw [hn] at hw; cases hw
      | false => exact hw
  · rcases b2 with b2 | ⟨b, hb, hlt⟩
    · exact .inl b2
    · exact .inr ⟨b, hb, by omega⟩
end
end Go.Den
