/- Naturals: a digit of long division of package nat, by contract. No condition. -/
import Derived.Test.YtajgcmgkhmkmbaaDoorNatH
namespace Go.Proofs.YtajgcmgkhmkmbaaDoor
set_option linter.unusedVariables false
set_option maxRecDepth 8000
open Go Go.Den Go.RowKit Go.Dig

section
variable {P : Program} {n : Nat} {Q : Post} {l : Fr} {h : Hp} {ops : List Oper} {Ch : Hp → Prop} {E : Nat → Bool} {i : Nat} {t : TypeId} {x y : Operand}
/-- A window of a row of the call's own. -/
theorem win_sl {α : Type} {f : α → Value} {B : Nat} {e : TypeId} {v vx : Value} {pre ws post : List α} (ho : OwnF h B e f v (pre ++ ws ++ post)) (hv : vx = cutV 1 v pre.length (pre.length + ws.length)) : SlF h f vx ws := by
  have := ho.sl.cut (lo := pre.length) (hi := pre.length + ws.length) (by omega) (by simp)
  rw [hv]
  simpa using this
theorem win_ptr {α : Type} {f : α → Value} {B : Nat} {e : TypeId} {v vx : Value} {pre ws post : List α} (ho : OwnF h B e f v (pre ++ ws ++ post)) (hv : vx = cutV 1 v pre.length (pre.length + ws.length)) {j : Nat} (hj : j < ws.length) : ptrAt vx j = ptrAt v (pre.length + j) := by
  obtain ⟨hl, ⟨rfl, hn⟩ | ⟨g, cap, cur, rfl, hB, hg, hc, hm, hs, ht⟩⟩ := ho
  · simp only [List.length_append] at hn; omega
  · subst hv
    simp only [List.length_append] at hc
    simp [cutV, show cap ≠ pre.length by omega, ptrAt, Addr.add_lit]
theorem s_storeW {α : Type} {f : α → Value} {v vx u : Value} {j B : Nat} {pre ws post : List α} {e : TypeId} (u' : α) (ho : OwnF h B e f v (pre ++ ws ++ post)) (hv : vx = cutV 1 v pre.length (pre.length + ws.length)) (hx : ev l x = some (ptrAt vx j)) (hy : ev l y = some u) (hu : f u' = u) (ht : (P.info? t).map (·.size) = some 1) (hE : E i = true) (h1 : u.oneCell' = true) (hj : j < ws.length)
    (k : ∀ h', OwnF h' B e f v (pre ++ ws.set j u' ++ post) → Only v.ownBlock h h' → Ch h' ∧ S P n ops Ch E Q (i + 1) l h') : O0 P n ops Ch E Q i (.store t x y) l h :=
  s_storeF u' (by rw [hx, win_ptr ho hv hj]) hy hu ht hE ho h1 (by simp; omega) fun h' g1 g2 => k h' (by
    rw [List.append_assoc, List.set_append_right _ _ (by omega), Nat.add_sub_cancel_left, List.set_append_left _ _ hj, ← List.append_assoc] at g1
    exact g1) g2
end

/-- One word of what is taken away. -/
theorem sub_word {g y c x bo : Nat} (hg : g < 18446744073709551616) (hy : y < 18446744073709551616) (hc : c < 18446744073709551616) (hx : x < 18446744073709551616) (hb : bo ≤ 1) :
    g * y / 18446744073709551616 + (g * y % 18446744073709551616 + c) / 18446744073709551616 < 18446744073709551616 ∧
    (x + 18446744073709551616 - (g * y % 18446744073709551616 + c) % 18446744073709551616 - bo) % 18446744073709551616 < 18446744073709551616 ∧
    (if x < (g * y % 18446744073709551616 + c) % 18446744073709551616 + bo then 1 else 0) ≤ 1 ∧
    (x + 18446744073709551616 - (g * y % 18446744073709551616 + c) % 18446744073709551616 - bo) % 18446744073709551616 + g * y + c + bo =
      x + 18446744073709551616 * (if x < (g * y % 18446744073709551616 + c) % 18446744073709551616 + bo then 1 else 0) + 18446744073709551616 * (g * y / 18446744073709551616 + (g * y % 18446744073709551616 + c) / 18446744073709551616) := by
  have hgy : g * y ≤ 18446744073709551615 * 18446744073709551615 := Nat.mul_le_mul (by omega) (by omega)
  generalize g * y = p at *
  refine ⟨by omega, by omega, by split <;> omega, ?_⟩
  split <;> omega
theorem sub_word2 {c x bo : Nat} (hc : c < 18446744073709551616) (hx : x < 18446744073709551616) (hb : bo ≤ 1) :
    (x + 18446744073709551616 - c - bo) % 18446744073709551616 < 18446744073709551616 ∧ (if x < c + bo then 1 else 0) ≤ 1 ∧
    (x + 18446744073709551616 - c - bo) % 18446744073709551616 + c + bo = x + 18446744073709551616 * (if x < c + bo then 1 else 0) := by
  refine ⟨by omega, by split <;> omega, ?_⟩
  split <;> omega

theorem Tryd_ent74 : Ent Tryd.prog 74 := ent_of Tryd.func74 (by kernel_rfl) rfl
set_option maxHeartbeats 4000000 in
theorem digit_spec (x0 vx vy : Value) (pre ws0 post ys : List Nat) (n B : Nat) (h : Hp) (ho : OwnF h B 31 U x0 (pre ++ ws0 ++ post)) (hvx : vx = cutV 1 x0 pre.length (pre.length + ws0.length)) (hy : SlF h U vy ys) (hne : vy.ownBlock = none ∨ vy.ownBlock ≠ x0.ownBlock)
    (hw : Al 18446744073709551616 ws0) (hya : Al 18446744073709551616 ys) (hwl : ws0.length = n + 3) (hyl : ys.length = n + 2) (hn : n < 1099511627776) (h0 : 0 < ys.getD (n + 1) 0) (hlt : vl 18446744073709551616 ws0 < vl 18446744073709551616 ys * 18446744073709551616) :
    CallsH Tryd.prog 74 [vx, vy] h fun v' h' => v' = U (vl 18446744073709551616 ws0 / vl 18446744073709551616 ys) ∧ Only x0.ownBlock h h' ∧ ∃ ws, ws.length = n + 3 ∧ Al 18446744073709551616 ws ∧ vl 18446744073709551616 ws = vl 18446744073709551616 ws0 % vl 18446744073709551616 ys ∧ OwnF h' B 31 U x0 (pre ++ ws ++ post) := by
  obtain ⟨gf1, gf2⟩ := guess_facts (b := 18446744073709551616) (by omega) hw hwl hyl h0
  have sx := win_sl ho hvx
  have hY0 : 0 < vl 18446744073709551616 ys := by omega
  have hql : vl 18446744073709551616 ws0 / vl 18446744073709551616 ys < 18446744073709551616 := (Nat.div_lt_iff_lt_mul hY0).2 (by rw [Nat.mul_comm]; exact hlt)
  generalize hX : vl 18446744073709551616 ws0 = X at *
  generalize hY : vl 18446744073709551616 ys = Y at *
  generalize hq : X / Y = q at *
  (apply enter Tryd.func74 rfl Tryd.ntmps74 rfl)
  refine runM ?_
  rw [hyl, show n + 2 - 1 = n + 1 from rfl]
  have hyt := hya.getD (by omega) (n + 1)
  have hy2 := hya.getD (by omega) n
  have hx2 := hw.getD (by omega) n
  have hx1 := hw.getD (by omega) (n + 1)
  apply (w_tcut (σ := Nat) (fun g => [(0, vx), (1, vy), (5, N (n + 2)), (6, U g)]) (fun g h' => h = h' ∧ q ≤ g ∧ g < 18446744073709551616))
  · (apply w_condD; exact rfl; exact rfl) <;> intro hc
    · generalize hyd : ys.getD (n + 1) 0 = yt at *
      generalize hxd1 : ws0.getD (n + 1) 0 = x1 at *
      generalize hxd2 : ws0.getD (n + 2) 0 = x2 at *
      refine runM ?_
      rw [show n + 2 - 1 = n + 1 from rfl, hyd, hxd1, hxd2]
      apply (s_call Tryd_ent86 rfl rfl rfl)
      refine (div64_spec x2 x1 yt h hc hx1 hyt).mono ?_
      rintro _ _ ⟨rfl, rfl⟩
      refine ⟨(by first | exact trivial | exact Ext.refl _ | assumption | exact Ext.trans (by assumption) (by assumption)), ?_⟩
      have hdm := Nat.div_add_mod (x2 * 18446744073709551616 + x1) yt
      have hml : (x2 * 18446744073709551616 + x1) % yt < yt := Nat.mod_lt _ (by omega)
      have hql2 : (x2 * 18446744073709551616 + x1) / yt < 18446744073709551616 := Num.digit_lt hx1 hc
      rw [Nat.mul_comm] at hdm
      generalize hX2 : x2 * 18446744073709551616 + x1 = X2 at *
      generalize X2 / yt = g0 at *
      generalize X2 % yt = r0 at *
      refine runM ?_
      (first | (apply w_seqB; exact rfl; apply w_block; exact rfl) | skip)
      apply (w_loop (σ := Nat × Nat) rfl (fun p => [(0, vx), (1, vy), (5, N (n + 2)), (6, U p.1), (7, U p.2)])
        (fun p h' => h = h' ∧ q ≤ p.1 ∧ p.1 < 18446744073709551616 ∧ p.1 * yt + p.2 = X2 ∧ p.2 < 18446744073709551616) (fun p => p.1) (g0, r0))
      · exact (Sub.cons rfl (Sub.cons rfl (Sub.cons rfl (Sub.cons rfl (Sub.cons rfl (Sub.nil _))))))
      · exact ⟨rfl, gf1, hql2, hdm, by simp only []; omega⟩
      · rintro ⟨g, r⟩ _ ⟨rfl, i1, i2, i3, i4⟩
        dsimp only at i1 i2 i3 i4 ⊢
        refine runM ?_
        rw [show n + 2 - 2 = n from rfl]
        generalize hyd2 : ys.getD n 0 = y2 at *
        apply (s_call Tryd_ent82 rfl rfl rfl)
        refine (mul64_spec g y2 h i2 hy2).mono ?_
        rintro _ _ ⟨rfl, rfl⟩
        refine ⟨(by first | exact trivial | exact Ext.refl _ | assumption | exact Ext.trans (by assumption) (by assumption)), ?_⟩
        have hgy := Nat.div_add_mod (g * y2) 18446744073709551616
        have hgm := Nat.mod_lt (g * y2) (show 0 < 18446744073709551616 by omega)
        have gf := gf2 g r i3
        generalize g * y2 = gy at *
        generalize gy / 18446744073709551616 = gh at *
        generalize gy % 18446744073709551616 = gl at *
        have hsxl : n + 2 - 2 < ws0.length := by omega
        refine runM ?_
        (apply s_splitG; exact rfl; exact rfl; exact rfl; exact rfl) <;> intro c1
        · refine runM ?_
          apply cut_normal g
          · exact (Sub.cons rfl (Sub.cons rfl (Sub.cons rfl (Sub.cons rfl (Sub.nil _)))))
          · exact ⟨rfl, i1, i2⟩
        · refine runM ?_
          (apply s_splitG; exact rfl; exact rfl; exact rfl; exact rfl) <;> intro c2
          · refine runM ?_
            rw [show n + 2 - 2 = n from rfl]
            (apply w_condD; exact rfl; exact rfl) <;> intro c3
            · refine runM ?_
              apply cut_normal g
              · exact (Sub.cons rfl (Sub.cons rfl (Sub.cons rfl (Sub.cons rfl (Sub.nil _)))))
              · exact ⟨rfl, i1, i2⟩
            · have hgt : q < g := gf (by omega)
              have hg1 : 1 ≤ g := by omega
              have hmul : (g - 1) * yt + (r + yt) = X2 := by
                rw [← i3, Nat.sub_mul, Nat.one_mul]
                have := Nat.mul_le_mul_right yt hg1
                rw [Nat.one_mul] at this
                omega
              have hyl2 : n + 2 - 1 < ys.length := by omega
              refine runM ?_
              by_cases hov : r + yt < 18446744073709551616
              · rw [show n + 2 - 1 = n + 1 from rfl, hyd]
                refine runM ?_
                rw [show n + 2 - 1 = n + 1 from rfl, hyd]
                (apply w_condF; exact rfl; exact rfl; exact (by omega))
                refine runM ?_
                apply again_normal (g - 1, r + yt)
                · exact (Sub.cons rfl (Sub.cons rfl (Sub.cons rfl (Sub.cons rfl (Sub.cons rfl (Sub.nil _))))))
                · exact ⟨rfl, by simp only []; omega, by simp only []; omega, hmul, hov⟩
                · simp only []; omega
              · rw [show n + 2 - 1 = n + 1 from rfl, hyd]
                (apply s_addUw; (first | exact isK_c | exact isK_t rfl); (first | exact isK_c | exact isK_t rfl); exact rfl)
                refine runM ?_
                rw [show n + 2 - 1 = n + 1 from rfl, hyd]
                (apply w_condT; exact rfl; exact rfl; exact (by omega))
                refine runM ?_
                apply cut_normal (g - 1)
                · exact (Sub.cons rfl (Sub.cons rfl (Sub.cons rfl (Sub.cons rfl (Sub.nil _)))))
                · exact ⟨rfl, by omega, by omega⟩
          · have hgt : q < g := gf (by omega)
            have hg1 : 1 ≤ g := by omega
            have hmul : (g - 1) * yt + (r + yt) = X2 := by
              rw [← i3, Nat.sub_mul, Nat.one_mul]
              have := Nat.mul_le_mul_right yt hg1
              rw [Nat.one_mul] at this
              omega
            have hyl2 : n + 2 - 1 < ys.length := by omega
            refine runM ?_
            by_cases hov : r + yt < 18446744073709551616
            · rw [show n + 2 - 1 = n + 1 from rfl, hyd]
              refine runM ?_
              rw [show n + 2 - 1 = n + 1 from rfl, hyd]
              (apply w_condF; exact rfl; exact rfl; exact (by omega))
              refine runM ?_
              apply again_normal (g - 1, r + yt)
              · exact (Sub.cons rfl (Sub.cons rfl (Sub.cons rfl (Sub.cons rfl (Sub.cons rfl (Sub.nil _))))))
              · exact ⟨rfl, by simp only []; omega, by simp only []; omega, hmul, hov⟩
              · simp only []; omega
            · rw [show n + 2 - 1 = n + 1 from rfl, hyd]
              (apply s_addUw; (first | exact isK_c | exact isK_t rfl); (first | exact isK_c | exact isK_t rfl); exact rfl)
              refine runM ?_
              rw [show n + 2 - 1 = n + 1 from rfl, hyd]
              (apply w_condT; exact rfl; exact rfl; exact (by omega))
              refine runM ?_
              apply cut_normal (g - 1)
              · exact (Sub.cons rfl (Sub.cons rfl (Sub.cons rfl (Sub.cons rfl (Sub.nil _)))))
              · exact ⟨rfl, by omega, by omega⟩
    · refine runM ?_
      apply cut_normal 18446744073709551615
      · exact (Sub.cons rfl (Sub.cons rfl (Sub.cons rfl (Sub.cons rfl (Sub.nil _)))))
      · exact ⟨rfl, by omega, by omega⟩
  · rintro g0 _ ⟨rfl, hge, hg⟩
    clear gf1 gf2 hyt hy2 hx2 hx1
    refine runM ?_
    rw [hyl]
    (first | (apply w_seqB; exact rfl; apply w_block; exact rfl) | skip)
    apply (w_loop (σ := Nat × Nat × Nat × List Nat) rfl (fun p => [(0, vx), (1, vy), (5, N (n + 2)), (6, U g0), (92, vy), (93, N (n + 2)), (94, N p.1), (10, U p.2.1), (11, U p.2.2.1)])
      (fun p h' => OwnF h' B 31 U x0 (pre ++ p.2.2.2 ++ post) ∧ Only x0.ownBlock h h' ∧ p.2.2.2.length = n + 3 ∧ p.1 ≤ n + 2 ∧ Al 18446744073709551616 p.2.2.2 ∧ p.2.1 < 18446744073709551616 ∧ p.2.2.1 ≤ 1 ∧
        pv 18446744073709551616 p.2.2.2 p.1 + g0 * pv 18446744073709551616 ys p.1 = pv 18446744073709551616 ws0 p.1 + 18446744073709551616 ^ p.1 * (p.2.2.1 + p.2.1) ∧ ∀ j, p.1 ≤ j → p.2.2.2.getD j 0 = ws0.getD j 0) (fun p => n + 2 - p.1) (0, 0, 0, ws0))
    · exact (Sub.cons rfl (Sub.cons rfl (Sub.cons rfl (Sub.cons rfl (Sub.cons rfl (Sub.cons rfl (Sub.cons rfl (Sub.cons rfl (Sub.cons rfl (Sub.nil _))))))))))
    · exact ⟨ho, Only.refl _ _, hwl, by simp only []; omega, hw, by simp only []; omega, by simp only []; omega, by simp [pv], fun _ _ => rfl⟩
    · rintro ⟨i, c, bo, ws⟩ h1 ⟨o1, k1, i1, i2, i3, i4, i5, i6, i7⟩
      dsimp only at o1 k1 i1 i2 i3 i4 i5 i6 i7 ⊢
      have hy1 := hy.only k1 hne
      have sx1 := win_sl o1 (hvx.trans (by rw [hwl, i1]))
      refine runM ?_
      (apply w_condD; exact rfl; exact rfl) <;> intro hi
      · have hyi := hya.getD (by omega) i
        have hwi := i3.getD (by omega) i
        have hoe := i7 i (Nat.le_refl _)
        refine runM ?_
        generalize hyd : ys.getD i 0 = y at *
        apply (s_call Tryd_ent82 rfl rfl rfl)
        refine (mul64_spec g0 y h1 hg hyi).mono ?_
        rintro _ _ ⟨rfl, rfl⟩
        refine ⟨(by first | exact trivial | exact Ext.refl _ | assumption | exact Ext.trans (by assumption) (by assumption)), ?_⟩
        have hsb := sub_word hg hyi i4 hwi i5
        have hgy := Nat.mod_lt (g0 * y) (show 0 < 18446744073709551616 by omega)
        obtain ⟨hs1, hs2, hs3, hs4⟩ := hsb
        generalize g0 * y / 18446744073709551616 = gh at *
        generalize g0 * y % 18446744073709551616 = gl at *
        refine runM ?_
        apply (s_extern (add64_run gl c 0 (by omega) hgy i4) rfl rfl)
        simp only [Nat.add_zero]
        have hlo := Nat.mod_lt (gl + c) (show 0 < 18446744073709551616 by omega)
        generalize (gl + c) % 18446744073709551616 = lo at *
        generalize (gl + c) / 18446744073709551616 = d at *
        refine runM ?_
        apply (s_extern (sub64_run _ lo bo i5) rfl rfl)
        generalize hxw : (ws.getD i 0 + 18446744073709551616 - lo - bo) % 18446744073709551616 = xw at *
        generalize (if ws.getD i 0 < lo + bo then 1 else 0) = bw at *
        refine runM ?_
        (apply (s_storeW (xw) o1 (hvx.trans (by rw [hwl, i1]))); exact rfl; exact rfl; exact rfl; exact rfl; exact rfl; exact rfl; (first | assumption | omega))
        intro h2 o2 k2
        refine ⟨(by first | exact trivial | exact Ext.refl _ | assumption | exact Ext.trans (by assumption) (by assumption)), ?_⟩
        refine runM ?_
        apply again_normal (i + 1, gh + d, bw, ws.set i xw)
        · exact (Sub.cons rfl (Sub.cons rfl (Sub.cons rfl (Sub.cons rfl (Sub.cons rfl (Sub.cons rfl (Sub.cons rfl (Sub.cons rfl (Sub.cons rfl (Sub.nil _))))))))))
        · refine ⟨o2, k1.trans k2, by simp [i1], hi, i3.set hs2 _, hs1, hs3, ?_, fun j hj => ?_⟩
          · simp only [pv]
            rw [pv_set (Nat.le_refl _), getD_set_self (by omega), Nat.pow_succ, hyd, ← hoe]
            exact Dig.sub_step i6 hs4
          · simp only [] at hj ⊢
            rw [getD_set_other (by omega)]; exact i7 j (by omega)
        · simp only []; omega
      · obtain rfl : i = n + 2 := by omega
        have hwi := i3.getD (by omega) (n + 2)
        have hoe := i7 (n + 2) (Nat.le_refl _)
        obtain ⟨hs2, hs3, hs4⟩ := sub_word2 i4 hwi i5
        have hlast := sub_last i6 hs4
        rw [pv_full (xs := ys) (by omega), hY] at hlast
        refine runM ?_
        apply (s_extern (sub64_run _ c bo i5) rfl rfl)
        generalize hxw : (ws.getD (n + 2) 0 + 18446744073709551616 - c - bo) % 18446744073709551616 = xw at *
        generalize (if ws.getD (n + 2) 0 < c + bo then 1 else 0) = bw at *
        refine runM ?_
        (apply (s_storeW (xw) o1 (hvx.trans (by rw [hwl, i1]))); exact rfl; exact rfl; exact rfl; exact rfl; exact rfl; exact rfl; (first | assumption | omega))
        intro h2 o2 k2
        refine ⟨(by first | exact trivial | exact Ext.refl _ | assumption | exact Ext.trans (by assumption) (by assumption)), ?_⟩
        have hP : pv 18446744073709551616 ws0 (n + 2) + 18446744073709551616 ^ (n + 2) * ws.getD (n + 2) 0 = X := by
          rw [hoe, ← hX, ← pv_full (xs := ws0) (k := n + 3) (by omega)]; rfl
        have hZ : pv 18446744073709551616 ws (n + 2) + 18446744073709551616 ^ (n + 2) * xw = vl 18446744073709551616 (ws.set (n + 2) xw) := by
          rw [← pv_full (xs := ws.set (n + 2) xw) (k := n + 3) (by simp; omega)]
          show _ = pv 18446744073709551616 (ws.set (n + 2) xw) (n + 2) + 18446744073709551616 ^ (n + 2) * (ws.set (n + 2) xw).getD (n + 2) 0
          rw [pv_set (Nat.le_refl _), getD_set_self (by omega)]
        rw [hP, hZ, ← Nat.pow_succ] at hlast
        have k2 := k1.trans k2
        have a2 : Al 18446744073709551616 (ws.set (n + 2) xw) := i3.set hs2 _
        have l2 : (ws.set (n + 2) xw).length = n + 3 := by simp [i1]
        clear hP hZ hs4 hxw hoe hwi i6 i7 sx1 hy1 k1 o1 i3 i1
        generalize ws.set (n + 2) xw = zs at *
        refine runM ?_
        (first | (apply w_seqB; exact rfl; apply w_block; exact rfl) | skip)
        apply (w_loop (σ := Nat × Nat × List Nat) rfl (fun p => [(0, vx), (1, vy), (5, N (n + 2)), (6, U p.1), (11, U p.2.1)])
          (fun p h' => OwnF h' B 31 U x0 (pre ++ p.2.2 ++ post) ∧ Only x0.ownBlock h h' ∧ p.2.2.length = n + 3 ∧ Al 18446744073709551616 p.2.2 ∧ p.1 < 18446744073709551616 ∧ p.2.1 ≤ 1 ∧ q ≤ p.1 ∧
            vl 18446744073709551616 p.2.2 + p.1 * Y = X + 18446744073709551616 ^ (n + 3) * p.2.1) (fun p => p.1) (g0, bw, zs))
        · exact (Sub.cons rfl (Sub.cons rfl (Sub.cons rfl (Sub.cons rfl (Sub.cons rfl (Sub.nil _))))))
        · exact ⟨o2, k2, l2, a2, hg, hs3, hge, hlast⟩
        · rintro ⟨g, bo, zs⟩ h3 ⟨o3, k3, i1, i2, i3, i4, i5, i6⟩
          dsimp only at o3 k3 i1 i2 i3 i4 i5 i6 ⊢
          refine runM ?_
          (apply w_condD; exact rfl; exact rfl) <;> intro hb
          · obtain rfl : bo = 1 := by omega
            have hvl := vl_lt i2
            rw [i1] at hvl
            have hgt := back_lt i6 hvl hY0
            rw [hq] at hgt
            have hg1 : 1 ≤ g := by omega
            have hy3 := hy.only k3 hne
            refine runM ?_
            rw [hyl]
            (first | (apply w_seqB; exact rfl; apply w_block; exact rfl) | skip)
            apply (w_loop (σ := Nat × Nat × List Nat) rfl (fun p => [(0, vx), (1, vy), (5, N (n + 2)), (6, U (g - 1)), (11, U 1), (145, vy), (146, N (n + 2)), (147, N p.1), (10, U p.2.1)])
              (fun p h' => OwnF h' B 31 U x0 (pre ++ p.2.2 ++ post) ∧ Only x0.ownBlock h h' ∧ p.2.2.length = n + 3 ∧ p.1 ≤ n + 2 ∧ Al 18446744073709551616 p.2.2 ∧ p.2.1 ≤ 1 ∧
                pv 18446744073709551616 p.2.2 p.1 + 18446744073709551616 ^ p.1 * p.2.1 = pv 18446744073709551616 zs p.1 + pv 18446744073709551616 ys p.1 ∧ ∀ j, p.1 ≤ j → p.2.2.getD j 0 = zs.getD j 0) (fun p => n + 2 - p.1) (0, 0, zs))
            · exact (Sub.cons rfl (Sub.cons rfl (Sub.cons rfl (Sub.cons rfl (Sub.cons rfl (Sub.cons rfl (Sub.cons rfl (Sub.cons rfl (Sub.cons rfl (Sub.nil _))))))))))
            · exact ⟨o3, k3, i1, by simp only []; omega, i2, by simp only []; omega, by simp [pv], fun _ _ => rfl⟩
            · rintro ⟨i, c, ws⟩ h4 ⟨o4, k4, j1, j2, j3, j4, j5, j6⟩
              dsimp only at o4 k4 j1 j2 j3 j4 j5 j6 ⊢
              have hy4 := hy.only k4 hne
              have sx4 := win_sl o4 (hvx.trans (by rw [hwl, j1]))
              refine runM ?_
              (apply w_condD; exact rfl; exact rfl) <;> intro hi
              · have hyi := hya.getD (by omega) i
                have hwi := j3.getD (by omega) i
                have hoe := j6 i (Nat.le_refl _)
                have hst := add_step (b := 18446744073709551616) (x := ws.getD i 0) (y := ys.getD i 0) j5
                refine runM ?_
                generalize hyd : ys.getD i 0 = y at *
                apply (s_extern (add64_run (ws.getD i 0) y c j4 hwi hyi) rfl rfl)
                have hs2 := Num.modW (ws.getD i 0 + y + c)
                have hs3 : (ws.getD i 0 + y + c) / 18446744073709551616 ≤ 1 := by omega
                generalize (ws.getD i 0 + y + c) % 18446744073709551616 = xw at *
                generalize (ws.getD i 0 + y + c) / 18446744073709551616 = c' at *
                refine runM ?_
                (apply (s_storeW (xw) o4 (hvx.trans (by rw [hwl, j1]))); exact rfl; exact rfl; exact rfl; exact rfl; exact rfl; exact rfl; (first | assumption | omega))
                intro h5 o5 k5
                refine ⟨(by first | exact trivial | exact Ext.refl _ | assumption | exact Ext.trans (by assumption) (by assumption)), ?_⟩
                refine runM ?_
                apply again_normal (i + 1, c', ws.set i xw)
                · exact (Sub.cons rfl (Sub.cons rfl (Sub.cons rfl (Sub.cons rfl (Sub.cons rfl (Sub.cons rfl (Sub.cons rfl (Sub.cons rfl (Sub.cons rfl (Sub.nil _))))))))))
                · refine ⟨o5, k4.trans k5, by simp [j1], hi, j3.set hs2 _, hs3, ?_, fun j hj => ?_⟩
                  · simp only [pv]
                    rw [pv_set (Nat.le_refl _), getD_set_self (by omega), Nat.pow_succ, hyd, ← hoe]
                    exact hst
                  · simp only [] at hj ⊢
                    rw [getD_set_other (by omega)]; exact j6 j (by omega)
                · simp only []; omega
              · obtain rfl : i = n + 2 := by omega
                have hwi := j3.getD (by omega) (n + 2)
                have hoe := j6 (n + 2) (Nat.le_refl _)
                have hst := add_step (b := 18446744073709551616) (x := ws.getD (n + 2) 0) (y := 0) j5
                rw [pv_full (xs := ys) (by omega), hY, Nat.mul_zero, Nat.add_zero Y] at hst
                refine runM ?_
                apply (s_extern (add64_run (ws.getD (n + 2) 0) 0 c j4 hwi (by omega)) rfl rfl)
                have hs2 := Num.modW (ws.getD (n + 2) 0 + 0 + c)
                have hs3 : (ws.getD (n + 2) 0 + 0 + c) / 18446744073709551616 ≤ 1 := by omega
                generalize (ws.getD (n + 2) 0 + 0 + c) % 18446744073709551616 = xw at *
                generalize (ws.getD (n + 2) 0 + 0 + c) / 18446744073709551616 = c' at *
                refine runM ?_
                (apply (s_storeW (xw) o4 (hvx.trans (by rw [hwl, j1]))); exact rfl; exact rfl; exact rfl; exact rfl; exact rfl; exact rfl; (first | assumption | omega))
                intro h5 o5 k5
                refine ⟨(by first | exact trivial | exact Ext.refl _ | assumption | exact Ext.trans (by assumption) (by assumption)), ?_⟩
                have hP : pv 18446744073709551616 zs (n + 2) + 18446744073709551616 ^ (n + 2) * ws.getD (n + 2) 0 = vl 18446744073709551616 zs := by
                  rw [hoe, ← pv_full (xs := zs) (k := n + 3) (by omega)]; rfl
                have hZ : pv 18446744073709551616 ws (n + 2) + 18446744073709551616 ^ (n + 2) * xw = vl 18446744073709551616 (ws.set (n + 2) xw) := by
                  rw [← pv_full (xs := ws.set (n + 2) xw) (k := n + 3) (by simp; omega)]
                  show _ = pv 18446744073709551616 (ws.set (n + 2) xw) (n + 2) + 18446744073709551616 ^ (n + 2) * (ws.set (n + 2) xw).getD (n + 2) 0
                  rw [pv_set (Nat.le_refl _), getD_set_self (by omega)]
                rw [hP, hZ, ← Nat.pow_succ] at hst
                have hbk := back_step i6 hst hs3 hg1
                refine runM ?_
                apply again_normal (g - 1, 1 - c', ws.set (n + 2) xw)
                · exact (Sub.cons rfl (Sub.cons rfl (Sub.cons rfl (Sub.cons rfl (Sub.cons rfl (Sub.nil _))))))
                · exact ⟨o5, k4.trans k5, by simp [j1], j3.set hs2 _, by simp only []; omega, by simp only []; omega, by simp only []; omega, hbk⟩
                · simp only []; omega
          · obtain rfl : bo = 0 := by omega
            rw [← hq] at i5
            obtain ⟨f1, f2⟩ := digit_end i6 i5 hY0
            refine runM ?_
            exact fin1 rfl rfl ⟨by rw [f1, hq], k3, zs, i1, i2, f2, o3⟩
end Go.Proofs.YtajgcmgkhmkmbaaDoor
