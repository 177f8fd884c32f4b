/- Texts NatI to NatK of this work, joined, without what the law does not lean on. -/
import Derived.Test.YtfcmdefigldpnaaGreatDoorMCb9
namespace Go.Proofs.YtfcmdefigldpnaaGreatDoor
set_option linter.unusedVariables false
set_option maxRecDepth 8000
open Go Go.Den Go.RowKit Go.Dig

section
variable {P : Program} {n : Nat} {Q : Post} {l : Fr} {h : Hp} {ops : List Oper} {Ch : Hp → Prop} {E : Nat → Bool} {i : Nat} {t : TypeId} {x y : Operand}
theorem win_sl {α : Type} {f : α → Value} {B : Nat} {e : TypeId} {v vx : Value} {pre ws post : List α} (ho : OwnF h B e f v (pre ++ ws ++ post)) (hv : vx = cutV 1 v pre.length (pre.length + ws.length)) : SlF h f vx ws := by
  have := ho.sl.cut (lo := pre.length) (hi := pre.length + ws.length) (by omega) (by simp)
  rw [hv]
  simpa using this
theorem win_ptr {α : Type} {f : α → Value} {B : Nat} {e : TypeId} {v vx : Value} {pre ws post : List α} (ho : OwnF h B e f v (pre ++ ws ++ post)) (hv : vx = cutV 1 v pre.length (pre.length + ws.length)) {j : Nat} (hj : j < ws.length) : ptrAt vx j = ptrAt v (pre.length + j) := by
  obtain ⟨hl, ⟨rfl, hn⟩ | ⟨g, cap, cur, rfl, hB, hg, hc, hm, hs, ht⟩⟩ := ho
  · simp only [List.length_append] at hn; omega
  · subst hv
    simp only [List.length_append] at hc
    simp [cutV, show cap ≠ pre.length by omega, ptrAt, Addr.add_lit]
theorem s_storeW {α : Type} {f : α → Value} {v vx u : Value} {j B : Nat} {pre ws post : List α} {e : TypeId} (u' : α) (ho : OwnF h B e f v (pre ++ ws ++ post)) (hv : vx = cutV 1 v pre.length (pre.length + ws.length)) (hx : ev l x = some (ptrAt vx j)) (hy : ev l y = some u) (hu : f u' = u) (ht : (P.info? t).map (·.size) = some 1) (hE : E i = true) (h1 : u.oneCell' = true) (hj : j < ws.length)
    (k : ∀ h', OwnF h' B e f v (pre ++ ws.set j u' ++ post) → Only v.ownBlock h h' → Ch h' ∧ S P n ops Ch E Q (i + 1) l h') : O0 P n ops Ch E Q i (.store t x y) l h :=
  s_storeF u' (by rw [hx, win_ptr ho hv hj]) hy hu ht hE ho h1 (by simp; omega) fun h' g1 g2 => k h' (by
    rw [List.append_assoc, List.set_append_right _ _ (by omega), Nat.add_sub_cancel_left, List.set_append_left _ _ hj, ← List.append_assoc] at g1
    exact g1) g2
end

theorem sub_word {g y c x bo : Nat} (hg : g < 18446744073709551616) (hy : y < 18446744073709551616) (hc : c < 18446744073709551616) (hx : x < 18446744073709551616) (hb : bo ≤ 1) :
    g * y / 18446744073709551616 + (g * y % 18446744073709551616 + c) / 18446744073709551616 < 18446744073709551616 ∧
    (x + 18446744073709551616 - (g * y % 18446744073709551616 + c) % 18446744073709551616 - bo) % 18446744073709551616 < 18446744073709551616 ∧
    (if x < (g * y % 18446744073709551616 + c) % 18446744073709551616 + bo then 1 else 0) ≤ 1 ∧
    (x + 18446744073709551616 - (g * y % 18446744073709551616 + c) % 18446744073709551616 - bo) % 18446744073709551616 + g * y + c + bo =
      x + 18446744073709551616 * (if x < (g * y % 18446744073709551616 + c) % 18446744073709551616 + bo then 1 else 0) + 18446744073709551616 * (g * y / 18446744073709551616 + (g * y % 18446744073709551616 + c) / 18446744073709551616) := by
  have hgy : g * y ≤ 18446744073709551615 * 18446744073709551615 := Nat.mul_le_mul (by omega) (by omega)
  generalize g * y = p at *
  refine ⟨by omega, by omega, by split <;> omega, ?_⟩
  split <;> omega
theorem sub_word2 {c x bo : Nat} (hc : c < 18446744073709551616) (hx : x < 18446744073709551616) (hb : bo ≤ 1) :
    (x + 18446744073709551616 - c - bo) % 18446744073709551616 < 18446744073709551616 ∧ (if x < c + bo then 1 else 0) ≤ 1 ∧
    (x + 18446744073709551616 - c - bo) % 18446744073709551616 + c + bo = x + 18446744073709551616 * (if x < c + bo then 1 else 0) := by
  refine ⟨by omega, by split <;> omega, ?_⟩
  split <;> omega

theorem Tryz_ent167 : Ent Tryz.prog 167 := ent_of Tryz.func167 (by kernel_rfl) rfl
set_option maxHeartbeats 4000000 in
theorem digit_spec (x0 vx vy : Value) (pre ws0 post ys : List Nat) (n B : Nat) (h : Hp) (ho : OwnF h B 26 U x0 (pre ++ ws0 ++ post)) (hvx : vx = cutV 1 x0 pre.length (pre.length + ws0.length)) (hy : SlF h U vy ys) (hne : vy.ownBlock = none ∨ vy.ownBlock ≠ x0.ownBlock)
    (hw : Al 18446744073709551616 ws0) (hya : Al 18446744073709551616 ys) (hwl : ws0.length = n + 3) (hyl : ys.length = n + 2) (hn : n < 1099511627776) (h0 : 0 < ys.getD (n + 1) 0) (hlt : vl 18446744073709551616 ws0 < vl 18446744073709551616 ys * 18446744073709551616) :
    CallsH Tryz.prog 167 [vx, vy] h fun v' h' => v' = U (vl 18446744073709551616 ws0 / vl 18446744073709551616 ys) ∧ Only x0.ownBlock h h' ∧ ∃ ws, ws.length = n + 3 ∧ Al 18446744073709551616 ws ∧ vl 18446744073709551616 ws = vl 18446744073709551616 ws0 % vl 18446744073709551616 ys ∧ OwnF h' B 26 U x0 (pre ++ ws ++ post) := by
  obtain ⟨gf1, gf2⟩ := guess_facts (b := 18446744073709551616) (by omega) hw hwl hyl h0
  have sx := win_sl ho hvx
  have hY0 : 0 < vl 18446744073709551616 ys := by omega
  have hql : vl 18446744073709551616 ws0 / vl 18446744073709551616 ys < 18446744073709551616 := (Nat.div_lt_iff_lt_mul hY0).2 (by rw [Nat.mul_comm]; exact hlt)
  generalize hX : vl 18446744073709551616 ws0 = X at *
  generalize hY : vl 18446744073709551616 ys = Y at *
  generalize hq : X / Y = q at *
  (apply enter Tryz.func167 rfl Tryz.ntmps167 rfl)
  refine runM ?_
  rw [hyl, show n + 2 - 1 = n + 1 from rfl]
  have hyt := hya.getD (by omega) (n + 1)
  have hy2 := hya.getD (by omega) n
  have hx2 := hw.getD (by omega) n
  have hx1 := hw.getD (by omega) (n + 1)
  apply (w_tcut (σ := Nat) (fun g => [(0, vx), (1, vy), (5, N (n + 2)), (6, U g)]) (fun g h' => h = h' ∧ q ≤ g ∧ g < 18446744073709551616))
  · (apply w_condD; exact rfl; exact rfl) <;> intro hc
    · generalize hyd : ys.getD (n + 1) 0 = yt at *
      generalize hxd1 : ws0.getD (n + 1) 0 = x1 at *
      generalize hxd2 : ws0.getD (n + 2) 0 = x2 at *
      refine runM ?_
      rw [show n + 2 - 1 = n + 1 from rfl, hyd, hxd1, hxd2]
      apply (s_call Tryz_ent168 rfl rfl rfl)
      refine (div64_spec x2 x1 yt h hc hx1 hyt).mono ?_
      rintro _ _ ⟨rfl, rfl⟩
      refine clsI ?_
      have hdm := Nat.div_add_mod (x2 * 18446744073709551616 + x1) yt
      have hml : (x2 * 18446744073709551616 + x1) % yt < yt := Nat.mod_lt _ (by omega)
      have hql2 : (x2 * 18446744073709551616 + x1) / yt < 18446744073709551616 := Num.digit_lt hx1 hc
      rw [Nat.mul_comm] at hdm
      generalize hX2 : x2 * 18446744073709551616 + x1 = X2 at *
      generalize X2 / yt = g0 at *
      generalize X2 % yt = r0 at *
      refine runM ?_
      (first | (apply w_seqB; exact rfl; apply w_block; exact rfl) | skip)
      apply (w_loop (σ := Nat × Nat) rfl (fun p => [(0, vx), (1, vy), (5, N (n + 2)), (6, U p.1), (7, U p.2)])
        (fun p h' => h = h' ∧ q ≤ p.1 ∧ p.1 < 18446744073709551616 ∧ p.1 * yt + p.2 = X2 ∧ p.2 < 18446744073709551616) (fun p => p.1) (g0, r0))
      · exact subs
      · exact ⟨rfl, gf1, hql2, hdm, by simp only []; omega⟩
      · rintro ⟨g, r⟩ _ ⟨rfl, i1, i2, i3, i4⟩
        dsimp only at i1 i2 i3 i4 ⊢
        refine runM ?_
        rw [show n + 2 - 2 = n from rfl]
        generalize hyd2 : ys.getD n 0 = y2 at *
        apply (s_call Tryz_ent164 rfl rfl rfl)
        refine (mul64_spec g y2 h i2 hy2).mono ?_
        rintro _ _ ⟨rfl, rfl⟩
        refine clsI ?_
        have hgy := Nat.div_add_mod (g * y2) 18446744073709551616
        have hgm := Nat.mod_lt (g * y2) (show 0 < 18446744073709551616 by omega)
        have gf := gf2 g r i3
        generalize g * y2 = gy at *
        generalize gy / 18446744073709551616 = gh at *
        generalize gy % 18446744073709551616 = gl at *
        have hsxl : n + 2 - 2 < ws0.length := by omega
        refine runM ?_
        (apply s_splitG; exact rfl; exact rfl; exact rfl; exact rfl) <;> intro c1
        · refine runM ?_
          apply cut_normal g
          · exact subs
          · exact ⟨rfl, i1, i2⟩
        · refine runM ?_
          (apply s_splitG; exact rfl; exact rfl; exact rfl; exact rfl) <;> intro c2
          · refine runM ?_
            rw [show n + 2 - 2 = n from rfl]
            (apply w_condD; exact rfl; exact rfl) <;> intro c3
            · refine runM ?_
              apply cut_normal g
              · exact subs
              · exact ⟨rfl, i1, i2⟩
            · have hgt : q < g := gf (by omega)
              have hg1 : 1 ≤ g := by omega
              have hmul : (g - 1) * yt + (r + yt) = X2 := by
                rw [← i3, Nat.sub_mul, Nat.one_mul]
                have := Nat.mul_le_mul_right yt hg1
                rw [Nat.one_mul] at this
                omega
              have hyl2 : n + 2 - 1 < ys.length := by omega
              refine runM ?_
              by_cases hov : r + yt < 18446744073709551616
              · rw [show n + 2 - 1 = n + 1 from rfl, hyd]
                refine runM ?_
                rw [show n + 2 - 1 = n + 1 from rfl, hyd]
                (apply w_condF; exact rfl; exact rfl; exact (by omega))
                refine runM ?_
                apply again_normal (g - 1, r + yt)
                · exact subs
                · exact ⟨rfl, by simp only []; omega, by simp only []; omega, hmul, hov⟩
                · simp only []; omega
              · rw [show n + 2 - 1 = n + 1 from rfl, hyd]
                (apply s_addUw; (first | exact isK_c | exact isK_t rfl); (first | exact isK_c | exact isK_t rfl); exact rfl)
                refine runM ?_
                rw [show n + 2 - 1 = n + 1 from rfl, hyd]
                (apply w_condT; exact rfl; exact rfl; exact (by omega))
                refine runM ?_
                apply cut_normal (g - 1)
                · exact subs
                · exact ⟨rfl, by omega, by omega⟩
          · have hgt : q < g := gf (by omega)
            have hg1 : 1 ≤ g := by omega
            have hmul : (g - 1) * yt + (r + yt) = X2 := by
              rw [← i3, Nat.sub_mul, Nat.one_mul]
              have := Nat.mul_le_mul_right yt hg1
              rw [Nat.one_mul] at this
              omega
            have hyl2 : n + 2 - 1 < ys.length := by omega
            refine runM ?_
            by_cases hov : r + yt < 18446744073709551616
            · rw [show n + 2 - 1 = n + 1 from rfl, hyd]
              refine runM ?_
              rw [show n + 2 - 1 = n + 1 from rfl, hyd]
              (apply w_condF; exact rfl; exact rfl; exact (by omega))
              refine runM ?_
              apply again_normal (g - 1, r + yt)
              · exact subs
              · exact ⟨rfl, by simp only []; omega, by simp only []; omega, hmul, hov⟩
              · simp only []; omega
            · rw [show n + 2 - 1 = n + 1 from rfl, hyd]
              (apply s_addUw; (first | exact isK_c | exact isK_t rfl); (first | exact isK_c | exact isK_t rfl); exact rfl)
              refine runM ?_
              rw [show n + 2 - 1 = n + 1 from rfl, hyd]
              (apply w_condT; exact rfl; exact rfl; exact (by omega))
              refine runM ?_
              apply cut_normal (g - 1)
              · exact subs
              · exact ⟨rfl, by omega, by omega⟩
    · refine runM ?_
      apply cut_normal 18446744073709551615
      · exact subs
      · exact ⟨rfl, by omega, by omega⟩
  · rintro g0 _ ⟨rfl, hge, hg⟩
    clear gf1 gf2 hyt hy2 hx2 hx1
    refine runM ?_
    rw [hyl]
    (first | (apply w_seqB; exact rfl; apply w_block; exact rfl) | skip)
    apply (w_loop (σ := Nat × Nat × Nat × List Nat) rfl (fun p => [(0, vx), (1, vy), (5, N (n + 2)), (6, U g0), (92, vy), (93, N (n + 2)), (94, N p.1), (10, U p.2.1), (11, U p.2.2.1)])
      (fun p h' => OwnF h' B 26 U x0 (pre ++ p.2.2.2 ++ post) ∧ Only x0.ownBlock h h' ∧ p.2.2.2.length = n + 3 ∧ p.1 ≤ n + 2 ∧ Al 18446744073709551616 p.2.2.2 ∧ p.2.1 < 18446744073709551616 ∧ p.2.2.1 ≤ 1 ∧
        pv 18446744073709551616 p.2.2.2 p.1 + g0 * pv 18446744073709551616 ys p.1 = pv 18446744073709551616 ws0 p.1 + 18446744073709551616 ^ p.1 * (p.2.2.1 + p.2.1) ∧ ∀ j, p.1 ≤ j → p.2.2.2.getD j 0 = ws0.getD j 0) (fun p => n + 2 - p.1) (0, 0, 0, ws0))
    · exact subs
    · exact ⟨ho, Only.refl _ _, hwl, by simp only []; omega, hw, by simp only []; omega, by simp only []; omega, by simp [pv], fun _ _ => rfl⟩
    · rintro ⟨i, c, bo, ws⟩ h1 ⟨o1, k1, i1, i2, i3, i4, i5, i6, i7⟩
      dsimp only at o1 k1 i1 i2 i3 i4 i5 i6 i7 ⊢
      have hy1 := hy.only k1 hne
      have sx1 := win_sl o1 (hvx.trans (by rw [hwl, i1]))
      refine runM ?_
      (apply w_condD; exact rfl; exact rfl) <;> intro hi
      · have hyi := hya.getD (by omega) i
        have hwi := i3.getD (by omega) i
        have hoe := i7 i (Nat.le_refl _)
        refine runM ?_
        generalize hyd : ys.getD i 0 = y at *
        apply (s_call Tryz_ent164 rfl rfl rfl)
        refine (mul64_spec g0 y h1 hg hyi).mono ?_
        rintro _ _ ⟨rfl, rfl⟩
        refine clsI ?_
        have hsb := sub_word hg hyi i4 hwi i5
        have hgy := Nat.mod_lt (g0 * y) (show 0 < 18446744073709551616 by omega)
        obtain ⟨hs1, hs2, hs3, hs4⟩ := hsb
        generalize g0 * y / 18446744073709551616 = gh at *
        generalize g0 * y % 18446744073709551616 = gl at *
        refine runM ?_
        apply (s_extern (add64_run gl c 0 (by omega) hgy i4) rfl rfl)
        simp only [Nat.add_zero]
        have hlo := Nat.mod_lt (gl + c) (show 0 < 18446744073709551616 by omega)
        generalize (gl + c) % 18446744073709551616 = lo at *
        generalize (gl + c) / 18446744073709551616 = d at *
        refine runM ?_
        apply (s_extern (sub64_run _ lo bo i5) rfl rfl)
        generalize hxw : (ws.getD i 0 + 18446744073709551616 - lo - bo) % 18446744073709551616 = xw at *
        generalize (if ws.getD i 0 < lo + bo then 1 else 0) = bw at *
        refine runM ?_
        (apply (s_storeW (xw) o1 (hvx.trans (by rw [hwl, i1]))); exact rfl; exact rfl; exact rfl; exact rfl; exact rfl; exact rfl; (first | assumption | omega))
        intro h2 o2 k2
        refine clsI ?_
        refine runM ?_
        apply again_normal (i + 1, gh + d, bw, ws.set i xw)
        · exact subs
        · refine ⟨o2, k1.trans k2, by simp [i1], hi, i3.set hs2 _, hs1, hs3, ?_, fun j hj => ?_⟩
          · simp only [pv]
            rw [pv_set (Nat.le_refl _), getD_set_self (by omega), Nat.pow_succ, hyd, ← hoe]
            exact Dig.sub_step i6 hs4
          · simp only [] at hj ⊢
            rw [getD_set_other (by omega)]; exact i7 j (by omega)
        · simp only []; omega
      · obtain rfl : i = n + 2 := by omega
        have hwi := i3.getD (by omega) (n + 2)
        have hoe := i7 (n + 2) (Nat.le_refl _)
        obtain ⟨hs2, hs3, hs4⟩ := sub_word2 i4 hwi i5
        have hlast := sub_last i6 hs4
        rw [pv_full (xs := ys) (by omega), hY] at hlast
        refine runM ?_
        apply (s_extern (sub64_run _ c bo i5) rfl rfl)
        generalize hxw : (ws.getD (n + 2) 0 + 18446744073709551616 - c - bo) % 18446744073709551616 = xw at *
        generalize (if ws.getD (n + 2) 0 < c + bo then 1 else 0) = bw at *
        refine runM ?_
        (apply (s_storeW (xw) o1 (hvx.trans (by rw [hwl, i1]))); exact rfl; exact rfl; exact rfl; exact rfl; exact rfl; exact rfl; (first | assumption | omega))
        intro h2 o2 k2
        refine clsI ?_
        have hP : pv 18446744073709551616 ws0 (n + 2) + 18446744073709551616 ^ (n + 2) * ws.getD (n + 2) 0 = X := by
          rw [hoe, ← hX, ← pv_full (xs := ws0) (k := n + 3) (by omega)]; rfl
        have hZ : pv 18446744073709551616 ws (n + 2) + 18446744073709551616 ^ (n + 2) * xw = vl 18446744073709551616 (ws.set (n + 2) xw) := by
          rw [← pv_full (xs := ws.set (n + 2) xw) (k := n + 3) (by simp; omega)]
          show _ = pv 18446744073709551616 (ws.set (n + 2) xw) (n + 2) + 18446744073709551616 ^ (n + 2) * (ws.set (n + 2) xw).getD (n + 2) 0
          rw [pv_set (Nat.le_refl _), getD_set_self (by omega)]
        rw [hP, hZ, ← Nat.pow_succ] at hlast
        have k2 := k1.trans k2
        have a2 : Al 18446744073709551616 (ws.set (n + 2) xw) := i3.set hs2 _
        have l2 : (ws.set (n + 2) xw).length = n + 3 := by simp [i1]
        clear hP hZ hs4 hxw hoe hwi i6 i7 sx1 hy1 k1 o1 i3 i1
        generalize ws.set (n + 2) xw = zs at *
        refine runM ?_
        (first | (apply w_seqB; exact rfl; apply w_block; exact rfl) | skip)
        apply (w_loop (σ := Nat × Nat × List Nat) rfl (fun p => [(0, vx), (1, vy), (5, N (n + 2)), (6, U p.1), (11, U p.2.1)])
          (fun p h' => OwnF h' B 26 U x0 (pre ++ p.2.2 ++ post) ∧ Only x0.ownBlock h h' ∧ p.2.2.length = n + 3 ∧ Al 18446744073709551616 p.2.2 ∧ p.1 < 18446744073709551616 ∧ p.2.1 ≤ 1 ∧ q ≤ p.1 ∧
            vl 18446744073709551616 p.2.2 + p.1 * Y = X + 18446744073709551616 ^ (n + 3) * p.2.1) (fun p => p.1) (g0, bw, zs))
        · exact subs
        · exact ⟨o2, k2, l2, a2, hg, hs3, hge, hlast⟩
        · rintro ⟨g, bo, zs⟩ h3 ⟨o3, k3, i1, i2, i3, i4, i5, i6⟩
          dsimp only at o3 k3 i1 i2 i3 i4 i5 i6 ⊢
          refine runM ?_
          (apply w_condD; exact rfl; exact rfl) <;> intro hb
          · obtain rfl : bo = 1 := by omega
            have hvl := vl_lt i2
            rw [i1] at hvl
            have hgt := back_lt i6 hvl hY0
            rw [hq] at hgt
            have hg1 : 1 ≤ g := by omega
            have hy3 := hy.only k3 hne
            refine runM ?_
            rw [hyl]
            (first | (apply w_seqB; exact rfl; apply w_block; exact rfl) | skip)
            apply (w_loop (σ := Nat × Nat × List Nat) rfl (fun p => [(0, vx), (1, vy), (5, N (n + 2)), (6, U (g - 1)), (11, U 1), (145, vy), (146, N (n + 2)), (147, N p.1), (10, U p.2.1)])
              (fun p h' => OwnF h' B 26 U x0 (pre ++ p.2.2 ++ post) ∧ Only x0.ownBlock h h' ∧ p.2.2.length = n + 3 ∧ p.1 ≤ n + 2 ∧ Al 18446744073709551616 p.2.2 ∧ p.2.1 ≤ 1 ∧
                pv 18446744073709551616 p.2.2 p.1 + 18446744073709551616 ^ p.1 * p.2.1 = pv 18446744073709551616 zs p.1 + pv 18446744073709551616 ys p.1 ∧ ∀ j, p.1 ≤ j → p.2.2.getD j 0 = zs.getD j 0) (fun p => n + 2 - p.1) (0, 0, zs))
            · exact subs
            · exact ⟨o3, k3, i1, by simp only []; omega, i2, by simp only []; omega, by simp [pv], fun _ _ => rfl⟩
            · rintro ⟨i, c, ws⟩ h4 ⟨o4, k4, j1, j2, j3, j4, j5, j6⟩
              dsimp only at o4 k4 j1 j2 j3 j4 j5 j6 ⊢
              have hy4 := hy.only k4 hne
              have sx4 := win_sl o4 (hvx.trans (by rw [hwl, j1]))
              refine runM ?_
              (apply w_condD; exact rfl; exact rfl) <;> intro hi
              · have hyi := hya.getD (by omega) i
                have hwi := j3.getD (by omega) i
                have hoe := j6 i (Nat.le_refl _)
                have hst := add_step (b := 18446744073709551616) (x := ws.getD i 0) (y := ys.getD i 0) j5
                refine runM ?_
                generalize hyd : ys.getD i 0 = y at *
                apply (s_extern (add64_run (ws.getD i 0) y c j4 hwi hyi) rfl rfl)
                have hs2 := Num.modW (ws.getD i 0 + y + c)
                have hs3 : (ws.getD i 0 + y + c) / 18446744073709551616 ≤ 1 := by omega
                generalize (ws.getD i 0 + y + c) % 18446744073709551616 = xw at *
                generalize (ws.getD i 0 + y + c) / 18446744073709551616 = c' at *
                refine runM ?_
                (apply (s_storeW (xw) o4 (hvx.trans (by rw [hwl, j1]))); exact rfl; exact rfl; exact rfl; exact rfl; exact rfl; exact rfl; (first | assumption | omega))
                intro h5 o5 k5
                refine clsI ?_
                refine runM ?_
                apply again_normal (i + 1, c', ws.set i xw)
                · exact subs
                · refine ⟨o5, k4.trans k5, by simp [j1], hi, j3.set hs2 _, hs3, ?_, fun j hj => ?_⟩
                  · simp only [pv]
                    rw [pv_set (Nat.le_refl _), getD_set_self (by omega), Nat.pow_succ, hyd, ← hoe]
                    exact hst
                  · simp only [] at hj ⊢
                    rw [getD_set_other (by omega)]; exact j6 j (by omega)
                · simp only []; omega
              · obtain rfl : i = n + 2 := by omega
                have hwi := j3.getD (by omega) (n + 2)
                have hoe := j6 (n + 2) (Nat.le_refl _)
                have hst := add_step (b := 18446744073709551616) (x := ws.getD (n + 2) 0) (y := 0) j5
                rw [pv_full (xs := ys) (by omega), hY, Nat.mul_zero, Nat.add_zero Y] at hst
                refine runM ?_
                apply (s_extern (add64_run (ws.getD (n + 2) 0) 0 c j4 hwi (by omega)) rfl rfl)
                have hs2 := Num.modW (ws.getD (n + 2) 0 + 0 + c)
                have hs3 : (ws.getD (n + 2) 0 + 0 + c) / 18446744073709551616 ≤ 1 := by omega
                generalize (ws.getD (n + 2) 0 + 0 + c) % 18446744073709551616 = xw at *
                generalize (ws.getD (n + 2) 0 + 0 + c) / 18446744073709551616 = c' at *
                refine runM ?_
                (apply (s_storeW (xw) o4 (hvx.trans (by rw [hwl, j1]))); exact rfl; exact rfl; exact rfl; exact rfl; exact rfl; exact rfl; (first | assumption | omega))
                intro h5 o5 k5
                refine clsI ?_
                have hP : pv 18446744073709551616 zs (n + 2) + 18446744073709551616 ^ (n + 2) * ws.getD (n + 2) 0 = vl 18446744073709551616 zs := by
                  rw [hoe, ← pv_full (xs := zs) (k := n + 3) (by omega)]; rfl
                have hZ : pv 18446744073709551616 ws (n + 2) + 18446744073709551616 ^ (n + 2) * xw = vl 18446744073709551616 (ws.set (n + 2) xw) := by
                  rw [← pv_full (xs := ws.set (n + 2) xw) (k := n + 3) (by simp; omega)]
                  show _ = pv 18446744073709551616 (ws.set (n + 2) xw) (n + 2) + 18446744073709551616 ^ (n + 2) * (ws.set (n + 2) xw).getD (n + 2) 0
                  rw [pv_set (Nat.le_refl _), getD_set_self (by omega)]
                rw [hP, hZ, ← Nat.pow_succ] at hst
                have hbk := back_step i6 hst hs3 hg1
                refine runM ?_
                apply again_normal (g - 1, 1 - c', ws.set (n + 2) xw)
                · exact subs
                · exact ⟨o5, k4.trans k5, by simp [j1], j3.set hs2 _, by simp only []; omega, by simp only []; omega, by simp only []; omega, hbk⟩
                · simp only []; omega
          · obtain rfl : bo = 0 := by omega
            rw [← hq] at i5
            obtain ⟨f1, f2⟩ := digit_end i6 i5 hY0
            refine runM ?_
            exact fin1 rfl rfl ⟨by rw [f1, hq], k3, zs, i1, i2, f2, o3⟩

theorem Tryz_ent64 : Ent Tryz.prog 64 := ent_of Tryz.func64 (by kernel_rfl) rfl
theorem of_spec (w : Nat) (h : Hp) (hw : w < 18446744073709551616) :
    CallsH Tryz.prog 64 [U w] h fun v' h' => Ext h h' ∧ OwnF h' h.size 26 U v' (dg 18446744073709551616 w) := by
  (apply enter Tryz.func64 rfl Tryz.ntmps64 rfl)
  refine runM ?_
  (apply (s_litF (f := U) [w] (fun _ => rfl)); exact rfl; exact rfl; exact rfl; exact rfl; exact rfl; exact rfl; exact rfl; exact rfl; omega)
  intro v1 h1 o1 e1 b1
  refine clsI ?_
  refine runM ?_
  apply (s_call Tryz_ent126 rfl rfl rfl)
  refine (norm_spec v1 [w] h1 o1.sl (by simp)).mono ?_
  rintro v3 _ ⟨rfl, s3, o3⟩
  refine clsI ?_
  refine runM ?_
  refine fin1 rfl rfl ⟨e1, ?_⟩
  have := o3 _ _ o1
  rw [nrm_eq (b := 18446744073709551616) (by omega) (Al.cons hw Al.nil)] at this
  simpa [vl] using this

theorem Tryz_ent65 : Ent Tryz.prog 65 := ent_of Tryz.func65 (by kernel_rfl) rfl
theorem mod_spec (va : Value) (xs : List Nat) (w : Nat) (h : Hp) (ha : SlF h U va xs) (hx : Al 18446744073709551616 xs) (hl : xs.length < 1099511627776) (hw : w < 18446744073709551616) :
    CallsH Tryz.prog 65 [va, U w] h fun v' h' => v' = U (if w = 0 then 0 else vl 18446744073709551616 xs % w) ∧ Ext h h' := by
  (apply enter Tryz.func65 rfl Tryz.ntmps65 rfl)
  refine runM ?_
  (apply w_condD; exact rfl; exact rfl) <;> intro h0
  · refine runM ?_
    exact fin1 rfl rfl ⟨by rw [if_pos h0], Ext.refl h⟩
  · refine runM ?_
    apply (s_call Tryz_ent127 rfl rfl rfl)
    refine (byWord_spec va xs w h ha hx hl (by omega) hw).mono ?_
    rintro _ h1 ⟨q, rfl, e1, o1⟩
    refine clsI ?_
    refine runM ?_
    exact fin1 rfl rfl ⟨by rw [if_neg h0], e1⟩

theorem Tryz_ent186 : Ent Tryz.prog 186 := ent_of Tryz.func186 (by kernel_rfl) rfl
theorem len64_spec (x : Nat) (h : Hp) (hx : x < 18446744073709551616) :
    CallsH Tryz.prog 186 [U x] h fun v h' => v = N (Lib.bitLen x) ∧ h = h' :=
  callsH_same fun w => Tryz.bits_Len64 x w (by omega) (by omega)

theorem Tryz_ent149 : Ent Tryz.prog 149 := ent_of Tryz.func149 (by kernel_rfl) rfl
theorem bits_spec (va : Value) (xs0 : List Nat) (h : Hp) (ha0 : SlF h U va xs0) (hx0 : Al 18446744073709551616 xs0) (hl0 : xs0.length < 1099511627776) :
    CallsH Tryz.prog 149 [va] h fun v' h' => v' = N (nb (vl 18446744073709551616 xs0)) ∧ h = h' := by
  (apply enter Tryz.func149 rfl Tryz.ntmps149 rfl)
  refine runM ?_
  apply (s_call Tryz_ent126 rfl rfl rfl)
  refine (norm_spec va xs0 h ha0 (by omega)).mono ?_
  rintro v1 _ ⟨rfl, ha, -⟩
  refine clsI ?_
  rw [← vl_nrm xs0]
  have hx : Al 18446744073709551616 (nrm xs0) := by rw [nrm_pre]; exact hx0.take _
  have hxn := nrm_nrm xs0
  have hlx := nrm_len xs0
  have hl : (nrm xs0).length < 1099511627776 := by omega
  clear hlx
  generalize nrm xs0 = xs at *
  refine runM ?_
  (apply w_condD; exact rfl; exact rfl) <;> intro h0
  · refine runM ?_
    have : xs = [] := List.eq_nil_of_length_eq_zero h0
    subst this
    exact fin1 rfl rfl ⟨rfl, rfl⟩
  · obtain ⟨m, hm⟩ : ∃ m, xs.length = m + 1 := ⟨xs.length - 1, by omega⟩
    have htop : xs.getD m 0 ≠ 0 := by
      have h1 := nrm_eq (b := 18446744073709551616) (by omega) hx
      rw [hxn] at h1
      intro hz
      have h2 : vl 18446744073709551616 xs = pv 18446744073709551616 xs m := by
        rw [← pv_full (k := m + 1) (xs := xs) (by omega), pv, hz, Nat.mul_zero, Nat.add_zero]
      have h3 := pv_lt hx (by omega) m
      rw [← h2] at h3
      have h4 := dg_len (b := 18446744073709551616) (by omega) h3
      rw [← h1] at h4
      omega
    have htw := hx.getD (by omega) m
    obtain ⟨g1, g2, g3, g4⟩ := bitLen_spec 64 _ htw (by omega) htop
    have hnb := nb_top (k := 64) (by rfl) hx hm (j := Lib.bitLen (xs.getD m 0) - 1) g3 (by rw [Nat.sub_add_cancel g1]; exact g4)
    rw [hnb]
    refine runM ?_
    rw [hm, Nat.add_sub_cancel]
    apply (s_call Tryz_ent186 rfl rfl rfl)
    refine (len64_spec (xs.getD m 0) h htw).mono ?_
    rintro _ _ ⟨rfl, rfl⟩
    refine clsI ?_
    generalize Lib.bitLen (xs.getD m 0) = bl at *
    refine runM ?_
    exact fin1 rfl rfl ⟨congrArg I (by omega), rfl⟩

theorem cmpI_neg {m n : Nat} : cmpI m n < 0 ↔ m < n := by
  unfold cmpI
  by_cases h1 : m < n
  · simp [h1]
  · by_cases h2 : n < m <;> simp [h1, h2]
theorem fill_room {y s : Nat} (hs : s ≤ 64) (h : y * 2 ^ s < 18446744073709551616) : (y + 1) * 2 ^ s ≤ 18446744073709551616 := by
  have e : (18446744073709551616 : Nat) = 2 ^ (64 - s) * 2 ^ s := by rw [← Nat.pow_add, show 64 - s + s = 64 by omega]
  rw [e] at h ⊢
  exact Nat.mul_le_mul_right _ (Nat.lt_of_mul_lt_mul_right h)

theorem OwnF.ne {α β : Type} {f : α → Value} {g : β → Value} {h h' : Hp} {B B' : Nat} {e e' : TypeId} {v v' : Value} {xs : List α} {ys : List β} (o : OwnF h B e f v xs) (o' : OwnF h' B' e' g v' ys) (hB : h.size ≤ B') : v'.ownBlock = none ∨ v'.ownBlock ≠ v.ownBlock := by
  cases hk : v'.ownBlock with
  | none => exact .inl rfl
  | some k =>
    refine .inr fun e => ?_
    have h1 := (OwnF.blk o' k hk).1
    have h2 := (OwnF.blk o k e.symm).2
    omega
theorem OwnF.ne' {α β : Type} {f : α → Value} {g : β → Value} {h h' : Hp} {B B' : Nat} {e e' : TypeId} {v v' : Value} {xs : List α} {ys : List β} (o : OwnF h B e f v xs) (o' : OwnF h' B' e' g v' ys) (hB : h.size ≤ B') : v.ownBlock = none ∨ v.ownBlock ≠ v'.ownBlock := by
  rcases OwnF.ne o o' hB with h | h
  · cases hk : v.ownBlock with
    | none => exact .inl rfl
    | some k => exact .inr (by rw [h]; simp)
  · exact .inr fun e => h e.symm
theorem rest_of {p r t z : Nat} (hp : 0 < p) (h : p * r + t % p = z * p) : r = z := by
  have h1 : (p * r + t % p) % p = t % p := by rw [Nat.mul_add_mod, Nat.mod_mod]
  rw [h, Nat.mul_mod_left] at h1
  rw [← h1, Nat.add_zero, Nat.mul_comm] at h
  exact Nat.eq_of_mul_eq_mul_right hp h
theorem split3 (xs : List Nat) (i n : Nat) (h : i + n ≤ xs.length) : ∃ pre ws post, xs = pre ++ ws ++ post ∧ pre.length = i ∧ ws.length = n :=
  ⟨xs.take i, (xs.drop i).take n, xs.drop (i + n), by rw [← List.drop_drop, List.append_assoc, List.take_append_drop, List.take_append_drop], by simp; omega, by simp; omega⟩
theorem drop_post (pre ws post : List Nat) : (pre ++ ws ++ post).drop (pre.length + ws.length) = post := by
  rw [← List.length_append, List.drop_append_of_le_length (Nat.le_refl _), List.drop_of_length_le (Nat.le_refl _), List.nil_append]

theorem Tryz_ent123 : Ent Tryz.prog 123 := ent_of Tryz.func123 (by kernel_rfl) rfl
set_option maxHeartbeats 4000000 in
theorem ndiv_spec (va vb : Value) (xs ys0 : List Nat) (h : Hp) (ha : SlF h U va xs) (hb0 : SlF h U vb ys0) (hx : Al 18446744073709551616 xs) (hy0 : Al 18446744073709551616 ys0) (hl : xs.length < 1099511627776) (hl2 : ys0.length < 1099511627776) :
    CallsH Tryz.prog 123 [va, vb] h fun v' h' => ∃ q r, v' = .tuple #[q, r, N (if vl 18446744073709551616 ys0 = 0 then 1 else 0)] ∧ Ext h h' ∧
      OwnF h' h.size 26 U q (dg 18446744073709551616 (vl 18446744073709551616 xs / vl 18446744073709551616 ys0)) ∧
      OwnF h' h.size 26 U r (dg 18446744073709551616 (if vl 18446744073709551616 ys0 = 0 then 0 else vl 18446744073709551616 xs % vl 18446744073709551616 ys0)) := by
  (apply enter Tryz.func123 rfl Tryz.ntmps123 rfl)
  refine runM ?_
  apply (s_call Tryz_ent126 rfl rfl rfl)
  refine (norm_spec vb ys0 h hb0 (by omega)).mono ?_
  rintro vy _ ⟨rfl, hb, -⟩
  refine clsI ?_
  rw [← vl_nrm ys0]
  have hy : Al 18446744073709551616 (nrm ys0) := by rw [nrm_pre]; exact hy0.take _
  have hyn := nrm_nrm ys0
  have hly := nrm_len ys0
  have hl2 : (nrm ys0).length < 1099511627776 := by omega
  have hyd := nrm_eq (b := 18446744073709551616) (by omega) hy
  rw [hyn] at hyd
  clear hly hy0 hb0
  generalize nrm ys0 = ys at *
  have hy0 : ys.length = 0 ↔ vl 18446744073709551616 ys = 0 := by
    conv => lhs; rw [hyd]
    exact dg_len0 (by omega)
  refine runM ?_
  (apply w_condD; exact rfl; exact rfl) <;> intro hz
  · refine runM ?_
    refine fin3 rfl rfl rfl rfl ⟨_, _, by rw [if_pos (hy0.1 hz)], Ext.refl h, ?_, ?_⟩
    · rw [hy0.1 hz, Nat.div_zero]; exact OwnF.nil _ _ _ _
    · rw [if_pos (hy0.1 hz)]; exact OwnF.nil _ _ _ _
  · have hYne : vl 18446744073709551616 ys ≠ 0 := fun e => hz (hy0.2 e)
    rw [if_neg hYne, if_neg hYne]
    refine runM ?_
    apply (s_call Tryz_ent70 rfl rfl rfl)
    refine (cmp_spec va vy xs ys h ha hb hx hy (by omega) (by omega)).mono ?_
    rintro _ _ ⟨rfl, rfl⟩
    refine clsI ?_
    refine runM ?_
    (apply w_condD; exact rfl; exact rfl) <;> intro hlt
    · rw [cmpI_neg] at hlt
      rw [Nat.div_eq_of_lt hlt, Nat.mod_eq_of_lt hlt]
      refine runM ?_
      (apply (s_litF (f := U) [] (fun _ => rfl)); exact rfl; exact rfl; exact rfl; exact rfl; exact rfl; exact rfl; exact rfl; exact rfl; omega)
      intro v1 h1 o1 e1 b1
      refine clsI ?_
      have ha1 := ha.ext e1
      refine runM ?_
      (apply (s_appendF (bytes := 8)); exact rfl; exact rfl; exact rfl; exact rfl; exact rfl; exact rfl; exact rfl; exact o1; exact ha1; exact fun _ => rfl; (first | exact Nat.le_refl _ | exact ext_size (by assumption) | omega); ((try simp only [maxLen]); (try simp only [List.length_nil]); (try simp only [List.length_append]); omega); ((try simp only [List.length_nil]); (try simp only [List.length_append]); omega))
      intro v2 h2 o2 k2 b2
      refine clsI ?_
      have e2 := o1.old k2 e1 (Nat.le_refl _)
      refine runM ?_
      apply (s_call Tryz_ent126 rfl rfl rfl)
      refine (norm_spec v2 _ h2 o2.sl (by simp; omega)).mono ?_
      rintro v3 _ ⟨rfl, s3, o3⟩
      refine clsI ?_
      refine runM ?_
      refine fin3 rfl rfl rfl rfl ⟨_, _, rfl, e2, OwnF.nil _ _ _ _, ?_⟩
      have := o3 _ _ o2
      rw [List.nil_append, nrm_eq (by omega) hx] at this
      exact this
    · rw [cmpI_neg] at hlt
      refine runM ?_
      (apply w_condD; exact rfl; exact rfl) <;> intro h1
      · obtain ⟨y, rfl⟩ : ∃ y, ys = [y] := by
          cases ys with
          | nil => simp at h1
          | cons y ys => cases ys with
            | nil => exact ⟨y, rfl⟩
            | cons _ _ => simp at h1
        have hyw : y < 18446744073709551616 := hy y (by simp)
        have hYv : vl 18446744073709551616 [y] = y := by simp [vl]
        rw [hYv] at hYne hlt ⊢
        have hl1 : ([y] : List Nat).length = 1 := rfl
        refine runM ?_
        apply (s_call Tryz_ent126 rfl rfl rfl)
        refine (norm_spec va xs h ha (by omega)).mono ?_
        rintro v1 _ ⟨rfl, s1, -⟩
        refine clsI ?_
        have hx1 : Al 18446744073709551616 (nrm xs) := by rw [nrm_pre]; exact hx.take _
        have hln := nrm_len xs
        refine runM ?_
        simp only [List.getD_cons_zero]
        apply (s_call Tryz_ent127 rfl rfl rfl)
        refine (byWord_spec v1 (nrm xs) y h s1 hx1 (by omega) (by omega) hyw).mono ?_
        rintro _ h1 ⟨q, rfl, e1, o1⟩
        refine clsI ?_
        rw [vl_nrm] at o1
        rw [vl_nrm]
        have hrl : vl 18446744073709551616 xs % y < 18446744073709551616 := Nat.lt_trans (Nat.mod_lt _ (by omega)) hyw
        refine runM ?_
        apply (s_call Tryz_ent64 rfl rfl rfl)
        refine (of_spec _ h1 hrl).mono ?_
        rintro v2 h2 ⟨e2, o2⟩
        refine clsI ?_
        refine runM ?_
        exact fin3 rfl rfl rfl rfl ⟨_, _, rfl, e1.trans e2, o1.ext e2, o2.base e1.1⟩
      · obtain ⟨m, hm⟩ : ∃ m, ys.length = m + 2 := ⟨ys.length - 2, by omega⟩
        have htop : ys.getD (m + 1) 0 ≠ 0 := by
          intro hz'
          have h2 : vl 18446744073709551616 ys = pv 18446744073709551616 ys (m + 1) := by
            rw [← pv_full (k := m + 2) (xs := ys) (by omega), pv, hz', Nat.mul_zero, Nat.add_zero]
          have h3 := pv_lt hy (by omega) (m + 1)
          rw [← h2] at h3
          have h4 := dg_len (b := 18446744073709551616) (by omega) h3
          rw [← hyd] at h4
          omega
        have htw := hy.getD (by omega) (m + 1)
        obtain ⟨s, hs, hs64, hs63, hsB⟩ := lz_fills _ htop htw
        obtain ⟨mv1, mv2, mv3, mv4⟩ := moved (by omega) hy hm htop hs63 (fill_room (by omega) hsB)
        have hlen : m + 2 ≤ (nrm xs).length := by
          rw [nrm_eq (by omega) hx, ← hm]
          conv => lhs; rw [hyd]
          refine Nat.le_of_not_lt fun hlt' => hlt (dg_len_lt (by omega) hlt')
        have hx1 : Al 18446744073709551616 (nrm xs) := by rw [nrm_pre]; exact hx.take _
        have hln := nrm_len xs
        refine runM ?_
        rw [hm, show m + 2 - 1 = m + 1 from rfl]
        apply (s_call Tryz_ent165 rfl rfl rfl)
        refine (lz64_spec _ h htw).mono ?_
        rintro _ _ ⟨rfl, rfl⟩
        refine clsI ?_
        rw [hs]
        have hsU : s < 18446744073709551616 := by omega
        refine runM ?_
        apply (s_call Tryz_ent126 rfl rfl rfl)
        refine (norm_spec va xs h ha (by omega)).mono ?_
        rintro v1 _ ⟨rfl, s1, -⟩
        refine clsI ?_
        refine runM ?_
        apply (s_call Tryz_ent166 rfl rfl rfl)
        refine (shifted_spec v1 (nrm xs) s h s1 hx1 (by omega) hs64).mono ?_
        rintro x0 h1 ⟨os, e1, o1, lo, ao, vo, to⟩
        refine clsI ?_
        rw [vl_nrm] at vo
        have hb1 := hb.ext e1
        refine runM ?_
        apply (s_call Tryz_ent166 rfl rfl rfl)
        refine (shifted_spec vy ys s h1 hb1 hy (by omega) hs64).mono ?_
        rintro y0 h2 ⟨oy, e2, o2, lo2, ao2, vo2, -⟩
        refine clsI ?_
        refine runM ?_
        apply (s_call Tryz_ent126 rfl rfl rfl)
        refine (norm_spec y0 oy h2 o2.sl (by omega)).mono ?_
        rintro vz _ ⟨rfl, -, o3⟩
        refine clsI ?_
        have o3 := o3 _ _ o2
        rw [nrm_eq (by omega) ao2, vo2] at o3
        have hzv := vl_dg (b := 18446744073709551616) (by omega) (vl 18446744073709551616 ys * 2 ^ s)
        have hza := al_dg (b := 18446744073709551616) (by omega) (vl 18446744073709551616 ys * 2 ^ s)
        have hY0 : 0 < vl 18446744073709551616 ys * 2 ^ s := Nat.mul_pos (by omega) (Nat.pow_pos (by omega))
        have hq2 : vl 18446744073709551616 xs * 2 ^ s / (vl 18446744073709551616 ys * 2 ^ s) = vl 18446744073709551616 xs / vl 18446744073709551616 ys := Nat.mul_div_mul_right _ _ (Nat.pow_pos (by omega))
        have hr2 : vl 18446744073709551616 xs * 2 ^ s % (vl 18446744073709551616 ys * 2 ^ s) = vl 18446744073709551616 xs % vl 18446744073709551616 ys * 2 ^ s := Nat.mul_mod_mul_right _ _ _
        obtain ⟨k0, hk0⟩ : ∃ k0, (nrm xs).length = k0 + m + 1 := ⟨(nrm xs).length - m - 1, by omega⟩
        have hk1 : 1 ≤ k0 := by omega
        rw [hk0] at lo to hln
        clear hb1 o2 lo2 ao2 vo2 hlen s1 hx1 hk0
        generalize dg 18446744073709551616 (vl 18446744073709551616 ys * 2 ^ s) = zs at *
        generalize hYd : vl 18446744073709551616 ys * 2 ^ s = Y at *
        generalize hXd : vl 18446744073709551616 xs * 2 ^ s = X at *
        have hzs := o3.sl
        have hxs := o1.sl.ext e2
        have hzl : zs.length = m + 2 := mv1
        refine runM ?_
        rw [hzl, lo, show k0 + m + 1 + 1 - (m + 2) = k0 by omega]
        (apply (s_make (f := U) (bytes := 8) (0)); (first | exact isK_c | exact isK_t rfl); (first | exact isK_c | exact isK_t rfl); exact rfl; exact rfl; exact rfl; exact rfl; exact rfl; exact rfl; omega; omega; omega)
        intro qv h3 o4 e3 b3
        refine clsI ?_
        have o1' := o1.ext (e2.trans e3)
        have hzs' := hzs.ext e3
        have nzx := OwnF.ne o1 o3 (Nat.le_refl _)
        have nqx := OwnF.ne o1 o4 e2.1
        have nxq := OwnF.ne' o1 o4 e2.1
        have nzq := OwnF.ne' o3 o4 (Nat.le_refl _)
        have htop := top_lt (b := 18446744073709551616) (k := k0) (m := m + 1) (H := 9223372036854775808) (Y := Y) ao (by omega) (by omega) (by
          have : 2 ^ s ≤ 2 ^ 63 := Nat.pow_le_pow_right (by omega) (by omega)
          rw [← Nat.add_assoc]; omega) mv3
        refine runM ?_
        rw [show (List.replicate k0 0).length = k0 from List.length_replicate]
        refine runM ?_
        (first | (apply w_seqB; exact rfl; apply w_block; exact rfl) | skip)
        apply (w_loop (σ := Nat × List Nat × List Nat) rfl (fun p => [(9, U s), (10, x0), (11, vz), (12, N (m + 2)), (13, qv), (14, I ((p.1 : Int) - 1))])
          (fun p h' => Ext h h' ∧ OwnF h' h.size 26 U x0 p.2.1 ∧ OwnF h' h2.size 26 U qv p.2.2 ∧ SlF h' U vz zs ∧ p.2.1.length = k0 + m + 2 ∧ Al 18446744073709551616 p.2.1 ∧ p.2.2.length = k0 ∧ Al 18446744073709551616 p.2.2 ∧ p.1 ≤ k0 ∧
            vl 18446744073709551616 (p.2.1.drop (p.1 + (m + 2))) = 0 ∧ vl 18446744073709551616 (p.2.1.drop p.1) < Y ∧
            vl 18446744073709551616 p.2.1 + 18446744073709551616 ^ p.1 * vl 18446744073709551616 (p.2.2.drop p.1) * Y = X) (fun p => p.1) (k0, os, List.replicate k0 0))
        · exact subsX
        · refine ⟨(e1.trans e2).trans e3, o1', o4, hzs', by simp only []; omega, ao, by simp, Al.replicate (by omega) _, Nat.le_refl _, ?_, htop, ?_⟩
          · rw [List.drop_of_length_le (by simp only []; omega)]; rfl
          · simp only [List.drop_replicate, Nat.sub_self, List.replicate_zero, vl, Nat.mul_zero, Nat.zero_mul, Nat.add_zero]; exact vo
        · rintro ⟨k, us, qs⟩ h4 ⟨e4, p1, p2, p3, i1, i2, i3, i4, i5, i6, i7, i8⟩
          dsimp only at e4 p1 p2 p3 i1 i2 i3 i4 i5 i6 i7 i8 ⊢
          refine runM ?_
          (apply w_condD; exact rfl; exact rfl) <;> intro hk
          · obtain ⟨i, rfl⟩ : ∃ i, k = i + 1 := ⟨k - 1, by omega⟩
            (apply w_know (t := 14) (u := N (i)) rfl (congrArg I (by omega)))
            obtain ⟨pre, ws, post, rfl, rfl, hwl⟩ := split3 us i (m + 3) (by omega)
            have hpost : vl 18446744073709551616 post = 0 := by
              rw [show pre.length + 1 + (m + 2) = pre.length + ws.length by omega, drop_post] at i6; exact i6
            have hwlt := win_lt i2 (by omega) (by omega) hpost i7
            have hwa : Al 18446744073709551616 ws := fun x hx => i2 x (by simp [hx])
            refine runM ?_
            apply (s_call Tryz_ent167 rfl rfl rfl)
            refine (digit_spec x0 _ vz pre ws post zs m h.size h4 p1 (by rw [hwl]; rfl) p3 nzx hwa hza hwl hzl (by omega) (by omega) (by rw [hzv]; exact hwlt)).mono ?_
            rintro _ h5 ⟨rfl, k5, ws', hwl', hwa', hwv, p5⟩
            refine clsI ?_
            rw [hzv] at hwv
            rw [hzv]
            obtain ⟨d1, d2, d3⟩ := div_step (m := m + 2) (qs := qs) (by omega) (by omega) (by omega) hwa' hpost mv4 rfl hwv hY0 (by omega) i8
            have hql : vl 18446744073709551616 ws / Y < 18446744073709551616 := (Nat.div_lt_iff_lt_mul hY0).2 (by rw [Nat.mul_comm]; exact hwlt)
            have e5 := p1.old k5 e4 (Nat.le_refl _)
            have p2' := p2.only k5 nqx
            have p3' := p3.only k5 nzx
            have hpl : (pre ++ ws' ++ post).length = k0 + m + 2 := by rw [← i1]; simp [hwl, hwl']
            have hpa : Al 18446744073709551616 (pre ++ ws' ++ post) := fun x hx => by
              rcases List.mem_append.1 hx with hx | hx
              · rcases List.mem_append.1 hx with hx | hx
                · exact i2 x (by simp [hx])
                · exact hwa' x hx
              · exact i2 x (by simp [hx])
            generalize vl 18446744073709551616 ws / Y = q at *
            generalize hus : pre ++ ws' ++ post = us at *
            generalize hii : pre.length = i at *
            refine runM ?_
            (apply (s_storeF (q)); exact rfl; exact rfl; exact rfl; exact rfl; exact rfl; exact p2'; exact rfl; (first | assumption | omega))
            intro h6 p6 k6
            refine clsI ?_
            have e6 := p2'.old k6 e5 (Nat.le_trans e1.1 e2.1)
            have p5' := p5.only k6 nxq
            have p3'' := p3'.only k6 nzq
            clear k5 k6 p2' p3' e5 i6 i7 i8 hus hwlt hwa hpost i1 i2 p1
            refine runM ?_
            apply again_normal (i, us, qs.set i q)
            · exact subs
            · exact ⟨e6, p5', p6, p3'', hpl, hpa, by simpa using i3, i4.set hql _, by simp only []; omega, d1, d2, d3⟩
            · exact Nat.lt_succ_self i
          · obtain rfl : k = 0 := by omega
            simp only [List.drop_zero, Nat.pow_zero, Nat.one_mul, Nat.zero_add] at i6 i7 i8
            obtain ⟨f1, f2⟩ := div_mod_of i8 i7
            rw [hq2] at f1
            rw [hr2] at f2
            have hwn : vl 18446744073709551616 us = pv 18446744073709551616 us (m + 2) := by
              rw [vl_split us (m + 2), i6, Nat.mul_zero, Nat.add_zero]
            have hun : us.getD (m + 2) 0 = 0 := by
              by_cases hlt' : m + 2 < us.length
              · rw [vl_drop_head hlt'] at i6; omega
              · exact getD_none (by omega)
            have hkl : m + 3 ≤ us.length := by omega
            clear i6 i7 i8
            refine runM ?_
            (apply (s_make (f := U) (bytes := 8) (0)); (first | exact isK_c | exact isK_t rfl); (first | exact isK_c | exact isK_t rfl); exact rfl; exact rfl; exact rfl; exact rfl; exact rfl; exact rfl; omega; omega; omega)
            intro rv h5 o5 e5 b5
            refine clsI ?_
            have p1' := p1.ext e5
            have nxr := OwnF.ne' p1 o5 (Nat.le_refl _)
            have nqr := OwnF.ne' p2 o5 (Nat.le_refl _)
            refine runM ?_
            rw [show (List.replicate (m + 2) 0).length = m + 2 from List.length_replicate]
            (first | (apply w_seqB; exact rfl; apply w_block; exact rfl) | skip)
            apply (w_loop (σ := Nat × List Nat) rfl (fun p => [(9, U s), (10, x0), (13, qv), (15, rv), (92, rv), (93, N (m + 2)), (94, N p.1)])
              (fun p h' => Ext h h' ∧ OwnF h' h.size 26 U x0 us ∧ OwnF h' h2.size 26 U qv qs ∧ OwnF h' h4.size 26 U rv p.2 ∧ p.2.length = m + 2 ∧ Al 18446744073709551616 p.2 ∧ p.1 ≤ m + 2 ∧
                2 ^ s * pv 18446744073709551616 p.2 p.1 + us.getD 0 0 % 2 ^ s = pv 18446744073709551616 us p.1 + 18446744073709551616 ^ p.1 * (us.getD p.1 0 % 2 ^ s)) (fun p => m + 2 - p.1) (0, List.replicate (m + 2) 0))
            · exact subs
            · exact ⟨e4.trans e5, p1', p2.ext e5, o5, by simp, Al.replicate (by omega) _, Nat.zero_le _, by simp [pv]⟩
            · rintro ⟨j, rs⟩ h6 ⟨e6, r1, r2, r3, j1, j2, j3, j4⟩
              dsimp only at e6 r1 r2 r3 j1 j2 j3 j4 ⊢
              refine runM ?_
              (apply w_condD; exact rfl; exact rfl) <;> intro hj
              · have hxj := i2.getD (by omega) j
                have hxj1 := i2.getD (by omega) (j + 1)
                obtain ⟨ho1, ho2⟩ := shr_or (y := us.getD (j + 1) 0) hxj (s := s) (by omega)
                have hst := shr_step (b := 18446744073709551616) (x := us.getD j 0) (t' := us.getD (j + 1) 0 % 2 ^ s) (m := 2 ^ (64 - s)) j4 (by have := Nat.div_add_mod (us.getD j 0) (2 ^ s); rw [Nat.mul_comm] at this; exact this.symm)
                  (by rw [← Nat.pow_add, show s + (64 - s) = 64 by omega])
                have hdl : us.getD j 0 / 2 ^ s < 18446744073709551616 := Nat.lt_of_le_of_lt (Nat.div_le_self _ _) hxj
                have hml := Num.modW (us.getD (j + 1) 0 * 2 ^ (64 - s))
                have sx1 := r1.sl
                refine runMN ?_
                (apply (r_drawnO (rv.ownBlock)); exact rfl; exact mixed; kernel_rfl)
                refine runM ?_
                rw [ho1]
                generalize us.getD j 0 / 2 ^ s + us.getD (j + 1) 0 % 2 ^ s * 2 ^ (64 - s) = rw at *
                refine runM ?_
                (apply (s_storeF (rw)); exact rfl; exact rfl; exact rfl; exact rfl; exact rfl; exact r3; exact rfl; (first | assumption | omega))
                intro h7 r7 k7
                refine clsI ?_
                have e7 := r3.old k7 e6 e4.1
                have r1' := r1.only k7 nxr
                have r2' := r2.only k7 nqr
                refine runM ?_
                apply again_normal (j + 1, rs.set j rw)
                · exact subs
                · refine ⟨e7, r1', r2', r7, by simpa using j1, j2.set ho2 _, hj, ?_⟩
                  simp only [pv]
                  rw [pv_set (Nat.le_refl _), getD_set_self (by omega), Nat.pow_succ]
                  exact hst
                · simp only []; omega
              · obtain rfl : j = m + 2 := by omega
                rw [hun, Nat.zero_mod, Nat.mul_zero, Nat.add_zero, ← hwn, f2, pv_full (by omega)] at j4
                have hrest : vl 18446744073709551616 rs = vl 18446744073709551616 xs % vl 18446744073709551616 ys := rest_of (Nat.pow_pos (by omega)) j4
                refine runM ?_
                apply (s_call Tryz_ent126 rfl rfl rfl)
                refine (norm_spec qv qs h6 r2.sl (by omega)).mono ?_
                rintro vq _ ⟨rfl, -, oq⟩
                refine clsI ?_
                have oq := oq _ _ r2
                rw [nrm_eq (by omega) i4, f1] at oq
                refine runM ?_
                apply (s_call Tryz_ent126 rfl rfl rfl)
                refine (norm_spec rv rs h6 r3.sl (by omega)).mono ?_
                rintro vr _ ⟨rfl, -, or⟩
                refine clsI ?_
                have or := or _ _ r3
                rw [nrm_eq (by omega) j2, hrest] at or
                refine runM ?_
                exact fin3 rfl rfl rfl rfl ⟨_, _, rfl, e6, oq.base (Nat.le_trans e1.1 e2.1), or.base e4.1⟩
end Go.Proofs.YtfcmdefigldpnaaGreatDoor

