/- Texts BouD to BouF of this work, joined: each says in its own head what it proves, and of which condition. -/
import Derived.Test.YtajgcmgkhmkmbaaDoorMBou23
/- Package bound: what fits (drawn regions with floats). Condition of what tests primes: the table of math/bits reads as it is laid. -/
namespace Go.Proofs.YtajgcmgkhmkmbaaDoor
set_option linter.unusedVariables false
set_option maxRecDepth 8000
open Go Go.Den Go.RowKit Go.Dig

theorem one_len {n : Nat} (h : n < 18446744073709551616) : (dg 18446744073709551616 n).length < 10000 := by
  have := dg_len (b := 18446744073709551616) (n := n) (k := 1) (by decide) (by rw [Nat.pow_one]; exact h)
  omega

theorem mul_bound {B x y c k : Nat} (hx : x < B ^ y) (hk : y ≤ k) (hc : c ≤ B) (hB : 0 < B := by decide) : c * x < B ^ (k + 1) := by
  have h1 : B ^ y ≤ B ^ k := Nat.pow_le_pow_right (by omega) hk
  rw [Nat.pow_succ, Nat.mul_comm]
  exact Nat.lt_of_le_of_lt (Nat.mul_le_mul_left _ hc) (Nat.mul_lt_mul_of_pos_right (by omega) hB)
theorem add_bound {x y k : Nat} (hx : x < 18446744073709551616 ^ k) (hy : y < 18446744073709551616 * 18446744073709551615) (hk : 1 ≤ k := by decide) : x + y < 18446744073709551616 ^ (k + 1) := by
  obtain ⟨m, rfl⟩ : ∃ m, k = m + 1 := ⟨k - 1, by omega⟩
  have h1 : 1 ≤ 18446744073709551616 ^ m := Nat.pow_pos (by decide)
  rw [Nat.pow_succ] at hx ⊢
  rw [Nat.pow_succ]
  generalize 18446744073709551616 ^ m = z at *
  have h2 : 1 * (18446744073709551616 * 18446744073709551615) ≤ z * (18446744073709551616 * 18446744073709551615) := Nat.mul_le_mul_right _ h1
  omega

theorem cmpI_lt0 {a b : Nat} : cmpI a b < 0 ↔ a < b := by
  unfold cmpI
  split
  · omega
  · split <;> omega

def fitS (p : ParD) (l : Int) (A : Nat) : Nat := 2 * p.t * A + levM p l % p.t * (p.t - 1)
def fitP (p : ParD) (l : Int) (A : Nat) : Prop := levE p l = 0 ∧ fitS p l A < levM p l
instance (p : ParD) (l : Int) (A : Nat) : Decidable (fitP p l A) := by unfold fitP; exact inferInstance

theorem Tryd_ent33 : Ent Tryd.prog 33 := ent_of Tryd.func33 (by kernel_rfl) rfl
set_option maxHeartbeats 4000000 in
theorem fits14_spec (p : ParD) (l : Int) (va : Value) (xs : List Nat) (h : Hp) (T : TB h) (A : ParAt h p) (sa : SlF h U va xs) (ha : Al 18446744073709551616 xs) (la : xs.length < 1000) (hlo : -9223372036854775808 ≤ l) (hhi : l < 9223372036854775808) :
    CallsH Tryd.prog 33 [.agg p.cells.toArray, I l, va] h fun v' h' => Ext h h' ∧ v' = .bool (decide (fitP p l (vl 18446744073709551616 xs))) := by
  have F := fun h T A => bat_spec p l h T A hlo hhi
  unfold ParD.cells at F ⊢
  (apply enter Tryd.func33 rfl Tryd.ntmps33 rfl)
  refine runJ ?_
  (apply s_box; exact rfl; exact rfl; exact rfl; exact rfl)
  intro p1 h1 x1 e1 b1
  (try dsimp only [Value.cells, List.toList_toArray] at x1)
  refine ⟨(by first | exact trivial | exact Ext.refl _ | assumption | exact Ext.trans (by assumption) (by assumption)), ?_⟩
  refine runJ ?_
  apply (s_call Tryd_ent57 rfl rfl rfl)
  refine (F h1 (T.ext e1) (A.ext e1)).mono ?_
  rintro _ h2 ⟨e2, g, rfl, hg⟩
  refine ⟨(by first | exact trivial | exact trivial), ?_⟩
  have e12 := e1.trans e2
  by_cases hE : levE p l = 0
  · obtain ⟨q, G, sq, nq, gb, hgb, hgl⟩ := hg hE
    clear hg F
    have hp := (levE_par hE).1
    have sa2 := sa.ext e12
    have ea := el_old sa hgb (Nat.le_trans e1.1 hgl)
    have x2 := x1.ext e2
    have nx := x1.ne_new hgb hgl
    have ht := hp.2.1.1
    have htp := par_t hp
    have hrr : levM p l % p.t < p.t := Nat.mod_lt _ htp
    have hfit : fitP p l (vl 18446744073709551616 xs) ↔ fitS p l (vl 18446744073709551616 xs) < levM p l := ⟨fun k => k.2, fun k => ⟨hE, k⟩⟩
    rw [hE]
    unfold fitS at hfit
    generalize levM p l % p.t = rr at *
    have eq0 : El g q (dg 18446744073709551616 (levM p l)).length := .inr nq
    have hml := levM_len (l := l) hp A.al
    have PT : ∀ h', ChP h2 g (I p.n) (U p.t) p.vq (I p.w) q (U rr) h' → ∃ e cs, Var h' p1 e cs ∧ nth cs 1 = some (U p.t) := fun h' hc => ⟨_, _, x2.only hc.only nx, rfl⟩
    have PRr : ∀ h', ChP h2 g (I p.n) (U p.t) p.vq (I p.w) q (U rr) h' → ∃ e cs, Var h' g e cs ∧ nth cs 5 = some (U rr) := fun h' hc => let ⟨vS, hv⟩ := hc.var; ⟨_, _, hv, rfl⟩
    have PQ : ∀ h', ChP h2 g (I p.n) (U p.t) p.vq (I p.w) q (U rr) h' → ∃ e cs, Var h' g e cs ∧ nth cs 4 = some q := fun h' hc => let ⟨vS, hv⟩ := hc.var; ⟨_, _, hv, rfl⟩
    refine runJN ?_
    refine r_drawnKR (ChP h2 g (I p.n) (U p.t) p.vq (I p.w) q (U rr)) (fun i => Nat.beq i 4 || Nat.beq i 7 || Nat.beq i 9 || Nat.beq i 18) (fun i => Nat.beq i 22) (Only (pblk g))
      (fun i => match i with | 4 => PhW g (dg 18446744073709551616 2) | 7 => PhW g (dg 18446744073709551616 p.t) | 9 => fun v h => ∃ u1 u2, PhR g [(u1, dg 18446744073709551616 2), (u2, dg 18446744073709551616 p.t), (va, xs)] v h | _ => PhW g [rr, p.t - 1]) rfl mixed (by kernel_rfl) (fun _ _ e => e.only _) ?_ ⟨Only.refl _ _, _, G⟩ ?_
    · intro i v h h' hp k
      split at hp
      · exact PhW.only hp k
      · exact PhW.only hp k
      · obtain ⟨u1, u2, hp⟩ := hp
        exact ⟨u1, u2, PhR.only hp k⟩
      · exact PhW.only hp k
    refine k_run (j := 4) h2 rfl rfl (by kernel_rfl) (by kernel_rfl) ?_
    refine runJ ?_
    refine ⟨⟨rfl, ?_⟩⟩
    refine k_fcallX rfl rfl rfl rfl Tryd_ent43 rfl (fun h hC _ => (of_spec 2 h (by omega)).mono fun v h' ⟨e, o⟩ => ⟨e, hC.ext e, o.sl, el_new o hgb (hC.lt hgb)⟩) (fun v4 hxv4 => ?_)
    have onev4 : v4.oneCell' = true := by obtain ⟨_, _, p⟩ := hxv4; exact p.1.one
    clear hxv4
    refine k_run (j := 7) h2 rfl rfl (by kernel_rfl) (by kernel_rfl) ?_
    refine runJ ?_
    refine s_loadCell (u := U p.t) (off := 1) rfl rfl (rd_cl PT) rfl ?_
    refine runJ ?_
    refine ⟨⟨rfl, ?_⟩⟩
    refine k_fcallX rfl rfl rfl rfl Tryd_ent43 rfl (fun h hC _ => (of_spec p.t h (by omega)).mono fun v h' ⟨e, o⟩ => ⟨e, hC.ext e, o.sl, el_new o hgb (hC.lt hgb)⟩) (fun v7 hxv7 => ?_)
    have onev7 : v7.oneCell' = true := by obtain ⟨_, _, p⟩ := hxv7; exact p.1.one
    clear hxv7
    refine k_run (j := 9) h2 rfl rfl (by kernel_rfl) (by kernel_rfl) ?_
    refine runJ ?_
    refine ⟨⟨rfl, ?_⟩⟩
    refine k_lit (f := Prod.fst) rfl rfl rfl rfl [(v4, dg 18446744073709551616 2), (v7, dg 18446744073709551616 p.t), (va, xs)] rfl rfl rfl rfl rfl rfl (List.forall_mem_cons.2 ⟨onev4, List.forall_mem_cons.2 ⟨onev7, List.forall_mem_cons.2 ⟨sa.one, fun _ h => nomatch h⟩⟩⟩) rfl (by omega) (fun h' v h'' hC hT o e _ => ?_) (fun v9 => ?_)
    · have P4 : PhW g (dg 18446744073709551616 2) v4 h' := hT (4, v4) (by simp) (by kernel_rfl)
      have P7 : PhW g (dg 18446744073709551616 p.t) v7 h' := hT (7, v7) (by simp) (by kernel_rfl)
      have := phR_lit hgb hC o e fun x hx => by
        simp only [List.mem_cons, List.not_mem_nil, or_false] at hx
        rcases hx with rfl | rfl | rfl
        · exact ⟨P4.1, P4.2, al_dg (by decide) _, one_len (by decide)⟩
        · exact ⟨P7.1, P7.2, al_dg (by decide) _, one_len (by omega)⟩
        · exact ⟨hC.row sa2 ea, ea, ha, by dsimp only; omega⟩
      exact ⟨this.1, _, _, this.2⟩
    refine k_call rfl rfl rfl rfl Tryd_ent60 rfl ?_
    intro h3 hC3 hD3 hT3
    obtain ⟨u1, u2, P9⟩ : ∃ u1 u2, PhR g [(u1, dg 18446744073709551616 2), (u2, dg 18446744073709551616 p.t), (va, xs)] v9 h3 := hT3 (9, v9) (by simp)
    have AD := padd_spec g (.slice none 0 0) v9 _ _ _ _ _ _ 0 _ h3 (G.ext hD3) (SlF.nil _ _) P9.1 (by simp) (by decide)
    rw [show prodR [(u1, dg 18446744073709551616 2), (u2, dg 18446744073709551616 p.t), (va, xs)] = 2 * p.t * vl 18446744073709551616 xs by simp [prodR, vl_of], Nat.zero_add] at AD
    refine AD.mono ?_
    rintro g1 h4 ⟨rfl, k4, w4, G4, o4⟩
    refine ⟨⟨hC3.only.trans k4, _, G4⟩, .inl ⟨k4, ?_⟩⟩
    have o4 := o4.sl
    clear AD hT3
    refine k_run (j := 18) h4 rfl rfl (by kernel_rfl) (by kernel_rfl) ?_
    refine runJ ?_
    refine s_loadCell (u := U rr) (off := 5) rfl rfl (rd_cl PRr) rfl ?_
    refine runJ ?_
    refine s_loadCell (u := U p.t) (off := 1) rfl rfl (rd_cl PT) rfl ?_
    refine runJ ?_
    refine ⟨⟨rfl, ?_⟩⟩
    refine k_lit (f := U) rfl rfl rfl rfl [rr, p.t - 1] rfl rfl rfl rfl rfl rfl (fun u hu => by obtain ⟨y, -, rfl⟩ := List.mem_map.1 (show u ∈ List.map U [rr, p.t - 1] from hu); rfl) rfl (by omega) (fun h' v h'' hC _ o e _ => phW_lit hgb hC o e) (fun v18 => ?_)
    refine k_call rfl rfl rfl rfl Tryd_ent59 rfl ?_
    intro h7 hC7 hD7 hT7
    have P7 : PhW g1 [rr, p.t - 1] v18 h7 := hT7 (18, v18) (by simp)
    obtain ⟨z, hz⟩ : ∃ z : Nat, z = 1000 := ⟨_, rfl⟩
    have hb1 : 2 * p.t * vl 18446744073709551616 xs < 18446744073709551616 ^ (z + 1) := mul_bound (k := z) (vl_lt ha) (by omega) (by omega)
    have AD := pwords_spec g1 w4 v18 _ _ _ _ _ _ _ [rr, p.t - 1] h7 (G4.ext hD7) (o4.ext hD7) P7.1 (by intro x hx; simp only [List.mem_cons, List.not_mem_nil, or_false] at hx; rcases hx with rfl | rfl <;> omega) (by simp) (sum_len hb1 (by omega))
    rw [show prodL [rr, p.t - 1] = rr * (p.t - 1) by simp [prodL]] at AD
    refine AD.mono ?_
    rintro g3 h8 ⟨rfl, k8, w8, G8, o8⟩
    refine ⟨⟨hC7.only.trans k8, _, G8⟩, .inl ⟨k8, ?_⟩⟩
    have o8 := o8.sl
    have hb2 : 2 * p.t * vl 18446744073709551616 xs + rr * (p.t - 1) < 18446744073709551616 ^ (z + 1 + 1) := by
      have h1 : rr * (p.t - 1) ≤ 1073741824 * 1073741824 := Nat.mul_le_mul (by omega) (by omega)
      exact add_bound hb1 (Nat.lt_of_le_of_lt h1 (by decide)) (by omega)
    have hsl := sum_len hb2 (by omega)
    clear AD hT7
    refine k_run (j := 22) h8 rfl rfl (by kernel_rfl) (by kernel_rfl) ?_
    refine runJ ?_
    refine ⟨⟨rfl, ?_⟩⟩
    refine k_load (p := g3) (u := w8) (off := 6) rfl rfl rfl rfl rfl rfl (fun _ _ x y => x.trans y) (fun _ => Only.refl _ _) (fun h' _ hD _ => ⟨_, _, G8.ext hD, rfl⟩) ?_
    refine k_run (j := 27) h8 rfl rfl (by kernel_rfl) (by kernel_rfl) ?_
    refine runJ ?_
    refine s_loadCell (u := q) (off := 4) rfl rfl (rd_cl PQ) rfl ?_
    refine runJ ?_
    refine ⟨⟨rfl, ?_⟩⟩
    refine k_call rfl rfl rfl rfl Tryd_ent63 rfl ?_
    intro h9 hC9 hD9 _
    have CM := cmp_spec w8 q _ _ h9 (o8.ext hD9) (hC9.row sq eq0) (al_dg (by decide) _) (al_dg (by decide) _) (by omega) (by omega)
    rw [vl_of, vl_of] at CM
    refine CM.mono ?_
    rintro _ _ ⟨rfl, rfl⟩
    refine ⟨hC9, .inr ⟨by kernel_rfl, ?_⟩⟩
    refine k_run (j := 31) h9 rfl rfl (by kernel_rfl) (by kernel_rfl) ?_
    refine runJ ?_
    refine ⟨⟨rfl, ?_⟩⟩
    refine k_done rfl ?_
    intro h10 hC10 _ _
    refine runJ ?_
    refine fin1 rfl rfl ⟨e1.trans (hC10.only.oldV e2 hgb hgl), ?_⟩
    exact dec_i ⟨fun k => hfit.2 (cmpI_lt0.1 k), fun k => cmpI_lt0.2 (hfit.1 k)⟩
  · rw [show (decide (fitP p l (vl 18446744073709551616 xs))) = false from decide_eq_false fun k => hE k.1]
    refine runJN ?_
    refine r_drawnKR (Ext h2) (fun i => Nat.beq i 4 || Nat.beq i 7 || Nat.beq i 9 || Nat.beq i 18) (fun i => Nat.beq i 22) (fun _ _ => True) (fun _ _ _ => True) rfl mixed (by kernel_rfl) (fun _ _ _ => trivial) (fun _ _ _ _ _ _ => trivial) (Ext.refl _) ?_
    refine k_run (j := 4) h2 rfl rfl (by kernel_rfl) (by kernel_rfl) ?_
    refine runJ ?_
    (apply s_splitG; exact rfl; exact rfl; exact rfl; exact rfl) <;> intro g1
    · exact absurd g1 (by omega)
    refine runJ ?_
    refine ⟨⟨rfl, ?_⟩⟩
    refine k_skip rfl rfl rfl rfl ?_
    refine k_run (j := 7) h2 rfl rfl (by kernel_rfl) (by kernel_rfl) ?_
    refine runJ ?_
    refine ⟨⟨rfl, ?_⟩⟩
    refine k_skip rfl rfl rfl rfl ?_
    refine k_run (j := 9) h2 rfl rfl (by kernel_rfl) (by kernel_rfl) ?_
    refine runJ ?_
    refine ⟨⟨rfl, ?_⟩⟩
    refine k_skip rfl rfl rfl rfl ?_
    refine k_run (j := 18) h2 rfl rfl (by kernel_rfl) (by kernel_rfl) ?_
    refine runJ ?_
    refine ⟨⟨rfl, ?_⟩⟩
    refine k_skip rfl rfl rfl rfl ?_
    refine k_run (j := 31) h2 rfl rfl (by kernel_rfl) (by kernel_rfl) ?_
    refine runJ ?_
    refine ⟨⟨rfl, ?_⟩⟩
    refine k_done rfl ?_
    intro h10 hC10 _ _
    refine runJ ?_
    exact fin1 rfl rfl ⟨e12.trans hC10, rfl⟩
end Go.Proofs.YtajgcmgkhmkmbaaDoor

/- Package bound: switches. Condition of what tests primes: the table of math/bits reads as it is laid. -/
namespace Go.Proofs.YtajgcmgkhmkmbaaDoor
set_option linter.unusedVariables false
set_option maxRecDepth 8000
open Go Go.Den Go.RowKit Go.Dig

theorem vl_bound {xs : List Nat} {k : Nat} (ha : Al 18446744073709551616 xs) (la : xs.length ≤ k) : vl 18446744073709551616 xs < 18446744073709551616 ^ k := Nat.lt_of_lt_of_le (vl_lt ha) (Nat.pow_le_pow_right (by decide) la)
theorem el_cut {g v : Value} {n s lo hi k : Nat} (e : El g v n) (hn : n ≠ 0) : El g (cutV s v lo hi) k := by
  refine .inr ?_
  rcases e with e | e
  · exact absurd e hn
  cases v with
  | slice a n c =>
    cases a with
    | none => left; simp only [cutV, Option.map_none]; split <;> rfl
    | some a =>
      have h : (cutV s (.slice (some a) n c) lo hi).ownBlock = (Value.slice (some a) n c).ownBlock := by
        simp only [cutV, Option.map_some]
        split
        · rfl
        · simp only [Value.ownBlock, Addr.add]
          try (split <;> rfl)
      rw [h]; exact e
  | _ => exact e

def swL (c : Nat) (row : List Nat) : Nat := row.foldl (fun s q => s + c * ((q - 1) / 2)) 0
theorem swL_snoc (c : Nat) (row : List Nat) (q : Nat) : swL c (row ++ [q]) = swL c row + c * ((q - 1) / 2) := by unfold swL; rw [List.foldl_append]; rfl
theorem swL_le {c : Nat} {row : List Nat} (hc : c ≤ 65536) (hq : ∀ q ∈ row, q < 1125899906842624) : ∀ j, j ≤ row.length → swL c (row.take j) ≤ j * 73786976294838206464
  | 0, _ => by simp [swL]
  | j + 1, hj => by
    obtain ⟨q, hqj⟩ := get_lt hj
    have ih := swL_le hc hq j (by omega)
    have h1 := hq q (List.mem_of_getElem? hqj)
    have h2 : c * ((q - 1) / 2) ≤ 65536 * 1125899906842624 := Nat.mul_le_mul hc (by omega)
    rw [take_snoc hqj, swL_snoc]
    omega
def swS (p : ParD) (l : Int) (A : Nat) : Nat := A + swL (p.n.toNat * p.w.toNat) (p.q.take (l.toNat + 1))

theorem Tryd_ent30 : Ent Tryd.prog 30 := ent_of Tryd.func30 (by kernel_rfl) rfl
set_option maxHeartbeats 2000000 in
theorem switch14_spec (p : ParD) (l : Int) (va : Value) (xs : List Nat) (h : Hp) (T : TB h) (A : ParAt h p) (sa : SlF h U va xs) (ha : Al 18446744073709551616 xs) (la : xs.length < 1000) (hlo : -9223372036854775808 ≤ l) (hhi : l < 9223372036854775808) :
    CallsH Tryd.prog 30 [.agg p.cells.toArray, I l, va] h fun v' h' => Ext h h' ∧ ∃ r, v' = .tuple #[r, N (levE p l)] ∧ OwnF h' h.size 31 U r (if levE p l = 0 then dg 18446744073709551616 (swS p l (vl 18446744073709551616 xs)) else []) ∧ (if levE p l = 0 then dg 18446744073709551616 (swS p l (vl 18446744073709551616 xs)) else []).length < 10000000 := by
  have F := fun h T A => bat_spec p l h T A hlo hhi
  unfold ParD.cells at F ⊢
  (apply enter Tryd.func30 rfl Tryd.ntmps30 rfl)
  refine runJ ?_
  (apply s_box; exact rfl; exact rfl; exact rfl; exact rfl)
  intro p1 h1 x1 e1 b1
  (try dsimp only [Value.cells, List.toList_toArray] at x1)
  refine ⟨(by first | exact trivial | exact Ext.refl _ | assumption | exact Ext.trans (by assumption) (by assumption)), ?_⟩
  refine runJ ?_
  apply (s_call Tryd_ent57 rfl rfl rfl)
  refine (F h1 (T.ext e1) (A.ext e1)).mono ?_
  rintro _ h2 ⟨e2, g, rfl, hg⟩
  refine ⟨(by first | exact trivial | exact trivial), ?_⟩
  have e12 := e1.trans e2
  by_cases hE : levE p l = 0
  · obtain ⟨q, G, sq, nq, gb, hgb, hgl⟩ := hg hE
    clear hg F
    obtain ⟨hp, hl0, hl1⟩ := levE_par hE
    have hn := rowF_pos hp.1.1
    have hw := hp.1.2
    have hqb : ∀ q ∈ p.q, q < 1125899906842624 := fun q hq => (hp.2.2.1.1 q hq).1
    have hq1 : ∀ q ∈ p.q, 1 ≤ q := fun q hq => by
      have h1 := (hp.2.2.1.1 q hq).2.2.1
      rcases Nat.eq_zero_or_pos q with h0 | h0
      · rw [h0, Nat.zero_mod] at h1; omega
      · exact h0
    have sa2 := sa.ext e12
    have ea := el_old sa hgb (Nat.le_trans e1.1 hgl)
    have x2 := x1.ext e2
    have nx := x1.ne_new hgb hgl
    have r2 := A.row.ext e12
    have er := el_old A.row hgb (Nat.le_trans e1.1 hgl)
    rw [if_pos hE, hE]
    unfold swS
    obtain ⟨m, rfl⟩ : ∃ m : Nat, l = (m : Int) := ⟨l.toNat, by omega⟩
    rw [Int.toNat_natCast]
    obtain ⟨n, hnn⟩ : ∃ n : Nat, p.n = (n : Int) := ⟨p.n.toNat, by omega⟩
    obtain ⟨w, hww⟩ : ∃ w : Nat, p.w = (w : Int) := ⟨p.w.toNat, by omega⟩
    have hc : n * w ≤ 65536 := Nat.le_trans (Nat.mul_le_mul (show n ≤ 4096 by omega) (show w ≤ 16 by omega)) (by decide)
    rw [hnn, hww] at x2 G ⊢
    rw [Int.toNat_natCast, Int.toNat_natCast]
    generalize levM p m % p.t = rr at *
    refine runJ ?_
    (apply (s_lit (f := Prod.fst) (vs := [va]) [(va, xs)]); exact rfl; exact rfl; exact rfl; exact rfl; exact rfl; exact rfl; exact OneAll.all (OneAll.cons sa.one OneAll.nil); exact rfl; exact rfl; exact rfl; omega)
    intro v3 h3 o3 e3 b3
    refine ⟨(by first | exact trivial | exact Ext.refl _ | assumption | exact Ext.trans (by assumption) (by assumption)), ?_⟩
    have ev3 := (show El g v3 1 from el_new o3 hgb (Nat.lt_of_lt_of_le (show gb < h2.size by obtain ⟨j, hj, hlt⟩ := G.blk; rw [hgb] at hj; cases hj; exact hlt) (Nat.le_refl _)))
    have R3 : RowN h3 v3 [(va, xs)] := ⟨o3.sl, fun x hx => by simp only [List.mem_singleton] at hx; subst hx; exact ⟨sa2.ext e3, ha, by dsimp only; omega⟩⟩
    have AD := padd_spec g (.slice none 0 0) v3 _ _ _ _ _ _ 0 [(va, xs)] h3 (G.ext e3) (SlF.nil _ _) R3 (by simp) (by decide)
    rw [prodR_one, Nat.zero_add] at AD
    refine runJ ?_
    apply (s_call Tryd_ent60 rfl rfl rfl)
    refine (AD).mono ?_
    rintro g1 h4 ⟨rfl, k4, w4, G4, o4⟩
    refine ⟨(by first | exact trivial | exact trivial), ?_⟩
    have hql := hp.2.2.1.2.2.2
    have x4 := (x2.ext e3).only k4 nx
    have r4 := SlF.keep (r2.ext e3) k4 er
    have c4 := r4.cut (lo := 0) (hi := m + 1) (Nat.zero_le _) (by omega)
    rw [List.drop_zero, Nat.sub_zero] at c4
    have e24 : Only (pblk g1) h2 h4 := (e3.only _).trans k4
    have erc : El g1 (cutV 1 p.vq 0 (m + 1)) (p.q.take (m + 1)).length := el_cut er (by omega)
    have hrw : ∀ x ∈ p.q.take (m + 1), x < 1125899906842624 := fun x hx => hqb x (List.mem_of_mem_take hx)
    have hr1 : ∀ x ∈ p.q.take (m + 1), 1 ≤ x := fun x hx => hq1 x (List.mem_of_mem_take hx)
    have hrl : (p.q.take (m + 1)).length ≤ 8 := by rw [List.length_take]; have := hp.2.2.1.2.2.2; omega
    have SL := swL_le hc hrw
    have hb0 := vl_bound ha (Nat.le_of_lt la)
    have o4' := o4.base (Nat.le_trans e12.1 e3.1)
    clear o4 AD
    generalize vl 18446744073709551616 xs = X at *
    refine runJ ?_
    generalize p.q.take (m + 1) = row at *
    generalize cutV 1 p.vq 0 (m + 1) = vrow at *
    have hbj : ∀ j, j ≤ row.length → (dg 18446744073709551616 (X + swL (n * w) (row.take j))).length < 10000000 := fun j hj => sum_len (add_bound hb0 (Nat.lt_of_le_of_lt (SL j hj) (by omega))) (by decide)
    (first | (apply w_seqB; exact rfl; apply w_block; exact rfl) | skip)
    apply (w_loop (σ := Nat × Value) rfl (fun j => [(3, p1), (8, g1), (10, .func (.func 59) #[g1] #[]), (31, vrow), (32, N row.length), (33, N j.1)])
      (fun j h' => Only (pblk g1) h4 h' ∧ h.size ≤ h'.size ∧ j.1 ≤ row.length ∧ Var h' g1 86 [I ↑n, U p.t, p.vq, I ↑w, q, U rr, j.2] ∧ OwnF h' h.size 31 U j.2 (dg 18446744073709551616 (X + swL (n * w) (row.take j.1)))) (fun j => row.length - j.1) (0, w4))
    · exact (Sub.cons rfl (Sub.cons rfl (Sub.cons rfl (Sub.cons rfl (Sub.cons rfl (Sub.cons rfl (Sub.nil _)))))))
    · exact ⟨Only.refl _ _, (Nat.le_trans e12.1 e24.1), Nat.zero_le _, G4, by simpa [swL] using o4'⟩
    clear G4 o4'
    rintro ⟨j, vS⟩ h5 ⟨k5, z5, j1, G5, o5⟩
    dsimp only at k5 z5 j1 G5 o5 ⊢
    have x5 := x4.only k5 nx
    have c5 := SlF.keep c4 k5 erc
    refine runJ ?_
    (apply w_condD; exact rfl; exact rfl) <;> intro hj
    · obtain ⟨y, hy⟩ := get_lt hj
      have hyb := hrw y (List.mem_of_getElem? hy)
      have hy1 := hr1 y (List.mem_of_getElem? hy)
      have hn4 : n ≤ 4096 := by omega
      have hw4 : w ≤ 16 := by omega
      refine runJ ?_
      (apply (s_litF (f := U) [n, w, (y - 1) / 2] (fun _ => rfl)); exact rfl; exact rfl; exact rfl; exact rfl; exact rfl; exact rfl; exact rfl; exact rfl; omega)
      intro v6 h6 o6 e6 b6
      refine ⟨(by first | exact trivial | exact Ext.refl _ | assumption | exact Ext.trans (by assumption) (by assumption)), ?_⟩
      have WD := pwords_spec g1 vS v6 _ _ _ _ _ _ _ [n, w, (y - 1) / 2] h6 (G5.ext e6) (o5.sl.ext e6) o6.sl (by intro x hx; simp only [List.mem_cons, List.not_mem_nil, or_false] at hx; rcases hx with rfl | rfl | rfl <;> omega) (by simp) (hbj j j1)
      rw [show prodL [n, w, (y - 1) / 2] = n * w * ((y - 1) / 2) by simp [prodL], Nat.add_assoc, ← swL_snoc, ← take_snoc hy] at WD
      refine runJ ?_
      refine s_callV rfl Tryd_ent59 rfl rfl rfl ?_
      refine (WD).mono ?_
      rintro _ h7 ⟨-, k7, w7, G7, o7⟩
      refine ⟨(by first | exact trivial | exact trivial), ?_⟩
      refine runJ ?_
      apply again_normal (j + 1, w7)
      · exact (Sub.cons rfl (Sub.cons rfl (Sub.cons rfl (Sub.cons rfl (Sub.cons rfl (Sub.cons rfl (Sub.nil _)))))))
      · exact ⟨(k5.trans (e6.only _)).trans k7, Nat.le_trans z5 (Nat.le_trans e6.1 k7.1), hj, G7, o7.base (Nat.le_trans z5 e6.1)⟩
      · dsimp only; omega
    · have hjn : j = row.length := by omega
      subst hjn
      have hl5 := hbj row.length (Nat.le_refl _)
      rw [List.take_length] at o5 hl5
      refine runJ ?_
      exact fin2 rfl rfl rfl ⟨e1.trans ((e24.trans k5).oldV e2 hgb hgl), _, rfl, o5, hl5⟩
  · rw [if_neg hE]
    refine runJ ?_
    (apply w_condT; exact rfl; exact rfl; exact hE)
    refine runJ ?_
    exact fin2 rfl rfl rfl ⟨e12, _, rfl, OwnF.nil _ _ _ _, by decide⟩
end Go.Proofs.YtajgcmgkhmkmbaaDoor

/- Package bound: a level down, of three parts. Condition of what tests primes: the table of math/bits reads as it is laid. -/
namespace Go.Proofs.YtajgcmgkhmkmbaaDoor
set_option linter.unusedVariables false
set_option maxRecDepth 8000
open Go Go.Den Go.RowKit Go.Dig

def lowE (p : ParD) (l : Int) : Nat := if levE p l = 0 then (if l = 0 then 10 else 0) else levE p l
def lowQ (p : ParD) (l : Int) : Nat := p.q.getD l.toNat 0
def lowS (p : ParD) (l : Int) (A : Nat) : Nat := (p.n.toNat * p.n.toNat + p.n.toNat + 2) / 2 + (A + lowQ p l - 1) / lowQ p l + (p.t - 1) / 2
theorem par_q {p : ParD} (hp : parP p) {q : Nat} (hq : q ∈ p.q) : 1 ≤ q ∧ q < 1125899906842624 := by
  have h0 := hp.2.2.1.1 q hq
  refine ⟨?_, h0.1⟩
  have h1 := h0.2.2.1
  rcases Nat.eq_zero_or_pos q with h0 | h0
  · rw [h0, Nat.zero_mod] at h1; omega
  · exact h0

theorem Tryd_ent31 : Ent Tryd.prog 31 := ent_of Tryd.func31 (by kernel_rfl) rfl
set_option maxHeartbeats 4000000 in
theorem lower14_spec (p : ParD) (l : Int) (va : Value) (xs : List Nat) (h : Hp) (T : TB h) (A : ParAt h p) (sa : SlF h U va xs) (ha : Al 18446744073709551616 xs) (la : xs.length < 1000) (hlo : -9223372036854775808 ≤ l) (hhi : l < 9223372036854775808) :
    CallsH Tryd.prog 31 [.agg p.cells.toArray, I l, I 3, va] h fun v' h' => Ext h h' ∧ ∃ r, v' = .tuple #[r, N (lowE p l)] ∧ OwnF h' h.size 31 U r (if lowE p l = 0 then dg 18446744073709551616 (lowS p l (vl 18446744073709551616 xs)) else []) ∧ (if lowE p l = 0 then dg 18446744073709551616 (lowS p l (vl 18446744073709551616 xs)) else []).length < 10000000 := by
  have F := fun h T A => bat_spec p l h T A hlo hhi
  unfold ParD.cells at F ⊢
  (apply enter Tryd.func31 rfl Tryd.ntmps31 rfl)
  refine runJ ?_
  (apply s_box; exact rfl; exact rfl; exact rfl; exact rfl)
  intro p1 h1 x1 e1 b1
  (try dsimp only [Value.cells, List.toList_toArray] at x1)
  refine ⟨(by first | exact trivial | exact Ext.refl _ | assumption | exact Ext.trans (by assumption) (by assumption)), ?_⟩
  refine runJ ?_
  apply (s_call Tryd_ent57 rfl rfl rfl)
  refine (F h1 (T.ext e1) (A.ext e1)).mono ?_
  rintro _ h2 ⟨e2, g, rfl, hg⟩
  refine ⟨(by first | exact trivial | exact trivial), ?_⟩
  have e12 := e1.trans e2
  have x2 := x1.ext e2
  by_cases hE : levE p l = 0
  · obtain ⟨q, G, sq, nq, gb, hgb, hgl⟩ := hg hE
    clear hg F
    obtain ⟨hp, hl0, hl1⟩ := levE_par hE
    have hn := rowF_pos hp.1.1
    have hql := hp.2.2.1.2.2.2
    have ht := hp.2.1.1
    have htp := par_t hp
    have sa2 := sa.ext e12
    have ea := el_old sa hgb (Nat.le_trans e1.1 hgl)
    have nx := x1.ne_new hgb hgl
    have r2 := A.row.ext e12
    have er := el_old A.row hgb (Nat.le_trans e1.1 hgl)
    obtain ⟨m, rfl⟩ : ∃ m : Nat, l = (m : Int) := ⟨l.toNat, by omega⟩
    obtain ⟨n, hnn⟩ : ∃ n : Nat, p.n = (n : Int) := ⟨p.n.toNat, by omega⟩
    have hn1 : 8 ≤ n ∧ n ≤ 4096 := by omega
    obtain ⟨y, hy⟩ := get_lt (l := p.q) (j := m) (by omega)
    have hyb := par_q hp (List.mem_of_getElem? hy)
    have hE2 : lowE p m = if m = 0 then 10 else 0 := by
      unfold lowE; rw [if_pos hE]
      by_cases h0 : m = 0
      · rw [if_pos h0, if_pos (by omega)]
      · rw [if_neg h0, if_neg (by omega)]
    have hS : lowS p m (vl 18446744073709551616 xs) = (n * n + n + 2) / 2 + (vl 18446744073709551616 xs + y - 1) / y + (p.t - 1) / 2 := by
      unfold lowS lowQ
      rw [hnn, Int.toNat_natCast, Int.toNat_natCast, List.getD_eq_getElem?_getD, hy]; rfl
    rw [hE2, hS, hE]
    rw [hnn] at x2 G ⊢
    have hnm : n * n ≤ 4096 * 4096 := Nat.mul_le_mul hn1.2 hn1.2
    generalize levM p m % p.t = rr at *
    refine runJ ?_
    (apply w_condD; exact rfl; exact rfl) <;> intro hm0
    · refine runJ ?_
      rw [if_pos hm0]
      exact fin2 rfl rfl rfl ⟨e12, _, rfl, OwnF.nil _ _ _ _, by rw [if_neg (by decide)]; decide⟩
    rw [if_neg hm0, if_pos rfl]
    refine runJ ?_
    (apply (s_litF (f := U) [(n * n + n + 2) / 2] (fun _ => rfl)); exact rfl; exact rfl; exact rfl; exact rfl; exact rfl; exact rfl; exact rfl; exact rfl; omega)
    intro v3 h3 o3 e3 b3
    refine ⟨(by first | exact trivial | exact Ext.refl _ | assumption | exact Ext.trans (by assumption) (by assumption)), ?_⟩
    have WD := pwords_spec g (.slice none 0 0) v3 _ _ _ _ _ _ 0 [(n * n + n + 2) / 2] h3 (G.ext e3) (SlF.nil _ _) o3.sl (by intro x hx; simp only [List.mem_singleton] at hx; omega) (by simp) (by decide)
    rw [show prodL [(n * n + n + 2) / 2] = (n * n + n + 2) / 2 by simp [prodL], Nat.zero_add] at WD
    refine runJ ?_
    apply (s_call Tryd_ent59 rfl rfl rfl)
    refine (WD).mono ?_
    rintro g1 h4 ⟨rfl, k4, w4, G4, o4⟩
    refine ⟨(by first | exact trivial | exact trivial), ?_⟩
    have k24 : Only (pblk g1) h2 h4 := (e3.only _).trans k4
    have x4 := x2.only k24 nx
    have r4 := SlF.keep r2 k24 er
    have sa4 := SlF.keep sa2 k24 ea
    have o4s := o4.sl
    clear WD
    have hS1 : (n * n + n + 2) / 2 ≤ 16777216 := by omega
    have hth : (p.t - 1) / 2 ≤ 1073741824 := by omega
    generalize (n * n + n + 2) / 2 = S1 at *
    have PT : ∀ h', ChP h4 g1 (I n) (U p.t) p.vq (I p.w) q (U rr) h' → ∃ e cs, Var h' p1 e cs ∧ nth cs 1 = some (U p.t) := fun h' hc => ⟨_, _, x4.only hc.only nx, rfl⟩
    have PV : ∀ h', ChP h4 g1 (I n) (U p.t) p.vq (I p.w) q (U rr) h' → ∃ e cs, Var h' p1 e cs ∧ nth cs 2 = some p.vq := fun h' hc => ⟨_, _, x4.only hc.only nx, rfl⟩
    have hu : (vl 18446744073709551616 xs + y - 1) / y ≤ vl 18446744073709551616 xs := by
      rcases Nat.eq_zero_or_pos (vl 18446744073709551616 xs) with h0 | h0
      · rw [h0, Nat.div_eq_of_lt (by omega)]; exact Nat.le_refl _
      · refine Nat.le_of_lt_succ ((Nat.div_lt_iff_lt_mul hyb.1).2 ?_)
        have := Nat.le_mul_of_pos_right (vl 18446744073709551616 xs) hyb.1
        rw [Nat.succ_mul]; omega
    obtain ⟨z, hz⟩ : ∃ z : Nat, z = 1000 := ⟨_, rfl⟩
    have hub := Nat.lt_of_le_of_lt hu (vl_bound (k := z) ha (by omega))
    have UP := fun v7 h s s7 => up_spec va v7 xs [y] h s s7 ha (by intro x hx; simp only [List.mem_singleton] at hx; omega) (by omega) (by simp) (by simp [vl]; omega)
    rw [show vl 18446744073709551616 [y] = y by simp [vl]] at UP
    have hul : (dg 18446744073709551616 ((vl 18446744073709551616 xs + y - 1) / y)).length < 10000 := by
      have := dg_len (b := 18446744073709551616) (by decide) hub
      omega
    generalize (vl 18446744073709551616 xs + y - 1) / y = ux at *
    refine runJN ?_
    refine r_drawnKR (ChP h4 g1 (I n) (U p.t) p.vq (I p.w) q (U rr)) (fun i => Nat.beq i 7 || Nat.beq i 8 || Nat.beq i 9 || Nat.beq i 15) (fun i => Nat.beq i 19) (Only (pblk g1))
      (fun i => match i with | 7 => PhW g1 [y] | 8 => PhW g1 (dg 18446744073709551616 ux) | 9 => fun v h => ∃ u1, PhR g1 [(u1, dg 18446744073709551616 ux)] v h | _ => PhW g1 [(p.t - 1) / 2]) rfl mixed (by kernel_rfl) (fun _ _ e => e.only _) ?_ ⟨Only.refl _ _, _, G4⟩ ?_
    · intro i v h h' hp k
      split at hp
      · exact PhW.only hp k
      · exact PhW.only hp k
      · obtain ⟨u1, hp⟩ := hp
        exact ⟨u1, PhR.only hp k⟩
      · exact PhW.only hp k
    refine k_run (j := 7) h4 rfl rfl (by kernel_rfl) (by kernel_rfl) ?_
    refine runJ ?_
    refine s_loadCell (u := p.vq) (off := 2) rfl rfl (rd_cl PV) rfl ?_
    refine runJ ?_
    refine s_loadG rfl rfl (rd_cl fun h' hc => hc.row r4 er) rfl hy ?_
    refine runJ ?_
    refine ⟨⟨rfl, ?_⟩⟩
    refine k_lit (f := U) rfl rfl rfl rfl [y] rfl rfl rfl rfl rfl rfl (fun u hu => by obtain ⟨y, -, rfl⟩ := List.mem_map.1 (show u ∈ List.map U [y] from hu); rfl) rfl (by omega) (fun h' v h'' hC _ o e _ => phW_lit hgb hC o e) (fun v7 => ?_)
    refine k_fcallX rfl rfl rfl rfl Tryd_ent61 rfl (fun h' hC hT => (UP v7 h' (hC.row sa4 ea) (show PhW g1 [y] v7 h' from hT (7, v7) (by simp) (by kernel_rfl)).1).mono fun v h'' ⟨e, o⟩ => ⟨e, hC.ext e, o.sl, el_new o hgb (hC.lt hgb)⟩) (fun v8 hx8 => ?_)
    have one8 : v8.oneCell' = true := by obtain ⟨_, _, p⟩ := hx8; exact p.1.one
    clear hx8
    refine k_lit (f := Prod.fst) rfl rfl rfl rfl [(v8, dg 18446744073709551616 ux)] rfl rfl rfl rfl rfl rfl (List.forall_mem_cons.2 ⟨one8, fun _ h => nomatch h⟩) rfl (by decide) (fun h' v h'' hC hT o e _ => ?_) (fun v9 => ?_)
    · have P8 : PhW g1 (dg 18446744073709551616 ux) v8 h' := hT (8, v8) (by simp) (by kernel_rfl)
      have := phR_lit hgb hC o e fun x hx => by
        simp only [List.mem_singleton] at hx
        subst hx
        exact ⟨P8.1, P8.2, al_dg (by decide) _, hul⟩
      exact ⟨this.1, _, this.2⟩
    refine k_call rfl rfl rfl rfl Tryd_ent60 rfl ?_
    intro h5 hC5 hD5 hT5
    obtain ⟨u1, P9⟩ : ∃ u1, PhR g1 [(u1, dg 18446744073709551616 ux)] v9 h5 := hT5 (9, v9) (by simp)
    have AD := padd_spec g1 w4 v9 _ _ _ _ _ _ S1 _ h5 (G4.ext hD5) (o4s.ext hD5) P9.1 (by simp) (by have := one_len (n := S1) (by omega); omega)
    rw [prodR_one, vl_of] at AD
    refine AD.mono ?_
    rintro g2 h6 ⟨rfl, k6, w6, G6, o6⟩
    refine ⟨⟨hC5.only.trans k6, _, G6⟩, .inl ⟨k6, ?_⟩⟩
    have o6 := o6.sl
    have hb6 : S1 + ux < 18446744073709551616 ^ (z + 1) := by
      rw [Nat.add_comm]
      exact add_bound (k := z) hub (Nat.lt_of_le_of_lt hS1 (by decide)) (by omega)
    have hl6 := sum_len hb6 (by omega)
    have hl8 := sum_len (add_bound (y := (p.t - 1) / 2) (k := z + 1) hb6 (Nat.lt_of_le_of_lt hth (by decide)) (by omega)) (by omega)
    clear AD hT5 hub hb6
    refine k_run (j := 15) h6 rfl rfl (by kernel_rfl) (by kernel_rfl) ?_
    refine runJ ?_
    refine s_loadCell (u := U p.t) (off := 1) rfl rfl (rd_cl PT) rfl ?_
    refine runJ ?_
    refine ⟨⟨rfl, ?_⟩⟩
    refine k_lit (f := U) rfl rfl rfl rfl [(p.t - 1) / 2] rfl rfl rfl rfl rfl rfl (fun u hu => by obtain ⟨y, -, rfl⟩ := List.mem_map.1 (show u ∈ List.map U [(p.t - 1) / 2] from hu); rfl) rfl (by omega) (fun h' v h'' hC _ o e _ => phW_lit hgb hC o e) (fun v15 => ?_)
    refine k_call rfl rfl rfl rfl Tryd_ent59 rfl ?_
    intro h7 hC7 hD7 hT7
    have P7 : PhW g2 [(p.t - 1) / 2] v15 h7 := hT7 (15, v15) (by simp)
    have WD := pwords_spec g2 w6 v15 _ _ _ _ _ _ _ [(p.t - 1) / 2] h7 (G6.ext hD7) (o6.ext hD7) P7.1 (by intro x hx; simp only [List.mem_singleton] at hx; omega) (by simp) hl6
    rw [show prodL [(p.t - 1) / 2] = (p.t - 1) / 2 by simp [prodL]] at WD
    refine WD.mono ?_
    rintro g3 h8 ⟨rfl, k8, w8, G8, o8⟩
    refine ⟨⟨hC7.only.trans k8, _, G8⟩, .inr ⟨by kernel_rfl, ?_⟩⟩
    clear WD hT7
    refine k_run (j := 19) h8 rfl rfl (by kernel_rfl) (by kernel_rfl) ?_
    refine runJ ?_
    refine ⟨⟨rfl, ?_⟩⟩
    refine k_load (p := g3) (u := w8) (off := 6) rfl rfl rfl rfl rfl rfl (fun _ _ x y => x.trans y) (fun _ => Only.refl _ _) (fun h' _ hD _ => ⟨_, _, G8.ext hD, rfl⟩) ?_
    refine k_run (j := 22) h8 rfl rfl (by kernel_rfl) (by kernel_rfl) ?_
    refine runJ ?_
    refine ⟨⟨rfl, ?_⟩⟩
    refine k_done rfl ?_
    intro h9 hC9 hD9 _
    refine runJ ?_
    exact fin2 rfl rfl rfl ⟨e1.trans ((k24.trans hC9.only).oldV e2 hgb hgl), _, rfl, (o8.ext hD9).base (Nat.le_trans e12.1 (Nat.le_trans k24.1 hC7.only.1)), hl8⟩
  · have hE2 : lowE p l = levE p l := by unfold lowE; rw [if_neg hE]
    rw [hE2, if_neg hE]
    refine runJ ?_
    refine s_conv rfl rfl rfl rfl ?_
    refine runJ ?_
    (apply w_condT; exact rfl; exact rfl; exact hE)
    refine runJ ?_
    exact fin2 rfl rfl rfl ⟨e12, _, rfl, OwnF.nil _ _ _ _, by decide⟩
end Go.Proofs.YtajgcmgkhmkmbaaDoor
