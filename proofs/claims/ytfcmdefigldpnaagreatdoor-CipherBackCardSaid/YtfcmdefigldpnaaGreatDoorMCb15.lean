/- Texts NttD to Tail of this work, joined, without what the law does not lean on. -/
import Derived.Test.YtfcmdefigldpnaaGreatDoorMCb14
namespace Go.Proofs.YtfcmdefigldpnaaGreatDoor
set_option linter.unusedVariables false
set_option maxRecDepth 8000
open Go Go.Den Go.RowKit Go.Mth

theorem own_sepV {α : Type} {h h1 : Hp} {f : α → Value} {B : Nat} {e e' : TypeId} {w p : Value} {ws : List α} {cs : List Value} (o : OwnF h1 B e f w ws) (s : Var h p e' cs) (hB : h.size ≤ B) : pblk p ≠ w.ownBlock := by
  obtain ⟨j, hj, hlt⟩ := s.blk
  rw [hj]
  intro hc
  have := (o.blk j hc.symm).1
  omega
theorem own_sepS {α β : Type} {h h1 : Hp} {f : α → Value} {f' : β → Value} {B : Nat} {e : TypeId} {w v : Value} {ws : List α} {xs : List β} (o : OwnF h1 B e f w ws) (s : SlF h f' v xs) (h0 : 0 < xs.length) (hB : h.size ≤ B) : v.ownBlock = none ∨ v.ownBlock ≠ w.ownBlock := by
  cases hv : v.ownBlock with
  | none => exact .inl rfl
  | some j =>
    refine .inr fun hc => ?_
    have h1 := s.lt h0 j hv
    have := (o.blk j hc.symm).1
    omega

theorem twl_len (z q : Nat) (xs : List Nat) : (twl z q xs).length = xs.length := by unfold twl; simp
theorem twl_get {z q : Nat} {xs : List Nat} {j : Nat} (h : j < xs.length) : (twl z q xs).getD j 0 = mulm (xs.getD j 0) (z ^ j % q) q := by
  refine getD_of ?_
  unfold twl; rw [List.getElem?_map, List.getElem?_range h]; rfl
theorem twl_fit {z q n : Nat} {xs : List Nat} (hq : 0 < q) (h : xs.length = n) : Fit n q (twl z q xs) := fit_of (by rw [twl_len, h]) fun p hp => by rw [twl_get (by omega)]; exact mulm_lt hq
theorem twl_cg {z q : Nat} {xs : List Nat} {j : Nat} (hq : 0 < q) (h : j < xs.length) : Cg q (gt (twl z q xs) j) (gt xs j * (z : Int) ^ j) := by
  unfold gt; rw [twl_get h]
  exact (cg_mulm hq _ _).trans ((Cg.refl _ _).mul (cg_of_mod (a := z ^ j) (Cg.of_eq (Int.natCast_pow _ _)) _ (Nat.mod_mod _ _)))

theorem TblOk.cw {t : Tbl} (K : TblOk t) : Cg t.q ((t.w : Int) ^ (2 ^ t.L)) (-1) := cg_root K.q1 K.wn
theorem TblOk.cuw {t : Tbl} (K : TblOk t) : Cg t.q ((t.u : Int) * t.w) 1 := by rw [Int.mul_comm]; exact cg_one K.uw
theorem TblOk.cu {t : Tbl} (K : TblOk t) : Cg t.q ((t.u : Int) ^ (2 ^ t.L)) (-1) := u_root K.cuw K.cw
theorem TblOk.cp {t : Tbl} (K : TblOk t) : Cg t.q (((2 ^ t.L : Nat) : Int) * t.p) 1 := cg_one K.np

def Val (t : Tbl) (xs ys : List Nat) : Prop := Fit (2 ^ t.L) t.q ys ∧ ∀ k, k < 2 ^ t.L → Cg t.q (gt ys k) (dft (2 ^ t.L) t.w (gt xs) k)
def Bck (t : Tbl) (xs ys : List Nat) : Prop := Fit (2 ^ t.L) t.q ys ∧ ∀ k, k < 2 ^ t.L → Cg t.q (gt ys k) (idft (2 ^ t.L) t.u t.p (gt xs) k)

theorem val_of {t : Tbl} (K : TblOk t) {xs ys : List Nat} (hl : xs.length = 2 ^ t.L) (h : Trn t.L t.q t.w (twl t.w t.q xs) ys) : Val t xs ys := by
  refine ⟨h.1, fun k hk => (h.2 k hk).trans ?_⟩
  refine sm_cg _ fun j hj => ((twl_cg (by have := K.q1; omega) (by omega)).mul (Cg.refl _ _)).trans (Cg.of_eq ?_)
  rw [Int.mul_assoc, ← Int.pow_add]
  congr 2
  grind
theorem bck_of {t : Tbl} (K : TblOk t) {xs ys zs : List Nat} (h : Trn t.L t.q t.u xs ys) (hz : zs = (twl t.u t.q ys).map fun y => mulm y t.p t.q) : Bck t xs zs := by
  have hq : 0 < t.q := by have := K.q1; omega
  have hg : ∀ k, k < 2 ^ t.L → zs.getD k 0 = mulm ((twl t.u t.q ys).getD k 0) t.p t.q := fun k hk => by
    refine getD_of ?_
    rw [hz, List.getElem?_map, getD_lt (by rw [twl_len, h.1.1]; exact hk)]; rfl
  refine ⟨fit_of (by rw [hz, List.length_map, twl_len, h.1.1]) fun p hp => by rw [hg p hp]; exact mulm_lt hq, fun k hk => ?_⟩
  unfold gt; rw [hg k hk]
  refine (cg_mulm hq _ _).trans ?_
  refine ((twl_cg hq (by rw [h.1.1]; exact hk)).mul (Cg.refl _ _)).trans ?_
  refine (((h.2 k hk).mul (Cg.refl _ _)).mul (Cg.refl _ _)).trans (Cg.of_eq ?_)
  unfold idft
  rw [Int.mul_comm _ (t.p : Int), Int.mul_comm _ ((t.u : Int) ^ k)]

theorem Tryz_ent154 : Ent Tryz.prog 154 := ent_of Tryz.func154 (by kernel_rfl) rfl
set_option maxHeartbeats 1000000 in
theorem values_spec (g va : Value) (t : Tbl) (xs : List Nat) (h : Hp) (K : TblOk t) (A : TblAt h g t) (s : SlF h U va xs) (hf : Fit (2 ^ t.L) t.q xs) :
    CallsH Tryz.prog 154 [g, va] h fun v' h' => Ext h h' ∧ ∃ r ys, v' = .tuple #[r, N 0] ∧ OwnF h' h.size 26 U r ys ∧ Val t xs ys := by
  have hq61 := K.q61
  have hq1 := K.q1
  have hn := K.size
  have FS := fits_spec g va t xs h K A s (by rw [hf.1]; omega) (fun x hx => by have := hf.2 x hx; omega)
  rw [decide_eq_true hf] at FS
  have TW := twist_spec g va t.vr t t.w xs h K A s A.rr hf.1 hf.2
  have G := A.var
  have hq0 : 0 < t.q := by omega
  have hVal := fun ys => val_of (ys := ys) K hf.1
  have hpl : (pows t.w t.q (2 ^ t.L)).length = 2 ^ t.L := pows_len _ _ _
  (apply enter Tryz.func154 rfl Tryz.ntmps154 rfl)
  refine runJ ?_
  apply (s_call Tryz_ent187 rfl rfl rfl)
  refine (FS).mono ?_
  rintro _ _ ⟨rfl, rfl⟩
  refine clsI ?_
  refine runJ ?_
  apply (s_call Tryz_ent189 rfl rfl rfl)
  refine (TW).mono ?_
  rintro w1 h1 ⟨e1, o1⟩
  refine ⟨e1, ?_⟩
  have G1 := G.ext e1
  have CY := cyclic_spec g w1 t.vr t t.w h.size _ h1 K (A.ext e1) o1 (A.rr.ext e1) (own_sepV o1 G (Nat.le_refl _)) (own_sepS o1 A.rr (by omega) (Nat.le_refl _)) (by rw [twl_len]; exact hf.1) (twl_fit hq0 rfl).2 K.cw
  refine runJ ?_
  apply (s_call Tryz_ent188 rfl rfl rfl)
  refine (CY).mono ?_
  rintro _ h2 ⟨rfl, k2, ys, o2, hT⟩
  refine ⟨(o1.old k2 e1 (Nat.le_refl _)), ?_⟩
  refine runJ ?_
  exact fin2 rfl rfl rfl ⟨o1.old k2 e1 (Nat.le_refl _), _, ys, rfl, o2, hVal ys hT⟩

theorem set_get {ys : List Nat} {j k x y : Nat} (hj : j < ys.length) (h : (ys.set j x)[k]? = some y) : (k = j ∧ y = x) ∨ (k ≠ j ∧ ys[k]? = some y) := by
  rw [List.getElem?_set] at h
  by_cases e : j = k
  · subst e
    rw [if_pos rfl, if_pos hj] at h
    cases h
    exact .inl ⟨rfl, rfl⟩
  · rw [if_neg e] at h
    exact .inr ⟨fun e' => e e'.symm, h⟩

theorem Tryz_ent156 : Ent Tryz.prog 156 := ent_of Tryz.func156 (by kernel_rfl) rfl
set_option maxHeartbeats 1000000 in
theorem back_spec (g va : Value) (t : Tbl) (xs : List Nat) (h : Hp) (K : TblOk t) (A : TblAt h g t) (s : SlF h U va xs) (hf : Fit (2 ^ t.L) t.q xs) :
    CallsH Tryz.prog 156 [g, va] h fun v' h' => Ext h h' ∧ ∃ r ys, v' = .tuple #[r, N 0] ∧ OwnF h' h.size 26 U r ys ∧ Bck t xs ys := by
  have hq61 := K.q61
  have hq1 := K.q1
  have hn := K.size
  have FS := fits_spec g va t xs h K A s (by rw [hf.1]; omega) (fun x hx => by have := hf.2 x hx; omega)
  rw [decide_eq_true hf] at FS
  have G := A.var
  have hq0 : 0 < t.q := by omega
  have hpq := K.pl
  have hpl : (pows t.u t.q (2 ^ t.L)).length = 2 ^ t.L := pows_len _ _ _
  have hfl := hf.1
  (apply enter Tryz.func156 rfl Tryz.ntmps156 rfl)
  refine runJ ?_
  apply (s_call Tryz_ent187 rfl rfl rfl)
  refine (FS).mono ?_
  rintro _ _ ⟨rfl, rfl⟩
  refine clsI ?_
  refine runJ ?_
  (apply (s_litF (f := U) [] (fun _ => rfl)); exact rfl; exact rfl; exact rfl; exact rfl; exact rfl; exact rfl; exact rfl; exact rfl; omega)
  intro w1 h1 o1 e1 b1
  refine clsI ?_
  have s1 := s.ext e1
  refine runJ ?_
  (apply (s_appendF (bytes := 8)); exact rfl; exact rfl; exact rfl; exact rfl; exact rfl; exact rfl; exact rfl; exact o1; exact s1; exact fun _ => rfl; (first | exact Nat.le_refl _ | exact ext_size (by assumption) | omega); ((try simp only [maxLen]); (try simp only [List.length_nil]); (try simp only [List.length_append]); omega); ((try simp only [List.length_nil]); (try simp only [List.length_append]); omega))
  intro w2 h2 o2 k2 b2
  refine ⟨(by first | exact (o1.old k2 e1 (Nat.le_refl _)) | exact trivial | exact Ext.refl _ | assumption | exact Ext.trans (by assumption) (by assumption)), ?_⟩
  have e2 : Ext h h2 := o1.old k2 e1 (Nat.le_refl _)
  rw [List.nil_append] at o2
  have G2 := G.ext e2
  have CY := cyclic_spec g w2 t.vu t t.u h.size _ h2 K (A.ext e2) o2 (A.ru.ext e2) (own_sepV o2 G (Nat.le_refl _)) (own_sepS o2 A.ru (by omega) (Nat.le_refl _)) hf.1 hf.2 K.cu
  refine runJ ?_
  apply (s_call Tryz_ent188 rfl rfl rfl)
  refine (CY).mono ?_
  rintro w3 h3 ⟨rfl, k3, ys, o3, hT⟩
  refine ⟨(o2.old k3 e2 (Nat.le_refl _)), ?_⟩
  have e3 : Ext h h3 := o2.old k3 e2 (Nat.le_refl _)
  have A3 := A.ext e3
  have G3 := A3.var
  have TW := twist_spec g w3 t.vu t t.u ys h3 K A3 o3.sl A3.ru hT.1.1 hT.1.2
  refine runJ ?_
  apply (s_call Tryz_ent189 rfl rfl rfl)
  refine (TW).mono ?_
  rintro w4 h4 ⟨e4, o4⟩
  refine ⟨(e3.trans e4), ?_⟩
  have G4 := G3.ext e4
  have e04 := e3.trans e4
  have o4 := o4.base e3.1
  have hTw := twl_fit (z := t.u) hq0 hT.1.1
  have hBk := fun zs => bck_of (zs := zs) K hT
  clear TW CY FS
  generalize twl t.u t.q ys = zs at *
  have o4s := o4.sl
  refine runJ ?_
  (first | (apply w_seqB; exact rfl; apply w_block; exact rfl) | skip)
  apply (w_loop (σ := Nat × List Nat) rfl (fun j => [(0, g), (6, w4), (32, N (2 ^ t.L)), (33, N j.1)])
    (fun j h' => Ext h h' ∧ Only w4.ownBlock h4 h' ∧ j.1 ≤ 2 ^ t.L ∧ OwnF h' h.size 26 U w4 j.2 ∧ j.2.length = 2 ^ t.L ∧ ∀ (k y : Nat), j.2[k]? = some y → y = if k < j.1 then mulm (zs.getD k 0) t.p t.q else zs.getD k 0) (fun j => 2 ^ t.L - j.1) (0, zs))
  · rw [← hTw.1]
    exact subs
  · exact ⟨e04, Only.refl _ _, Nat.zero_le _, o4, hTw.1, fun k y hy => by rw [if_neg (Nat.not_lt_zero _), getD_of hy]⟩
  rintro ⟨j, us⟩ h5 ⟨e5, k5, j1, o5, j2, j3⟩
  dsimp only at e5 k5 j1 o5 j2 j3 ⊢
  have G5 := G.ext e5
  refine runJ ?_
  (apply w_condD; exact rfl; exact rfl) <;> intro hj
  · obtain ⟨x, hx⟩ := get_lt (l := us) (j := j) (by omega)
    have hxv := j3 j x hx
    rw [if_neg (Nat.lt_irrefl _)] at hxv
    have hxq : x < t.q := by rw [hxv]; exact fit_get hTw hj
    have o5s := o5.sl
    have nG := own_sepV o5 G (Nat.le_refl _)
    refine runJN ?_
    (apply (r_drawnR (Only w4.ownBlock h5) (fun i => Nat.beq i 5)); exact rfl; exact mixed; kernel_rfl; exact Only.refl _ _)
    refine runJ ?_
    refine s_loadG rfl rfl (rd_now rfl (Only.refl _ _) o5s) rfl hx ?_
    refine runJ ?_
    apply (s_call Tryz_ent155 rfl rfl rfl)
    refine (mul_spec x t.p t.q h5 (by omega) (by omega) (by omega)).mono ?_
    rintro _ _ ⟨rfl, rfl⟩
    refine ⟨Only.refl _ _, ?_⟩
    refine runJ ?_
    (apply (s_storeF (mulm x t.p t.q)); exact rfl; exact rfl; exact rfl; exact rfl; exact rfl; exact o5; exact rfl; (first | assumption | omega))
    intro h6 o6 k6
    refine ⟨(by first | exact k6 | exact trivial | exact Ext.refl _ | assumption | exact Ext.trans (by assumption) (by assumption)), ?_⟩
    refine runJ ?_
    apply again_normal (j + 1, us.set j (mulm x t.p t.q))
    · exact subs
    · refine ⟨o5.old k6 e5 (Nat.le_refl _), k5.trans k6, by dsimp only; omega, o6, by simp [j2], fun k y hy => ?_⟩
      dsimp only at hy ⊢
      rcases set_get (by omega) hy with ⟨rfl, rfl⟩ | ⟨hk, hy⟩
      · rw [if_pos (by omega), hxv]
      · rw [j3 k y hy]
        by_cases hkj : k < j
        · rw [if_pos hkj, if_pos (by omega)]
        · rw [if_neg hkj, if_neg (by omega)]
    · dsimp only; omega
  · have hjn : j = 2 ^ t.L := by omega
    have hus : us = zs.map fun y => mulm y t.p t.q := by
      refine list_eq (by rw [List.length_map, j2, hTw.1]) fun k a b ha hb => ?_
      have hk := (List.getElem?_eq_some_iff.1 ha).1
      rw [j3 k a ha, if_pos (by omega)]
      rw [List.getElem?_map, getD_lt (by rw [hTw.1]; omega)] at hb
      exact Option.some.inj hb
    refine runJ ?_
    exact fin2 rfl rfl rfl ⟨e5, _, us, rfl, o5, hBk us hus⟩

theorem sep_flip {a b : Option Nat} (h : a = none ∨ a ≠ b) : b = none ∨ b ≠ a := by
  rcases h with h | h
  · subst h; cases b <;> simp
  · exact .inr fun e => h e.symm

def Prd (t : Tbl) (aa bb rs : List Nat) : Prop := Fit (2 ^ t.L) t.q rs ∧ ∀ k, k < 2 ^ t.L → Cg t.q (dft (2 ^ t.L) t.w (gt rs) k) (dft (2 ^ t.L) t.w (gt aa) k * dft (2 ^ t.L) t.w (gt bb) k)
theorem prd_of {t : Tbl} (K : TblOk t) {aa bb xs ys zs rs : List Nat} (hx : Val t aa xs) (hy : Val t bb ys) (hz : ∀ k, k < 2 ^ t.L → zs.getD k 0 = mulm (xs.getD k 0) (ys.getD k 0) t.q) (hr : Bck t zs rs) : Prd t aa bb rs := by
  have hq : 0 < t.q := by have := K.q1; omega
  refine ⟨hr.1, fun k hk => ?_⟩
  refine (dft_cg (b := fun i => idft (2 ^ t.L) t.u t.p (gt zs) i) (fun j hj => hr.2 j hj) k).trans ?_
  refine (dft_idft K.cw K.cuw K.cp (gt zs) hk).trans ?_
  have e : gt zs k = ((mulm (xs.getD k 0) (ys.getD k 0) t.q : Nat) : Int) := by unfold gt; rw [hz k hk]
  rw [e]
  exact (cg_mulm hq _ _).trans ((hx.2 k hk).mul (hy.2 k hk))

theorem Tryz_ent112 : Ent Tryz.prog 112 := ent_of Tryz.func112 (by kernel_rfl) rfl
set_option maxHeartbeats 1000000 in
theorem nttMul_spec (g va vb : Value) (t : Tbl) (aa bb : List Nat) (h : Hp) (K : TblOk t) (A : TblAt h g t) (sa : SlF h U va aa) (sb : SlF h U vb bb) (ha : Fit (2 ^ t.L) t.q aa) (hb : Fit (2 ^ t.L) t.q bb) :
    CallsH Tryz.prog 112 [g, va, vb] h fun v' h' => Ext h h' ∧ ∃ r rs, v' = .tuple #[r, N 0] ∧ OwnF h' h.size 26 U r rs ∧ Prd t aa bb rs := by
  have hq61 := K.q61
  have hq1 := K.q1
  have hn := K.size
  have hq0 : 0 < t.q := by omega
  have G := A.var
  (apply enter Tryz.func112 rfl Tryz.ntmps112 rfl)
  refine runJ ?_
  refine s_callV rfl Tryz_ent154 rfl rfl rfl ?_
  refine (values_spec g va t aa h K A sa ha).mono ?_
  rintro _ h1 ⟨e1, w1, xs, rfl, o1, V1⟩
  refine ⟨trivial, ?_⟩
  refine runJ ?_
  refine s_callV rfl Tryz_ent154 rfl rfl rfl ?_
  refine (values_spec g vb t bb h1 K (A.ext e1) (sb.ext e1) hb).mono ?_
  rintro _ h2 ⟨e2, w2, ys, rfl, o2, V2⟩
  refine ⟨trivial, ?_⟩
  have e12 := e1.trans e2
  have ne12 := sep_flip (own_sepS o2 o1.sl (by rw [V1.1.1]; omega) (Nat.le_refl _))
  have o1 := o1.ext e2
  have s2 := o2.sl
  have hl1 := V1.1.1
  have hl2 := V2.1.1
  refine runJ ?_
  (first | (apply w_seqB; exact rfl; apply w_block; exact rfl) | skip)
  apply (w_loop (σ := Nat × List Nat) rfl (fun j => [(0, g), (9, w1), (11, w2), (34, N (2 ^ t.L)), (35, N j.1)])
    (fun j h' => Ext h h' ∧ Only w1.ownBlock h2 h' ∧ j.1 ≤ 2 ^ t.L ∧ OwnF h' h.size 26 U w1 j.2 ∧ j.2.length = 2 ^ t.L ∧ ∀ (k y : Nat), j.2[k]? = some y → y = if k < j.1 then mulm (xs.getD k 0) (ys.getD k 0) t.q else xs.getD k 0) (fun j => 2 ^ t.L - j.1) (0, xs))
  · rw [← hl1]
    exact subs
  · exact ⟨e12, Only.refl _ _, Nat.zero_le _, o1, hl1, fun k y hy => by rw [if_neg (Nat.not_lt_zero _), getD_of hy]⟩
  rintro ⟨j, us⟩ h5 ⟨e5, k5, j1, o5, j2, j3⟩
  dsimp only at e5 k5 j1 o5 j2 j3 ⊢
  have G5 := G.ext e5
  have s5 := s2.only k5 ne12
  refine runJ ?_
  (apply w_condD; exact rfl; exact rfl) <;> intro hj
  · obtain ⟨x, hx⟩ := get_lt (l := us) (j := j) (by omega)
    obtain ⟨y, hy⟩ := get_lt (l := ys) (j := j) (by omega)
    have hxv := j3 j x hx
    rw [if_neg (Nat.lt_irrefl _)] at hxv
    have hxq : x < t.q := by rw [hxv]; exact fit_get V1.1 hj
    have hyq : y < t.q := V2.1.2 y (List.mem_of_getElem? hy)
    have o5s := o5.sl
    have nG := own_sepV o5 G (Nat.le_refl _)
    refine runJN ?_
    (apply (r_drawnR (Only w1.ownBlock h5) (fun i => Nat.beq i 5)); exact rfl; exact mixed; kernel_rfl; exact Only.refl _ _)
    refine runJ ?_
    refine s_loadG rfl rfl (rd_now rfl (Only.refl _ _) o5s) rfl hx ?_
    refine runJ ?_
    apply (s_call Tryz_ent155 rfl rfl rfl)
    refine (mul_spec x y t.q h5 (by omega) (by omega) (by omega)).mono ?_
    rintro _ _ ⟨rfl, rfl⟩
    refine ⟨Only.refl _ _, ?_⟩
    refine runJ ?_
    (apply (s_storeF (mulm x y t.q)); exact rfl; exact rfl; exact rfl; exact rfl; exact rfl; exact o5; exact rfl; (first | assumption | omega))
    intro h6 o6 k6
    refine ⟨(by first | exact k6 | exact trivial | exact Ext.refl _ | assumption | exact Ext.trans (by assumption) (by assumption)), ?_⟩
    refine runJ ?_
    apply again_normal (j + 1, us.set j (mulm x y t.q))
    · exact subs
    · refine ⟨o5.old k6 e5 (Nat.le_refl _), k5.trans k6, by dsimp only; omega, o6, by simp [j2], fun k z hz => ?_⟩
      dsimp only at hz ⊢
      rcases set_get (by omega) hz with ⟨rfl, rfl⟩ | ⟨hk, hz⟩
      · rw [if_pos (by omega), hxv, getD_of hy]
      · rw [j3 k z hz]
        by_cases hkj : k < j
        · rw [if_pos hkj, if_pos (by omega)]
        · rw [if_neg hkj, if_neg (by omega)]
    · dsimp only; omega
  · have hjn : j = 2 ^ t.L := by omega
    have hus : ∀ k, k < 2 ^ t.L → us.getD k 0 = mulm (xs.getD k 0) (ys.getD k 0) t.q := fun k hk => by
      have := j3 k _ (getD_lt (by omega))
      rw [if_pos (by omega)] at this
      exact this
    have hfu : Fit (2 ^ t.L) t.q us := fit_of j2 fun k hk => by rw [hus k hk]; exact mulm_lt hq0
    refine runJ ?_
    apply (s_call Tryz_ent156 rfl rfl rfl)
    refine (back_spec g w1 t us h5 K (A.ext e5) o5.sl hfu).mono ?_
    rintro _ h6 ⟨e6, w6, rs, rfl, o6, B6⟩
    refine ⟨trivial, ?_⟩
    refine runJ ?_
    exact fin2 rfl rfl rfl ⟨e5.trans e6, _, rs, rfl, o6.base e5.1, prd_of K V1 V2 hus B6⟩

theorem Tryz_ent172 : Ent Tryz.prog 172 := ent_of Tryz.func172 (by kernel_rfl) rfl
theorem powers_spec (w q n : Nat) (p1 p2 : Value) (h : Hp) (P1 : Var h p1 3 [N n]) (P2 : Var h p2 26 [U q]) (hn : 1 ≤ n) (hn2 : n ≤ 4096) (hq : 1 < q) (hq2 : q < 2305843009213693952) (hw : w < q) :
    CallsH Tryz.prog 172 [U w, p1, p2] h fun v' h' => Ext h h' ∧ OwnF h' h.size 26 U v' (pows w q n) := by
  have hst : ∀ m, mulm (w ^ m % q) w q = w ^ (m + 1) % q := fun m => by unfold mulm; rw [if_neg (by omega), Nat.mod_mul_mod, Nat.pow_succ]
  (apply enter Tryz.func172 rfl Tryz.ntmps172 rfl)
  refine runJ ?_
  (apply (s_litF (f := U) [1] (fun _ => rfl)); exact rfl; exact rfl; exact rfl; exact rfl; exact rfl; exact rfl; exact rfl; exact rfl; omega)
  intro w1 h1 o1 e1 b1
  refine clsI ?_
  refine runJ ?_
  (first | (apply w_seqB; exact rfl; apply w_block; exact rfl) | skip)
  apply (w_loop (σ := Nat × Value) rfl (fun j => [(0, U w), (1, p1), (2, p2), (5, j.2)])
    (fun j h' => Ext h h' ∧ OwnF h' h.size 26 U j.2 (pows w q (j.1 + 1)) ∧ j.1 + 1 ≤ n) (fun j => n - j.1) (0, w1))
  · exact subs
  · refine ⟨e1, ?_, hn⟩
    have : pows w q (0 + 1) = [1] := by unfold pows; simp [List.range_succ, Nat.mod_eq_of_lt hq]
    rw [this]; exact o1
  rintro ⟨j, v⟩ h2 ⟨e2, o2, j1⟩
  dsimp only at e2 o2 j1 ⊢
  have Q1 := P1.ext e2
  have Q2 := P2.ext e2
  have hpl := pows_len w q (j + 1)
  refine runJ ?_
  (apply w_condD; exact rfl; exact rfl) <;> intro hj
  · have hp := pows_get (w := w) (q := q) (n := j + 1) (j := j) (by omega)
    have hpx : (pows w q (j + 1))[(pows w q (j + 1)).length - 1]? = some (w ^ j % q) := by rw [hpl]; exact hp
    have hpq : w ^ j % q < q := Nat.mod_lt _ (by omega)
    have hst := hst j
    generalize w ^ j % q = x at *
    have hnx : pows w q (j + 1) ++ [mulm x w q] = pows w q (j + 1 + 1) := by
      rw [hst]
      unfold pows
      rw [List.range_succ (n := j + 1), List.map_append]; rfl
    have o2s := o2.sl
    refine runJN ?_
    (apply (r_drawnR (Ext h) (fun i => Nat.beq i 6)); exact rfl; exact mixed; kernel_rfl; exact e2)
    refine runJ ?_
    refine s_loadG rfl rfl (rd_now rfl e2 o2s) rfl hpx ?_
    refine runJ ?_
    apply (s_call Tryz_ent155 rfl rfl rfl)
    refine (mul_spec x w q h2 (by omega) (by omega) (by omega)).mono ?_
    rintro _ _ ⟨rfl, rfl⟩
    refine ⟨e2, ?_⟩
    refine runJ ?_
    (refine s_app1 (bytes := 8) (mulm x w q) o2 e2 rfl rfl rfl rfl rfl rfl rfl rfl rfl (by first | exact rfl | exact congrArg some (congrArg I (by omega))) (fun _ => rfl) rfl rfl (fun _ k => k) (by omega) (by simp only [maxLen]; omega) ?_)
    intro v3 h3 o3 e3 k3 b3
    rw [hnx] at o3
    refine runJ ?_
    apply again_normal (j + 1, v3)
    · exact subs
    · exact ⟨e3, o3, by dsimp only; omega⟩
    · dsimp only; omega
  · have hjn : j + 1 = n := by omega
    rw [hjn] at o2
    refine runJ ?_
    exact fin1 rfl rfl ⟨e2, o2⟩

theorem root_pow {q n r : Nat} (hq : 1 < q) (hn : 2 ≤ n) (h : RootR q n r) (hq2 : q % 2 = 1) : r ^ (n / 2) % q = q - 1 := by
  obtain ⟨-, w, hw, hp, ⟨j, hj, rfl⟩, -⟩ := h
  have hp : w ^ (n / 2) % q = q - 1 := by unfold powm at hp; rw [if_neg (by omega)] at hp; exact hp
  have h1 : Cg q ((w : Int) ^ (n / 2)) (-1) := cg_root hq hp
  rw [← Nat.pow_mod, ← Nat.pow_mul]
  have h2 := pow_odd h1 j
  rw [Nat.mul_comm (n / 2)] at h2
  have h3 : Cg q (((w ^ ((2 * j + 1) * (n / 2)) % q : Nat) : Int)) (((q - 1 : Nat) : Int)) := by
    rw [Int.natCast_emod, Int.natCast_pow]
    refine (Cg.mod _ _).trans (h2.trans (Cg.symm ?_))
    rw [Int.ofNat_sub (by omega)]
    exact ((Cg.q0 _).sub (Cg.refl _ _)).trans (Cg.of_eq (by omega))
  exact h3.eqN (Nat.mod_lt _ (by omega)) (by omega)

theorem Tryz_ent128 : Ent Tryz.prog 128 := ent_of Tryz.func128 (by kernel_rfl) rfl
structure NewT (B : Nat) (g : Value) (t : Tbl) : Prop where mk ::
  p : ∃ k, pblk g = some k ∧ B ≤ k
  vr : ∀ k, t.vr.ownBlock = some k → B ≤ k
  vu : ∀ k, t.vu.ownBlock = some k → B ≤ k

set_option maxHeartbeats 2000000 in
theorem nttNewX_spec (L q X : Nat) (h : Hp) (T : TB h) (hL1 : 1 ≤ L) (hL9 : L ≤ 9) (hq : q < 2305843009213693952) (hq1 : q % (2 * 2 ^ L) = 1) (hq3 : 1 < q) (hB : isB q = true) (hX : 2 ≤ X) (hX2 : X < 18446744073709551615)
    (hx : powm (powm X ((q - 1) / 2 ^ (L + 1)) q) (2 ^ (L + 1) / 2) q = q - 1) :
    CallsH Tryz.prog 128 [N (2 ^ L), U q] h fun v' h' => Ext h h' ∧ ∃ (g : Value) (t : Tbl), v' = .tuple #[g, N 0] ∧ TblAt h' g t ∧ TblOk t ∧ t.L = L ∧ t.q = q ∧ RootR q (2 ^ (L + 1)) t.w ∧ NewT h.size g t := by
  have hoc := oc_pow L (by omega)
  have hlo : 2 ^ 1 ≤ 2 ^ L := Nat.pow_le_pow_right (by omega) hL1
  have hhi : 2 ^ L ≤ 2 ^ 9 := Nat.pow_le_pow_right (by omega) hL9
  have h2L : 2 ^ (L + 1) = 2 * 2 ^ L := by rw [Nat.pow_succ, Nat.mul_comm]
  have hdv : (q - 1) % 2 ^ (L + 1) = 0 := by
    rw [h2L]
    have := Nat.div_add_mod q (2 * 2 ^ L)
    rw [hq1] at this
    rw [show q - 1 = 2 * 2 ^ L * (q / (2 * 2 ^ L)) by omega]
    exact Nat.mul_mod_right _ _
  have hodd : q % 2 = 1 := by
    have := Nat.div_add_mod q (2 * 2 ^ L)
    rw [hq1, Nat.mul_assoc] at this
    omega
  have RT := fun h T => root_spec q (L + 1) X h T (by omega) (by omega) (by omega) (by omega) hB hdv hX hX2 hx
  have hgn : Nat.gcd (2 ^ L) q = 1 := gcd_pow (n := 0) L hodd
  have hRp := fun r => root_pow (r := r) hq3 (show 2 ≤ 2 ^ (L + 1) by omega) (hq2 := hodd)
  rw [show 2 ^ (L + 1) / 2 = 2 ^ L by omega] at hRp
  rw [h2L] at RT
  generalize hN : 2 ^ L = n at *
  have hqn : ¬ q % (2 * n) ≠ 1 := by omega
  (apply enter Tryz.func128 rfl Tryz.ntmps128 rfl)
  refine runJ ?_
  (apply s_box; exact rfl; exact rfl; exact rfl; exact rfl)
  intro p1 h1 x1 e1 b1
  (try dsimp only [Value.cells, List.toList_toArray] at x1)
  refine clsI ?_
  refine runJ ?_
  (apply s_box; exact rfl; exact rfl; exact rfl; exact rfl)
  intro p2 h2 x2 e2 b2
  (try dsimp only [Value.cells, List.toList_toArray] at x2)
  refine clsI ?_
  have x1 := x1.ext e2
  have e12 := e1.trans e2
  refine runJ ?_
  (apply s_splitG; exact rfl; exact rfl; exact rfl; exact rfl) <;> intro g1
  · exact absurd g1 (by omega)
  refine runJ ?_
  (apply s_splitG; exact rfl; exact rfl; exact rfl; exact rfl) <;> intro g2
  · exact absurd g2 (by omega)
  refine runJ ?_
  apply (s_call Tryz_ent169 rfl rfl rfl)
  refine (onesN_spec n h2 (by omega) hoc.1).mono ?_
  rintro _ _ ⟨rfl, rfl⟩
  refine clsI ?_
  rw [hoc.2]
  refine runJ ?_
  (apply s_splitG; exact rfl; exact rfl; exact rfl; exact rfl) <;> intro g3
  · exact absurd g3 (by omega)
  refine runJ ?_
  (apply w_condF; exact rfl; exact rfl; exact hqn)
  refine runJ ?_
  apply (s_call Tryz_ent170 rfl rfl rfl)
  refine (RT h2 (T.ext e12)).mono ?_
  rintro _ h3 ⟨⟨r, rfl, hR⟩, e3⟩
  refine ⟨trivial, ?_⟩
  have e13 := e12.trans e3
  have x1 := x1.ext e3
  have x2 := x2.ext e3
  have hRq := hR.1
  have hRn := hRp r (by rw [h2L]; exact hR)
  have hgw : Nat.gcd r q = 1 := gcd_root hq3 (by omega) hRn
  refine runJ ?_
  (apply (s_build ([N n, U q, U 0, .slice none 0 0, .slice none 0 0])); exact rfl; exact rfl; exact rfl; (repeat (first | exact CellsAll.nil | (apply CellsAll.cons; (first | exact oneL (by assumption) | exact oneL (SlF.one (by assumption)) | exact oneL (SlF.one (OwnF.sl (by assumption))) | exact oneL (Var.one (by assumption)) | exact rfl)))); exact rfl; exact rfl)
  refine runJ ?_
  (apply s_box; exact rfl; exact rfl; exact rfl; exact rfl)
  intro g h4 G4 e4 b4
  (try dsimp only [Value.cells, List.toList_toArray] at G4)
  refine clsI ?_
  have n1 := x1.ne_new b4 (Nat.le_refl _)
  have n2 := x2.ne_new b4 (Nat.le_refl _)
  have e14 := e13.trans e4
  have x1 := x1.ext e4
  have x2 := x2.ext e4
  refine runJ ?_
  apply (s_call Tryz_ent171 rfl rfl rfl)
  refine (inv_spec n q h4 (by omega) (by omega)).mono ?_
  rintro _ _ ⟨⟨pi, ok, rfl, hI⟩, rfl⟩
  refine ⟨trivial, ?_⟩
  obtain rfl : ok = true := by
    cases ok with
    | true => rfl
    | false => rcases (hI.2 rfl).1 with h0 | h0 <;> omega
  obtain ⟨-, -, hI1, hI2⟩ := hI.1 rfl
  refine runJ ?_
  have G4x := G4
  (apply s_storeC; exact rfl; exact rfl; (first | exact rfl | exact SlF.one (by assumption) | exact SlF.one (OwnF.sl (by assumption)) | exact Var.one (by assumption)); exact rfl; exact rfl; exact G4; exact rfl)
  intro h5 G5 k5
  refine ⟨(by first | exact trivial | exact Ext.refl _ | assumption | exact Ext.only (by assumption) _ | exact Only.trans (Ext.only (by assumption) _) (by assumption)), ?_⟩
  have e5 : Ext h3 h5 := k5.oldV e4 b4 (Nat.le_refl _)
  have e35 := e13.trans e5
  have x1 := x1.only k5 n1
  have x2 := x2.only k5 n2
  refine runJ ?_
  apply (s_call Tryz_ent171 rfl rfl rfl)
  refine (inv_spec r q h5 (by omega) (by omega)).mono ?_
  rintro _ _ ⟨⟨ui, ok2, rfl, hJ⟩, rfl⟩
  refine ⟨trivial, ?_⟩
  obtain rfl : ok2 = true := by
    cases ok2 with
    | true => rfl
    | false => rcases (hJ.2 rfl).1 with h0 | h0 <;> omega
  obtain ⟨-, -, hJ1, hJ2⟩ := hJ.1 rfl
  have PW := fun z h x1 x2 => powers_spec z q n p1 p2 h x1 x2 (by omega) (by omega) hq3 hq
  refine runJ ?_
  refine s_callV rfl Tryz_ent172 rfl rfl rfl ?_
  refine (PW r h5 x1 x2 hRq).mono ?_
  rintro w6 h6 ⟨e6, o6⟩
  refine ⟨trivial, ?_⟩
  refine runJ ?_
  refine s_callV rfl Tryz_ent172 rfl rfl rfl ?_
  refine (PW ui h6 (x1.ext e6) (x2.ext e6) hJ1).mono ?_
  rintro w7 h7 ⟨e7, o7⟩
  refine ⟨trivial, ?_⟩
  have hs35 : h3.size < h5.size := by
    have h1 := (Array.getElem?_eq_some_iff.1 (show h4[h3.size]? = some _ by obtain ⟨b, rfl, hb⟩ := (show Var h4 g _ _ from G4x); cases b4; exact hb)).1
    have h2 := k5.1
    omega
  have G7 := (G5.ext e6).ext e7
  have o6 := o6.ext e7
  have m6 := o6.neV b4 hs35
  have m7 := o7.neV b4 (Nat.lt_of_lt_of_le hs35 e6.1)
  have e57 := e6.trans e7
  refine runJ ?_
  (apply s_storeC; exact rfl; exact rfl; (first | exact rfl | exact SlF.one (by assumption) | exact SlF.one (OwnF.sl (by assumption)) | exact Var.one (by assumption)); exact rfl; exact rfl; exact G7; exact rfl)
  intro h8 G8 k8
  refine ⟨(by first | exact trivial | exact Ext.refl _ | assumption | exact Ext.only (by assumption) _ | exact Only.trans (Ext.only (by assumption) _) (by assumption)), ?_⟩
  have o6 := o6.only k8 m6
  have o7 := o7.only k8 m7
  have e8 : Ext h3 h8 := k8.oldV (e5.trans e57) b4 (Nat.le_refl _)
  refine runJ ?_
  (apply s_storeC; exact rfl; exact rfl; (first | exact rfl | exact SlF.one (by assumption) | exact SlF.one (OwnF.sl (by assumption)) | exact Var.one (by assumption)); exact rfl; exact rfl; exact G8; exact rfl)
  intro h9 G9 k9
  refine ⟨(by first | exact trivial | exact Ext.refl _ | assumption | exact Ext.only (by assumption) _ | exact Only.trans (Ext.only (by assumption) _) (by assumption)), ?_⟩
  have o6 := o6.only k9 m6
  have o7 := o7.only k9 m7
  have e9 : Ext h3 h9 := k9.oldV e8 b4 (Nat.le_refl _)
  refine runJ ?_
  refine fin2 rfl rfl rfl ⟨e13.trans e9, g, ⟨L, q, r, ui, pi, w6, w7⟩, rfl, ⟨?_, ?_, ?_⟩, ⟨hL1, hL9, hq3, hq, hRq, hJ1, hI1, ?_, hJ2, ?_⟩, rfl, rfl, ?_, ⟨⟨_, b4, e13.1⟩, fun k hk => Nat.le_trans e35.1 (o6.blk k hk).1, fun k hk => Nat.le_trans (Nat.le_trans e35.1 e6.1) (o7.blk k hk).1⟩⟩
  · dsimp only; rw [hN]; exact G9
  · dsimp only; rw [hN]; exact o6.sl
  · dsimp only; rw [hN]; exact o7.sl
  · dsimp only; rw [hN]; exact hRn
  · dsimp only; rw [hN]; exact hI2
  · rw [h2L]; exact hR
end Go.Proofs.YtfcmdefigldpnaaGreatDoor


namespace Go.Den
set_option linter.unusedVariables false
set_option maxRecDepth 8000
open Go Go.RowKit

section tail
variable {P : Program} {C : World → Prop} {E : Nat → Bool}

def regionOkT (ops : List Oper) (E : Nat → Bool) (t : Nat) : Bool :=
  let A := ops.toArray
  let an := ancGo ops #[]
  Region.noSelect A &&
  ops.zipIdx.all fun (oj, j) =>
    oj.after.toList.all (fun e => !Region.binds .any e || Nat.blt e.on j) &&
    (match oj.guard with | none => true | some g => Nat.blt g.1 j) &&
    (ops.take j).zipIdx.all fun (oi, i) =>
      bif Nat.blt j t then
        ((oj.after.toList.any fun e => Region.binds .any e && Nat.beq e.on i) || oi.apart A oj) &&
        (!(E i && E j) || (an.getD j 0).testBit i)
      else (an.getD j 0).testBit i

theorem regionOkT_spec {l : List Oper} {t : Nat} (h : regionOkT l E t = true) : NoSel l.toArray ∧
    (∀ j oj, l[j]? = some oj → ∀ e ∈ oj.after.toList, Region.binds .any e = true → e.on < j) ∧
    (∀ (j : Nat) (oj : Oper) (g : Nat × Bool), l[j]? = some oj → oj.guard = some g → g.1 < j) ∧
    (∀ i j oi oj, i < j → j < t → l[i]? = some oi → l[j]? = some oj → ((∃ e ∈ oj.after.toList, Region.binds .any e = true ∧ e.on = i) ∨ oi.apart l.toArray oj = true) ∧
      (E i = true → E j = true → ((ancGo l #[]).getD j 0).testBit i = true)) ∧
    (∀ i j oi oj, i < j → ¬ j < t → l[i]? = some oi → l[j]? = some oj → ((ancGo l #[]).getD j 0).testBit i = true) := by
  unfold regionOkT at h
  simp only [Bool.and_eq_true] at h
  obtain ⟨h0, h⟩ := h
  have hq : ∀ i j oi oj, i < j → l[i]? = some oi → l[j]? = some oj → (bif Nat.blt j t then
        ((oj.after.toList.any fun e => Region.binds .any e && Nat.beq e.on i) || oi.apart l.toArray oj) &&
        (!(E i && E j) || ((ancGo l #[]).getD j 0).testBit i)
      else ((ancGo l #[]).getD j 0).testBit i) = true := fun i j oi oj hij hi hj => by
    have h1 := zipIdx_all h hj
    simp only [Bool.and_eq_true] at h1
    exact zipIdx_all h1.2 (show (l.take j)[i]? = some oi by rw [List.getElem?_take, if_pos hij]; exact hi)
  refine ⟨Region.noSelect_spec h0, fun j oj hj e he hb => ?_, fun j oj g hj hg => ?_, fun i j oi oj hij hjt hi hj => ?_, fun i j oi oj hij hjt hi hj => ?_⟩
  · have h1 := zipIdx_all h hj
    simp only [Bool.and_eq_true, List.all_eq_true] at h1
    have := h1.1.1 e he
    simp only [hb, Bool.not_true, Bool.false_or] at this
    exact Nat.le_of_ble_eq_true this
  · have h1 := zipIdx_all h hj
    simp only [Bool.and_eq_true] at h1
    have := h1.1.2
    rw [hg] at this
    exact Nat.le_of_ble_eq_true this
  · have h2 := hq i j oi oj hij hi hj
    rw [show Nat.blt j t = true from Nat.ble_eq_true_of_le hjt, cond_true] at h2
    simp only [Bool.and_eq_true, Bool.or_eq_true] at h2
    obtain ⟨h3, h4⟩ := h2
    refine ⟨?_, fun ei ej => ?_⟩
    · rcases h3 with h3 | h3
      · rw [List.any_eq_true] at h3
        obtain ⟨e, he, hb⟩ := h3
        simp only [Bool.and_eq_true] at hb
        exact .inl ⟨e, he, hb.1, Nat.eq_of_beq_eq_true hb.2⟩
      · exact .inr h3
    · simpa [ei, ej] using h4
  · have h2 := hq i j oi oj hij hi hj
    have : Nat.blt j t = false := by
      cases hb : Nat.blt j t with
      | false => rfl
      | true => exact absurd (Nat.le_of_ble_eq_true hb) hjt
    rwa [this, cond_false] at h2

theorem any_of_last {D : World → Prop} {l : List Oper} {t : Nat} {Q : Exit → Act → World → Prop} (h : regionOkT l E t = true) : ∀ (m s : Nat) (listed : Array Bool) (a : Act) (w : World),
    s + m = l.length → t ≤ s → (∀ i, i < l.length → (listed.getD i true = false ↔ s ≤ i)) → listed.size = l.length →
    Closed l.toArray (fun i => listed.getD i false) → D w → Mix P l.toArray D (fun _ => true) (fun a w => Q .normal a w) (List.range' s m) a w → wpAny P .any l.toArray Q m listed a w := by
  obtain ⟨hs, hback, -, -, hlast⟩ := regionOkT_spec h
  intro m
  induction m with
  | zero =>
    intro s listed a w hlen hts hmem hsz hcl hD hm
    refine ⟨?_, hm⟩
    rw [List.eq_nil_iff_forall_not_mem]
    intro j hj
    obtain ⟨h1, o, ho, -⟩ := mem_ready.1 hj
    have hjl : j < l.length := by simpa using (Array.getElem?_eq_some_iff.1 ho).1
    have := (hmem j hjl).1 h1
    omega
  | succ m ih =>
    intro s listed a w hlen hts hmem hsz hcl hD hm
    have hsl : s < l.length := by omega
    have getb : ∀ i, i < l.length → listed.getD i true = listed.getD i false := fun i hi => by
      rw [Array.getD_eq_getD_getElem?, Array.getD_eq_getD_getElem?, Array.getElem?_eq_getElem (by omega)]; rfl
    refine ⟨fun hnil => ?_, fun j hj => ?_⟩
    · exfalso
      have hkr : s ∈ Region.ready .any l.toArray listed := by
        refine mem_ready.2 ⟨(hmem s hsl).2 (Nat.le_refl _), l[s]'hsl, by simp [hsl], fun e he hb => ?_⟩
        have hlt := hback s (l[s]'hsl) (by simp [hsl]) e (by simpa using he) hb
        have hlt' : e.on < l.length := Nat.lt_trans hlt hsl
        rw [← getb _ hlt']
        cases hg : listed.getD e.on true with
        | true => rfl
        | false => have := (hmem e.on hlt').1 hg; omega
      rw [hnil] at hkr
      cases hkr
    · obtain ⟨hj1, oj, hoj, hjall⟩ := mem_ready.1 hj
      have hjl : j < l.length := by simpa using (Array.getElem?_eq_some_iff.1 hoj).1
      have hoj' : l[j]? = some oj := by simpa using hoj
      have hjs := (hmem j hjl).1 hj1
      have hdep : ∀ e ∈ oj.after.toList, Region.binds .any e = true → listed.getD e.on false = true := fun e he hb => hjall e (by simpa using he) hb
      have hje : j = s := by
        rcases Nat.lt_or_ge s j with hlt | hge
        · exfalso
          have hb := hlast s j (l[s]'hsl) oj hlt (by omega) (by simp [hsl]) hoj'
          have := anc_sound (ops := l.toArray) hcl l #[] (by simp) (by simp) (fun k _ hk => ⟨l[k]'(by simpa using hk), by simp at hk; simp [hk]⟩) (by simp) j oj hoj (by simpa using hjl) hdep s hb
          have h2 := (hmem s hsl).2 (Nat.le_refl _)
          rw [getb s hsl, this] at h2
          cases h2
        · omega
      subst hje
      rw [List.range'_succ] at hm
      obtain ⟨o, ho, hm⟩ := hm
      rw [hoj] at ho; cases ho
      have hmem' : ∀ i, i < l.length → ((listed.setIfInBounds j true).getD i true = false ↔ j + 1 ≤ i) := fun i hi => by
        by_cases hij : j = i
        · subst hij
          have hset : (listed.setIfInBounds j true).getD j true = true := by
            rw [Array.getD_eq_getD_getElem?, Array.getElem?_setIfInBounds_self_of_lt (by omega)]; rfl
          rw [hset]; simp
        · rw [getD_set_ne true hij, hmem i hi]; omega
      have hcl' : Closed l.toArray (fun i => (listed.setIfInBounds j true).getD i false) := fun k o hk hl e he hb => by
        by_cases hkj : j = k
        · subst hkj
          rw [hoj] at hk; cases hk
          exact getD_set_true (hdep e he hb)
        · have hl' : listed.getD k false = true := by
            have := getD_set_ne (listed := listed) false hkj
            simp only [this] at hl
            exact hl
          exact getD_set_true (hcl k o hk hl' e he hb)
      have next : ∀ a' w', D w' → Mix P l.toArray D (fun _ => true) (fun a w => Q .normal a w) (List.range' (j + 1) m) a' w' → wpAny P .any l.toArray Q m (listed.setIfInBounds j true) a' w' := fun a' w' hD' hm' =>
        ih (j + 1) (listed.setIfInBounds j true) a' w' (by omega) (by omega) hmem' (by simpa using hsz) hcl' hD' hm'
      unfold wpOp
      simp only [hoj]
      rcases hm with ⟨v, hv, k⟩ | ⟨-, hW, k⟩
      · rcases hv with ⟨hW, hr⟩ | ⟨hW, rfl⟩
        · rw [if_pos (show Region.wanted _ _ = true from hW)]
          refine .inl ?_
          unfold Oper.wp
          rw [hr w hD]
          exact next _ _ hD k
        · rw [if_neg (by unfold Wanted at hW; rw [hW]; exact Bool.false_ne_true)]
          exact next _ _ hD k
      · rw [if_pos (show Region.wanted _ _ = true from hW)]
        exact .inl (wp_of_Eff (fun v w' hk => next _ _ hk.1 hk.2) k)

theorem any_of_mixT {D : World → Prop} {l : List Oper} {t : Nat} {Q : Exit → Act → World → Prop} (h : regionOkT l E t = true) (ht : t ≤ l.length) : ∀ (m : Nat) (L : List Nat) (listed : Array Bool) (a : Act) (w : World),
    L.length = m → L.Pairwise (· < ·) → (∀ i, i ∈ L ↔ i < t ∧ listed.getD i true = false) → (∀ i, i < l.length → ¬ i < t → listed.getD i true = false) → listed.size = l.length →
    Closed l.toArray (fun i => listed.getD i false) → C w → Mix P l.toArray C E (fun a w => D w ∧ Mix P l.toArray D (fun _ => true) (fun a w => Q .normal a w) (List.range' t (l.length - t)) a w) L a w →
    wpAny P .any l.toArray Q (m + (l.length - t)) listed a w := by
  obtain ⟨hs, hback, -, hpair, hlast⟩ := regionOkT_spec h
  intro m
  induction m with
  | zero =>
    intro L listed a w hlen hsort hmem htl hsz hcl hC hm
    have hL : L = [] := List.length_eq_zero_iff.1 hlen
    subst hL
    rw [Nat.zero_add]
    refine any_of_last h (l.length - t) t listed a w (by omega) (Nat.le_refl _) (fun i hi => ⟨fun hf => ?_, fun hge => htl i hi (by omega)⟩) hsz hcl hm.1 hm.2
    rcases Nat.lt_or_ge i t with hlt | hge
    · have := (hmem i).2 ⟨hlt, hf⟩
      cases this
    · exact hge
  | succ m ih =>
    intro L listed a w hlen hsort hmem htl hsz hcl hC hm
    have getb : ∀ i, i < l.length → listed.getD i true = listed.getD i false := fun i hi => by
      rw [Array.getD_eq_getD_getElem?, Array.getD_eq_getD_getElem?, Array.getElem?_eq_getElem (by omega)]; rfl
    rw [show m + 1 + (l.length - t) = (m + (l.length - t)) + 1 by omega]
    cases L with
    | nil => simp at hlen
    | cons k0 L0 =>
    have hk0 := (hmem k0).1 (by simp)
    refine ⟨fun hnil => ?_, fun j hj => ?_⟩
    · exfalso
      have hkl : k0 < l.length := by omega
      have hkr : k0 ∈ Region.ready .any l.toArray listed := by
        refine mem_ready.2 ⟨hk0.2, l[k0]'hkl, by simp [hkl], fun e he hb => ?_⟩
        have hlt := hback k0 (l[k0]'hkl) (by simp [hkl]) e (by simpa using he) hb
        have hlt' : e.on < l.length := Nat.lt_trans hlt hkl
        rw [← getb _ hlt']
        cases hg : listed.getD e.on true with
        | true => rfl
        | false =>
          have hin := (hmem e.on).2 ⟨by omega, hg⟩
          rcases List.mem_cons.1 hin with heq | hin'
          · omega
          · have := (List.pairwise_cons.1 hsort).1 _ hin'
            omega
      rw [hnil] at hkr
      cases hkr
    · obtain ⟨hj1, oj, hoj, hjall⟩ := mem_ready.1 hj
      have hjl : j < l.length := by simpa using (Array.getElem?_eq_some_iff.1 hoj).1
      have hoj' : l[j]? = some oj := by simpa using hoj
      have hdep : ∀ e ∈ oj.after.toList, Region.binds .any e = true → listed.getD e.on false = true := fun e he hb => hjall e (by simpa using he) hb
      have hanc : ∀ i, ((ancGo l #[]).getD j 0).testBit i = true → listed.getD i false = true := fun i hb =>
        anc_sound (ops := l.toArray) hcl l #[] (by simp) (by simp) (fun k _ hk => ⟨l[k]'(by simpa using hk), by simp at hk; simp [hk]⟩) (by simp) j oj hoj (by simpa using hjl) hdep i hb
      have hjt : j < t := by
        rcases Nat.lt_or_ge j t with hlt | hge
        · exact hlt
        · exfalso
          have hkl : k0 < l.length := by omega
          have hb := hanc k0 (hlast k0 j (l[k0]'hkl) oj (by omega) (by omega) (by simp [hkl]) hoj')
          have := hk0.2
          rw [getb k0 hkl, hb] at this
          cases this
      have hjL : j ∈ k0 :: L0 := (hmem j).2 ⟨hjt, hj1⟩
      obtain ⟨pre, post, hL⟩ := List.append_of_mem hjL
      rw [hL] at hm hsort hmem hlen
      have hpre : ∀ i ∈ pre, i < j := fun i hi => by
        have := List.pairwise_append.1 hsort
        exact this.2.2 i hi j (by simp)
      have hap : ∀ i ∈ pre, (∀ oi, l.toArray[i]? = some oi → oi.apart l.toArray oj = true) ∧ ¬ (E i = true ∧ E j = true) := fun i hi => by
        have hi1 := (hmem i).1 (by simp [hi])
        have hil : i < l.length := by omega
        have hif : listed.getD i false = false := by rw [← getb i hil]; exact hi1.2
        refine ⟨fun oi hoi => ?_, fun ⟨e1, e2⟩ => ?_⟩
        · obtain ⟨hor, -⟩ := hpair i j oi oj (hpre i hi) hjt (by simpa using hoi) hoj'
          rcases hor with ⟨e, he, hb, heq⟩ | hap
          · have := hdep e he hb
            rw [heq, hif] at this
            cases this
          · exact hap
        · obtain ⟨-, hch⟩ := hpair i j (l[i]'hil) oj (hpre i hi) hjt (by simp [hil]) hoj'
          have := hanc i (hch e1 e2)
          rw [hif] at this
          cases this
      have hmem' : ∀ i, i ∈ pre ++ post ↔ i < t ∧ (listed.setIfInBounds j true).getD i true = false := fun i => by
        have hnd : i ∈ pre ++ post ↔ i ∈ pre ++ j :: post ∧ i ≠ j := by
          have hq := List.pairwise_append.1 hsort
          have hq2 := List.pairwise_cons.1 hq.2.1
          constructor
          · intro hi
            refine ⟨by rcases List.mem_append.1 hi with hi | hi <;> simp [hi], fun heq => ?_⟩
            subst heq
            rcases List.mem_append.1 hi with hi | hi
            · exact Nat.lt_irrefl _ (hpre _ hi)
            · exact Nat.lt_irrefl _ (hq2.1 _ hi)
          · rintro ⟨hi, hne⟩
            rcases List.mem_append.1 hi with hi | hi
            · simp [hi]
            · rcases List.mem_cons.1 hi with hi | hi
              · exact absurd hi hne
              · simp [hi]
        rw [hnd, hmem i]
        by_cases hij : j = i
        · subst hij
          have hset : (listed.setIfInBounds j true).getD j true = true := by
            rw [Array.getD_eq_getD_getElem?, Array.getElem?_setIfInBounds_self_of_lt (by omega)]; rfl
          rw [hset]
          simp
        · rw [getD_set_ne true hij]
          constructor
          · rintro ⟨⟨h1, h2⟩, -⟩; exact ⟨h1, h2⟩
          · rintro ⟨h1, h2⟩; exact ⟨⟨h1, h2⟩, fun e => hij e.symm⟩
      have htl' : ∀ i, i < l.length → ¬ i < t → (listed.setIfInBounds j true).getD i true = false := fun i hi hit => by
        rw [getD_set_ne true (by omega)]; exact htl i hi hit
      have hcl' : Closed l.toArray (fun i => (listed.setIfInBounds j true).getD i false) := fun k o hk hl e he hb => by
        by_cases hkj : j = k
        · subst hkj
          rw [hoj] at hk; cases hk
          exact getD_set_true (hdep e he hb)
        · have hl' : listed.getD k false = true := by
            have := getD_set_ne (listed := listed) false hkj
            simp only [this] at hl
            exact hl
          exact getD_set_true (hcl k o hk hl' e he hb)
      have hlen' : (pre ++ post).length = m := by simp at hlen ⊢; omega
      have hsort' : (pre ++ post).Pairwise (· < ·) := by
        refine hsort.sublist ?_
        exact List.Sublist.append_left (List.sublist_cons_self _ _) _
      have next : ∀ a' w', C w' → Mix P l.toArray C E (fun a w => D w ∧ Mix P l.toArray D (fun _ => true) (fun a w => Q .normal a w) (List.range' t (l.length - t)) a w) (pre ++ post) a' w' → wpAny P .any l.toArray Q (m + (l.length - t)) (listed.setIfInBounds j true) a' w' := fun a' w' hC' hm' =>
        ih (pre ++ post) (listed.setIfInBounds j true) a' w' hlen' hsort' hmem' htl' (by simpa using hsz) hcl' hC' hm'
      unfold wpOp
      simp only [hoj]
      rcases pull hs hoj post pre a w hC hap hm with ⟨v, hv, k⟩ | ⟨-, hW, k⟩
      · rcases hv with ⟨hW, hr⟩ | ⟨hW, rfl⟩
        · rw [if_pos (show Region.wanted _ _ = true from hW)]
          refine .inl ?_
          unfold Oper.wp
          rw [hr w hC]
          exact next _ _ hC k
        · rw [if_neg (by unfold Wanted at hW; rw [hW]; exact Bool.false_ne_true)]
          exact next _ _ hC k
      · rw [if_pos (show Region.wanted _ _ = true from hW)]
        exact .inl (wp_of_Eff (fun v w' hk => next _ _ hk.1 hk.2) k)

theorem region_drawnT {D : World → Prop} {id t : Nat} {l : List Oper} {Q : Exit → Act → World → Prop} {a : Act} {w : World} (hm : P.follows .mixedOrders = true) (hok : regionOkT l E t = true) (ht : t ≤ l.length)
    (hC : C { w with drawn := w.drawn + 1 }) (h : Mix P l.toArray C E (fun a w => D w ∧ Mix P l.toArray D (fun _ => true) (fun a w => Q .normal a w) (List.range' t (l.length - t)) a w) (List.range t) a { w with drawn := w.drawn + 1 }) :
    (Code.region id l.toArray true).wp P Q a w := by
  refine wp_region_any hm ?_
  have := any_of_mixT (P := P) (C := C) (Q := Q) hok ht t (List.range t) (Array.replicate l.length false) a { w with drawn := w.drawn + 1 } (by simp) List.pairwise_lt_range
    (fun i => by
      rw [List.mem_range]
      constructor
      · intro hi
        refine ⟨hi, ?_⟩
        rw [Array.getD_eq_getD_getElem?, Array.getElem?_eq_getElem (by simp; omega)]
        simp
      · exact fun hi => hi.1)
    (fun i hi _ => by rw [Array.getD_eq_getD_getElem?, Array.getElem?_eq_getElem (by simpa using hi)]; simp)
    (by simp) (fun k o _ hk e _ _ => by
      exfalso
      by_cases hlt : k < l.length
      · simp [Array.getD_eq_getD_getElem?, hlt] at hk
      · simp [Array.getD_eq_getD_getElem?, hlt] at hk) hC h
  rw [show t + (l.length - t) = l.length by omega] at this
  simpa using this
end tail

section take
variable {P : Program} {C : World → Prop} {E : Nat → Bool}
theorem wanted_take {l : List Oper} {t : Nat} {o : Oper} {a : Act} (hg : ∀ g, o.guard = some g → g.1 < t) : Wanted (l.take t).toArray o a = Wanted l.toArray o a := by
  unfold Wanted Region.wanted
  cases ho : o.guard with
  | none => rfl
  | some g =>
    have := hg g ho
    simp only [yielded]
    have e : (l.take t).toArray[g.1]? = l.toArray[g.1]? := by simp [this]
    rw [e]
theorem mix_take {l : List Oper} {t : Nat} {Q : Act → World → Prop} (hg : ∀ (j : Nat) (oj : Oper) (g : Nat × Bool), l[j]? = some oj → oj.guard = some g → g.1 < j) : ∀ (L : List Nat) (a : Act) (w : World), (∀ i ∈ L, i < t) →
    Mix P (l.take t).toArray C E Q L a w → Mix P l.toArray C E Q L a w
  | [], a, w, _, h => h
  | i :: L, a, w, hL, ⟨o, ho, h⟩ => by
    have hi := hL i (by simp)
    have ho' : l[i]? = some o := by simpa [List.getElem?_take, hi] using ho
    have hw : Wanted (l.take t).toArray o a = Wanted l.toArray o a := wanted_take fun g hgo => Nat.lt_trans (hg i o g ho' hgo) hi
    refine ⟨o, by simpa using ho', ?_⟩
    rcases h with ⟨v, hv, k⟩ | ⟨h1, h2, k⟩
    · refine .inl ⟨v, ?_, mix_take hg L _ _ (fun j hj => hL j (by simp [hj])) k⟩
      unfold Stab at hv ⊢
      rwa [hw] at hv
    · exact .inr ⟨h1, by rw [← hw]; exact h2, Eff_mono (fun v w' hk => ⟨hk.1, mix_take hg L _ _ (fun j hj => hL j (by simp [hj])) hk.2⟩) k⟩
end take

def TailQ (P : Program) (n : Nat) (ops : List Oper) (t : Nat) (Q : Post) : Post
  | .normal, l, h => S P n ops (fun _ => True) (fun _ => true) Q t l h
  | e, l, h => Q e l h
theorem tail_end {P : Program} {n : Nat} {ops : List Oper} {t : Nat} {Q : Post} {l : Fr} {h : Hp} (k : S P n ops (fun _ => True) (fun _ => true) Q t l h) : At (TailQ P n ops t Q) .normal l h := ⟨k⟩


section rules
variable {P : Program} {n : Nat} {Q : Post} {l : Fr} {h : Hp}
theorem r_drawnT {c : Code} (t : Nat) (Ch : Hp → Prop) (hc : tagOf c = .region true) (hm : P.follows .mixedOrders = true) (hok : regionOkT (opsOf c) (effB (opsOf c)) t = true) (ht : Nat.ble t (opsOf c).length = true) (hC : Ch h)
    (k : S P n ((opsOf c).take t) Ch (effB (opsOf c)) (TailQ P n (opsOf c) t Q) 0 l h) : W P n c Q l h := W.mk fun a w hf hw => by
  cases c <;> cases hc
  rename_i id ops
  have ht' : t ≤ ops.toList.length := Nat.le_of_ble_eq_true ht
  obtain ⟨-, -, hg, -, -⟩ := regionOkT_spec hok
  have key : ∀ w0 : World, w0.heap = w.heap → Oth w w0 → Mix P ops.toList.toArray (fun w' => Oth w w' ∧ Ch w'.heap) (effB ops.toList) (fun a w' => (Oth w w' ∧ True) ∧ Mix P ops.toList.toArray (fun w' => Oth w w' ∧ True) (fun _ => true) (fun a w2 => lift n Q w .normal a w2) (List.range' t (ops.toList.length - t)) a w') (List.range t) a w0 := fun w0 hw0 ho => by
    have h1 := k.run a w0 w hf (by rw [hw0]; exact hw) ho
    have hlen : ((opsOf (Code.region id ops true)).take t).length = t := by
      show (ops.toList.take t).length = t
      rw [List.length_take]; omega
    rw [Nat.sub_zero, hlen, ← List.range_eq_range'] at h1
    have h2 := mix_take (P := P) (E := effB ops.toList) (l := ops.toList) (t := t) hg (List.range t) a w0 (fun i hi => List.mem_range.1 hi) h1
    refine mix_mono (fun a' w' hq => ?_) _ _ _ h2
    obtain ⟨l', g1, g2, g3⟩ := hq
    refine ⟨⟨g3, trivial⟩, ?_⟩
    have h3 := g2.run a' w' w g1 rfl g3
    have e : opsOf (Code.region id ops true) = ops.toList := rfl
    rw [e] at h3
    exact h3
  have := region_drawnT (P := P) (id := id) (l := ops.toList) (E := effB ops.toList) (Q := lift n Q w) (C := fun w' => Oth w w' ∧ Ch w'.heap) (D := fun w' => Oth w w' ∧ True) hm hok ht' (a := a) (w := w) ⟨⟨rfl, rfl, rfl⟩, by rw [← hw] at hC; exact hC⟩ (key { w with drawn := w.drawn + 1 } rfl ⟨rfl, rfl, rfl⟩)
  simpa using this
end rules
end Go.Den

