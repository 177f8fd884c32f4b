/- Texts NttC to NttE of this work, joined, without what the law does not lean on. -/
import Derived.Test.YtfcmdefigldpnaaGreatDoorMCt13
namespace Go.Proofs.YtfcmdefigldpnaaGreatDoor
set_option linter.unusedVariables false
set_option maxRecDepth 8000
open Go Go.Den Go.RowKit Go.Mth

theorem pow_split {L s : Nat} (h : s < L) : 2 ^ L = 2 ^ (L - s - 1) * (2 * 2 ^ s) := by
  rw [Nat.mul_left_comm, ← Nat.pow_add, show L - s - 1 + s = L - 1 by omega, ← Nat.pow_succ', show (L - 1).succ = L by omega]
theorem pow_by {L s : Nat} (h : s ≤ L) : 2 ^ L / 2 ^ s = 2 ^ (L - s) := Nat.pow_div h (by decide)
theorem pow_kb {L s k : Nat} (h : s ≤ L) (hk : k < 2 ^ s) : k * 2 ^ (L - s) < 2 ^ L := by
  have := Nat.mul_lt_mul_of_pos_right hk (Nat.two_pow_pos (L - s))
  rwa [← Nat.pow_add, show s + (L - s) = L by omega] at this
theorem blk_room {M D c n : Nat} (hn : n = M * D) (h : c * D < n) : c * D + D ≤ n := by
  subst hn
  have : c < M := Nat.lt_of_mul_lt_mul_right h
  rw [← Nat.succ_mul]; exact Nat.mul_le_mul_right _ this

abbrev gt (xs : List Nat) (p : Nat) : Int := ((xs.getD p 0 : Nat) : Int)
/-- What the transform leaves. -/
def Trn (L q z : Nat) (xs ys : List Nat) : Prop := Fit (2 ^ L) q ys ∧ ∀ k, k < 2 ^ L → Cg q (gt ys k) (sm (2 ^ L) fun j => gt xs j * (z : Int) ^ (2 * (k * j)))

theorem fit_of {n q : Nat} {ys : List Nat} (hl : ys.length = n) (h : ∀ p, p < n → ys.getD p 0 < q) : Fit n q ys := ⟨hl, fun x hx => by
  obtain ⟨k, hk, rfl⟩ := List.getElem_of_mem hx
  have := h k (by omega)
  rw [getD_of (List.getElem?_eq_getElem hk)] at this
  exact this⟩
theorem fit_get {n q : Nat} {ys : List Nat} (h : Fit n q ys) {p : Nat} (hp : p < n) : ys.getD p 0 < q := h.2 _ (List.mem_of_getElem? (getD_lt (by rw [h.1]; exact hp)))

theorem Tryz_ent188 : Ent Tryz.prog 188 := ent_of Tryz.func188 (by kernel_rfl) rfl
set_option maxHeartbeats 4000000 in
theorem cyclic_spec (g va vp : Value) (t : Tbl) (z B : Nat) (xs : List Nat) (h : Hp) (K : TblOk t) (A : TblAt h g t) (o : OwnF h B 26 U va xs) (sp : SlF h U vp (pows z t.q (2 ^ t.L))) (hne1 : pblk g ≠ va.ownBlock) (hne2 : vp.ownBlock = none ∨ vp.ownBlock ≠ va.ownBlock) (hl : xs.length = 2 ^ t.L) (hx : ∀ x ∈ xs, x < t.q) (hz : Cg t.q ((z : Int) ^ (2 ^ t.L)) (-1)) :
    CallsH Tryz.prog 188 [g, va, vp] h fun v' h' => v' = va ∧ Only va.ownBlock h h' ∧ ∃ ys, OwnF h' B 26 U va ys ∧ Trn t.L t.q z xs ys := by
  have G := A.var
  have hn := K.size
  have hq := K.q61
  have hq1 := K.q1
  have hL1 := K.l1
  have hL9 := K.l9
  have hbl := blen_pow t.L (by omega)
  have hrv := fun i => rv64_rev (L := t.L) (i := i) hL1 hL9
  have hrl := fun i => rev_lt t.L i
  obtain ⟨L, q, w, u, p, vr, vu⟩ := t
  dsimp only at G hn hq hq1 sp hl hx hz hL1 hL9 hbl hrv hrl ⊢
  generalize hN : 2 ^ L = n at G hn sp hl hz hbl
  have hpl := pows_len z q n
  have s0 := o.sl
  (apply enter Tryz.func188 rfl Tryz.ntmps188 rfl)
  refine runJ ?_
  apply (s_call Tryz_ent202 rfl rfl rfl)
  refine (blen_spec n h (by omega)).mono ?_
  rintro _ _ ⟨rfl, rfl⟩
  refine ⟨(by first | exact trivial | exact Ext.refl _ | assumption | exact Ext.trans (by assumption) (by assumption)), ?_⟩
  rw [hbl]
  refine runJ ?_
  (first | (apply w_seqB; exact rfl; apply w_block; exact rfl) | skip)
  apply (w_loop (σ := Nat × List Nat) rfl (fun j => [(0, g), (1, va), (2, vp), (7, N L), (24, N n), (25, N j.1)])
    (fun j h' => Only va.ownBlock h h' ∧ j.1 ≤ n ∧ OwnF h' B 26 U va j.2 ∧ Swp L j.1 (fun p => xs.getD p 0) j.2) (fun j => n - j.1) (0, xs))
  · exact (Sub.consE rfl (by first | rfl | (refine congrArg I ?_; (try dsimp only); omega) | (refine congrArg Value.bool ?_; simp [*])) (Sub.consE rfl (by first | rfl | (refine congrArg I ?_; (try dsimp only); omega) | (refine congrArg Value.bool ?_; simp [*])) (Sub.consE rfl (by first | rfl | (refine congrArg I ?_; (try dsimp only); omega) | (refine congrArg Value.bool ?_; simp [*])) (Sub.consE rfl (by first | rfl | (refine congrArg I ?_; (try dsimp only); omega) | (refine congrArg Value.bool ?_; simp [*])) (Sub.consE rfl (by first | rfl | (refine congrArg I ?_; (try dsimp only); omega) | (refine congrArg Value.bool ?_; simp [*])) (Sub.consE rfl (by first | rfl | (refine congrArg I ?_; (try dsimp only); omega) | (refine congrArg Value.bool ?_; simp [*])) (Sub.nil _)))))))
  · exact ⟨Only.refl _ _, Nat.zero_le _, o, swp_start (by rw [hN]; exact hl) fun p _ => rfl⟩
  · rintro ⟨j, ys⟩ h2 ⟨k2, j1, o2, j2⟩
    dsimp only at k2 j1 o2 j2 ⊢
    have G2 := G.only k2 hne1
    have hyl : ys.length = n := by rw [j2.1, hN]
    refine runJ ?_
    (apply w_condD; exact rfl; exact rfl) <;> intro hj
    · have hr := hrl j
      have hrj := hrv j (by omega)
      rw [hN] at hr
      refine runJ ?_
      apply (s_call Tryz_ent203 rfl rfl rfl)
      refine (reverse_spec j h2 (by omega)).mono ?_
      rintro _ _ ⟨rfl, rfl⟩
      refine ⟨(by first | exact trivial | exact Ext.refl _ | assumption | exact Ext.trans (by assumption) (by assumption)), ?_⟩
      have hrb := rv64_lt j
      refine runJ ?_
      rw [hrj]
      (apply w_condD; exact rfl; exact rfl) <;> intro hjr
      · have x1 := swp_lo j2 (by omega) hjr
        have x2 := swp_hi j2 (by omega) hjr
        have st := swp_step j2 (by omega) hjr
        have hx1 : j < ys.length := by omega
        have hx2 : rev L j < ys.length := by omega
        generalize xs.getD j 0 = a at *
        generalize xs.getD (rev L j) 0 = b at *
        have hx3 : rev L j < (ys.set j b).length := by rw [List.length_set]; exact hx2
        have s2 := o2.sl
        refine runJN ?_
        (apply (r_drawnR (fun _ => True) (fun i => Nat.beq i 7 || Nat.beq i 11)); exact rfl; exact mixed; kernel_rfl; exact trivial)
        refine runJ ?_
        refine s_loadG rfl rfl (rd_now rfl trivial s2) rfl x2 ?_
        refine runJ ?_
        refine s_loadG rfl rfl (rd_now rfl trivial s2) rfl x1 ?_
        refine runJ ?_
        (apply (s_storeF (b)); exact rfl; exact rfl; exact rfl; exact rfl; exact rfl; exact o2; exact rfl; (first | assumption | omega))
        intro h3 o3 k3
        refine ⟨(by first | exact trivial | exact Ext.refl _ | assumption | exact Ext.trans (by assumption) (by assumption)), ?_⟩
        have s3 := o3.sl
        refine runJ ?_
        (apply (s_storeF (a)); exact rfl; exact rfl; exact rfl; exact rfl; exact rfl; exact o3; exact rfl; (first | assumption | omega))
        intro h4 o4 k4
        refine ⟨(by first | exact trivial | exact Ext.refl _ | assumption | exact Ext.trans (by assumption) (by assumption)), ?_⟩
        refine runJ ?_
        apply again_normal (j + 1, (ys.set j b).set (rev L j) a)
        · exact (Sub.cons rfl (Sub.cons rfl (Sub.cons rfl (Sub.cons rfl (Sub.cons rfl (Sub.cons rfl (Sub.nil _)))))))
        · exact ⟨(k2.trans k3).trans k4, by dsimp only; omega, o4, st⟩
        · dsimp only; omega
      · refine runJ ?_
        apply again_normal (j + 1, ys)
        · exact (Sub.cons rfl (Sub.cons rfl (Sub.cons rfl (Sub.cons rfl (Sub.cons rfl (Sub.cons rfl (Sub.nil _)))))))
        · exact ⟨k2, by dsimp only; omega, o2, swp_keep j2 (by omega) hjr⟩
        · dsimp only; omega
    · have hjn : j = n := by omega
      subst hjn
      have hst : Std q z L (gt xs) 0 (gt ys) := std_zero fun c hc => congrArg Int.ofNat (swp_end (by rw [hN]; exact j2) c hc)
      have hfit : Fit j q ys := fit_of hyl fun p hp => by
        have h1 := j2.2 p (by rw [hN]; exact hp)
        have h2 := hrl p
        rw [hN] at h2
        rw [h1]
        have hxf : Fit j q xs := ⟨hl, hx⟩
        split
        · exact fit_get hxf h2
        · exact fit_get hxf hp
      have hL := hN
      clear j2 hrv hrl hbl j1 hj hN
      refine runJ ?_
      (first | (apply w_seqB; exact rfl; apply w_block; exact rfl) | skip)
      apply (w_loop (σ := Nat × List Nat) rfl (fun i => [(0, g), (1, va), (2, vp), (10, N (2 ^ i.1))])
        (fun i h' => Only va.ownBlock h h' ∧ i.1 ≤ L ∧ OwnF h' B 26 U va i.2 ∧ Fit j q i.2 ∧ Std q z L (gt xs) i.1 (gt i.2)) (fun i => L - i.1) (0, ys))
      · exact (Sub.cons rfl (Sub.cons rfl (Sub.cons rfl (Sub.cons rfl (Sub.nil _)))))
      · exact ⟨k2, Nat.zero_le _, o2, hfit, hst⟩
      clear o2 k2 G2 hst hfit hyl ys h2
      rintro ⟨s, ys⟩ h2 ⟨k2, i1, o2, hfit, hst⟩
      dsimp only at k2 i1 o2 hfit hst ⊢
      have G2 := G.only k2 hne1
      have hs2 : 2 ^ s ≤ 2 ^ L := Nat.pow_le_pow_right (by decide) i1
      have hs0 : 0 < 2 ^ s := Nat.two_pow_pos s
      rw [hL] at hs2
      refine runJ ?_
      (apply w_condD; exact rfl; exact rfl) <;> intro hsn
      · have hsL : s < L := by
          rcases Nat.lt_or_ge s L with h1 | h1
          · exact h1
          · obtain rfl : s = L := by omega
            omega
        have hby := pow_by (L := L) (s := s) i1
        have hsplit := pow_split hsL
        have hkb := fun k (hk : k < 2 ^ s) => pow_kb (L := L) i1 hk
        have hps : (2 : Nat) ^ (s + 1) = 2 * 2 ^ s := by rw [Nat.pow_succ, Nat.mul_comm]
        have hbt := std_btf (W := fun m => z ^ m % q) (f := fun p => ys.getD p 0) (by omega) (by rw [hL]; exact hz) hsL (fun m _ => cg_of_mod (a := z ^ m) (Cg.of_eq (Int.natCast_pow _ _)) _ (Nat.mod_mod _ _)) hst
        have hbl := fun f p => btf_lt (q := q) (by omega) (fun m => z ^ m % q) (2 ^ s) (2 ^ (L - s)) f p
        rw [hL] at hby hkb hsplit
        have hlo := fun f c k (hk : k < 2 ^ s) => btf_lo (q := q) (W := fun m => z ^ m % q) (s := 2 ^ (L - s)) (f := f) (c := c) hk
        have hhi := fun f c k (hk : k < 2 ^ s) => btf_hi (q := q) (W := fun m => z ^ m % q) (s := 2 ^ (L - s)) (f := f) (c := c) hk
        generalize hgg : btf q (fun m => z ^ m % q) (2 ^ s) (2 ^ (L - s)) (fun p => ys.getD p 0) = gg at *
        have hlo := hlo (fun p => ys.getD p 0)
        have hhi := hhi (fun p => ys.getD p 0)
        rw [hgg] at hlo hhi
        generalize 2 ^ (L - s - 1) = M at *
        generalize 2 ^ (L - s) = by_ at *
        generalize 2 ^ s = d at *
        have hgq : ∀ p, gg p < q := fun p => by rw [← hgg]; exact hbl _ p
        clear hbl hst
        refine runJ ?_
        rw [hby]
        (first | (apply w_seqB; exact rfl; apply w_block; exact rfl) | skip)
        apply (w_loop (σ := Nat × List Nat) rfl (fun i => [(0, g), (1, va), (2, vp), (10, N d), (11, N by_), (12, N (i.1 * (2 * d)))])
          (fun i h' => Only va.ownBlock h h' ∧ i.1 ≤ M ∧ OwnF h' B 26 U va i.2 ∧ Mid j d (i.1 * (2 * d)) 0 (fun p => ys.getD p 0) gg i.2) (fun i => M - i.1) (0, ys))
        · exact (Sub.consE rfl (by first | rfl | (refine congrArg I ?_; (try dsimp only); omega) | (refine congrArg Value.bool ?_; simp [*])) (Sub.consE rfl (by first | rfl | (refine congrArg I ?_; (try dsimp only); omega) | (refine congrArg Value.bool ?_; simp [*])) (Sub.consE rfl (by first | rfl | (refine congrArg I ?_; (try dsimp only); omega) | (refine congrArg Value.bool ?_; simp [*])) (Sub.consE rfl (by first | rfl | (refine congrArg I ?_; (try dsimp only); omega) | (refine congrArg Value.bool ?_; simp [*])) (Sub.consE rfl (by first | rfl | (refine congrArg I ?_; (try dsimp only); omega) | (refine congrArg Value.bool ?_; simp [*])) (Sub.consE rfl (by first | rfl | (refine congrArg I ?_; (try dsimp only); omega) | (refine congrArg Value.bool ?_; simp [*])) (Sub.nil _)))))))
        · exact ⟨k2, Nat.zero_le _, o2, by rw [Nat.zero_mul]; exact mid_start hfit.1 fun p _ => rfl⟩
        clear o2 k2 G2 h2
        rintro ⟨c, zs⟩ h2 ⟨k2, c1, o2, m2⟩
        dsimp only at k2 c1 o2 m2 ⊢
        have G2 := G.only k2 hne1
        refine runJ ?_
        (apply w_condD; exact rfl; exact rfl) <;> intro hc
        · have room := blk_room hsplit hc
          have hcM : c < M := by rw [hsplit] at hc; exact Nat.lt_of_mul_lt_mul_right hc
          have hlo := hlo c
          have hhi := hhi c
          have hnx : (c + 1) * (2 * d) = c * (2 * d) + 2 * d := Nat.succ_mul _ _
          generalize c * (2 * d) = i at *
          refine runJ ?_
          (first | (apply w_seqB; exact rfl; apply w_block; exact rfl) | skip)
          apply (w_loop (σ := Nat × List Nat) rfl (fun k => [(0, g), (1, va), (2, vp), (10, N d), (11, N by_), (12, N i), (78, N d), (79, N k.1)])
            (fun k h' => Only va.ownBlock h h' ∧ k.1 ≤ d ∧ OwnF h' B 26 U va k.2 ∧ Mid j d i k.1 (fun p => ys.getD p 0) gg k.2) (fun k => d - k.1) (0, zs))
          · exact (Sub.cons rfl (Sub.cons rfl (Sub.cons rfl (Sub.cons rfl (Sub.cons rfl (Sub.cons rfl (Sub.cons rfl (Sub.cons rfl (Sub.nil _)))))))))
          · exact ⟨k2, Nat.zero_le _, o2, m2⟩
          clear o2 k2 G2 h2 m2
          rintro ⟨k, zs⟩ h2 ⟨k2, d1, o2, m2⟩
          dsimp only at k2 d1 o2 m2 ⊢
          have G2 := G.only k2 hne1
          have sp2 := sp.only k2 hne2
          refine runJ ?_
          (apply w_condD; exact rfl; exact rfl) <;> intro hk
          · have hlo := hlo k hk
            have hhi := hhi k hk
            have x1 := mid_lo m2 hk room
            have x2 := mid_hi m2 hk room
            have st := mid_step m2 hk room
            have hkb := hkb k hk
            have hp := pows_get (w := z) (q := q) hkb
            have hx1 : i + k < zs.length := by rw [m2.1]; omega
            have hx2 : i + k + d < zs.length := by rw [m2.1]; omega
            have q1 : ys.getD (i + k) 0 < q := fit_get hfit (by omega)
            have q2 : ys.getD (i + k + d) 0 < q := fit_get hfit (by omega)
            have q3 : z ^ (k * by_) % q < q := Nat.mod_lt _ (by omega)
            generalize ys.getD (i + k) 0 = x at *
            generalize ys.getD (i + k + d) 0 = y at *
            generalize z ^ (k * by_) % q = v at *
            have q4 : mulm y v q < q := mulm_lt (by omega)
            have s2 := o2.sl
            refine runJ ?_
            apply (s_call Tryz_ent155 rfl rfl rfl)
            refine (mul_spec y v q h2 (by omega) (by omega) (by omega)).mono ?_
            rintro _ _ ⟨rfl, rfl⟩
            refine ⟨(by first | exact trivial | exact Ext.refl _ | assumption | exact Ext.trans (by assumption) (by assumption)), ?_⟩
            rw [hlo, hhi] at st
            generalize mulm y v q = r at *
            have hx3 : i + k + d < (zs.set (i + k) (addm x r q)).length := by rw [List.length_set]; exact hx2
            refine runJN ?_
            (apply (r_drawnO (va.ownBlock)); exact rfl; exact mixed; kernel_rfl)
            refine runJ ?_
            apply (s_call Tryz_ent114 rfl rfl rfl)
            refine (add_spec x r q h2 (by omega) (by omega) (by omega)).mono ?_
            rintro _ _ ⟨rfl, rfl⟩
            refine ⟨Only.refl _ _, ?_⟩
            refine runJ ?_
            apply (s_call Tryz_ent66 rfl rfl rfl)
            refine (sub_spec x r q h2 (by omega) (by omega) (by omega)).mono ?_
            rintro _ _ ⟨rfl, rfl⟩
            refine ⟨Only.refl _ _, ?_⟩
            refine runJ ?_
            (apply (s_storeF (addm x r q)); exact rfl; exact rfl; exact rfl; exact rfl; exact rfl; exact o2; exact rfl; (first | assumption | omega))
            intro h3 o3 k3
            refine ⟨(by first | exact k3 | exact trivial | exact Ext.refl _ | assumption | exact Ext.trans (by assumption) (by assumption)), ?_⟩
            have s3 := o3.sl
            refine runJ ?_
            (apply (s_storeF (subm x r q)); exact rfl; exact rfl; exact rfl; exact rfl; exact rfl; exact o3; exact rfl; (first | assumption | omega))
            intro h4 o4 k4
            refine ⟨(by first | exact (k3.trans k4) | exact trivial | exact Ext.refl _ | assumption | exact Ext.trans (by assumption) (by assumption)), ?_⟩
            refine runJ ?_
            apply again_normal (k + 1, (zs.set (i + k) (addm x r q)).set (i + k + d) (subm x r q))
            · exact (Sub.cons rfl (Sub.cons rfl (Sub.cons rfl (Sub.cons rfl (Sub.cons rfl (Sub.cons rfl (Sub.cons rfl (Sub.cons rfl (Sub.nil _)))))))))
            · exact ⟨(k2.trans k3).trans k4, by dsimp only; omega, o4, st⟩
            · dsimp only; omega
          · obtain rfl : k = d := by omega
            refine runJ ?_
            apply again_normal (c + 1, zs)
            · exact (Sub.consE rfl (by first | rfl | (refine congrArg I ?_; (try dsimp only); omega) | (refine congrArg Value.bool ?_; simp [*])) (Sub.consE rfl (by first | rfl | (refine congrArg I ?_; (try dsimp only); omega) | (refine congrArg Value.bool ?_; simp [*])) (Sub.consE rfl (by first | rfl | (refine congrArg I ?_; (try dsimp only); omega) | (refine congrArg Value.bool ?_; simp [*])) (Sub.consE rfl (by first | rfl | (refine congrArg I ?_; (try dsimp only); omega) | (refine congrArg Value.bool ?_; simp [*])) (Sub.consE rfl (by first | rfl | (refine congrArg I ?_; (try dsimp only); omega) | (refine congrArg Value.bool ?_; simp [*])) (Sub.consE rfl (by first | rfl | (refine congrArg I ?_; (try dsimp only); omega) | (refine congrArg Value.bool ?_; simp [*])) (Sub.nil _)))))))
            · exact ⟨k2, hcM, o2, by dsimp only; rw [hnx]; exact mid_next m2 hs0⟩
            · dsimp only; omega
        · have hend := mid_end m2 (by omega)
          refine runJ ?_
          apply again_normal (s + 1, zs)
          · exact (Sub.consE rfl (by first | rfl | (refine congrArg I ?_; (try dsimp only); omega) | (refine congrArg Value.bool ?_; simp [*])) (Sub.consE rfl (by first | rfl | (refine congrArg I ?_; (try dsimp only); omega) | (refine congrArg Value.bool ?_; simp [*])) (Sub.consE rfl (by first | rfl | (refine congrArg I ?_; (try dsimp only); omega) | (refine congrArg Value.bool ?_; simp [*])) (Sub.consE rfl (by first | rfl | (refine congrArg I ?_; (try dsimp only); omega) | (refine congrArg Value.bool ?_; simp [*])) (Sub.nil _)))))
          · refine ⟨k2, hsL, o2, fit_of m2.1 fun p hp => by rw [hend p hp]; exact hgq p, ?_⟩
            exact std_congr hsL hbt fun p hp => congrArg Int.ofNat (hend p (by omega))
          · dsimp only; omega
      · have hsL : s = L := by
          rcases Nat.lt_or_ge s L with h1 | h1
          · have := Nat.pow_lt_pow_right (a := 2) (by decide) h1
            omega
          · omega
        subst hsL
        refine runJ ?_
        exact fin1 rfl rfl ⟨rfl, k2, ys, o2, by rw [hL]; exact hfit, fun k hk => std_last hst hk⟩
end Go.Proofs.YtfcmdefigldpnaaGreatDoor


namespace Go.Proofs.YtfcmdefigldpnaaGreatDoor
set_option linter.unusedVariables false
set_option maxRecDepth 8000
open Go Go.Den Go.RowKit Go.Mth

theorem own_sepV {α : Type} {h h1 : Hp} {f : α → Value} {B : Nat} {e e' : TypeId} {w p : Value} {ws : List α} {cs : List Value} (o : OwnF h1 B e f w ws) (s : Var h p e' cs) (hB : h.size ≤ B) : pblk p ≠ w.ownBlock := by
  obtain ⟨j, hj, hlt⟩ := s.blk
  rw [hj]
  intro hc
  have := (o.blk j hc.symm).1
  omega
theorem own_sepS {α β : Type} {h h1 : Hp} {f : α → Value} {f' : β → Value} {B : Nat} {e : TypeId} {w v : Value} {ws : List α} {xs : List β} (o : OwnF h1 B e f w ws) (s : SlF h f' v xs) (h0 : 0 < xs.length) (hB : h.size ≤ B) : v.ownBlock = none ∨ v.ownBlock ≠ w.ownBlock := by
  cases hv : v.ownBlock with
  | none => exact .inl rfl
  | some j =>
    refine .inr fun hc => ?_
    have h1 := s.lt h0 j hv
    have := (o.blk j hc.symm).1
    omega

theorem twl_len (z q : Nat) (xs : List Nat) : (twl z q xs).length = xs.length := by unfold twl; simp
theorem twl_get {z q : Nat} {xs : List Nat} {j : Nat} (h : j < xs.length) : (twl z q xs).getD j 0 = mulm (xs.getD j 0) (z ^ j % q) q := by
  refine getD_of ?_
  unfold twl; rw [List.getElem?_map, List.getElem?_range h]; rfl
theorem twl_fit {z q n : Nat} {xs : List Nat} (hq : 0 < q) (h : xs.length = n) : Fit n q (twl z q xs) := fit_of (by rw [twl_len, h]) fun p hp => by rw [twl_get (by omega)]; exact mulm_lt hq
theorem twl_cg {z q : Nat} {xs : List Nat} {j : Nat} (hq : 0 < q) (h : j < xs.length) : Cg q (gt (twl z q xs) j) (gt xs j * (z : Int) ^ j) := by
  unfold gt; rw [twl_get h]
  exact (cg_mulm hq _ _).trans ((Cg.refl _ _).mul (cg_of_mod (a := z ^ j) (Cg.of_eq (Int.natCast_pow _ _)) _ (Nat.mod_mod _ _)))

theorem TblOk.cw {t : Tbl} (K : TblOk t) : Cg t.q ((t.w : Int) ^ (2 ^ t.L)) (-1) := cg_root K.q1 K.wn
theorem TblOk.cuw {t : Tbl} (K : TblOk t) : Cg t.q ((t.u : Int) * t.w) 1 := by rw [Int.mul_comm]; exact cg_one K.uw
theorem TblOk.cu {t : Tbl} (K : TblOk t) : Cg t.q ((t.u : Int) ^ (2 ^ t.L)) (-1) := u_root K.cuw K.cw
theorem TblOk.cp {t : Tbl} (K : TblOk t) : Cg t.q (((2 ^ t.L : Nat) : Int) * t.p) 1 := cg_one K.np

/-- The values of a row; the row of values. -/
def Val (t : Tbl) (xs ys : List Nat) : Prop := Fit (2 ^ t.L) t.q ys ∧ ∀ k, k < 2 ^ t.L → Cg t.q (gt ys k) (dft (2 ^ t.L) t.w (gt xs) k)
def Bck (t : Tbl) (xs ys : List Nat) : Prop := Fit (2 ^ t.L) t.q ys ∧ ∀ k, k < 2 ^ t.L → Cg t.q (gt ys k) (idft (2 ^ t.L) t.u t.p (gt xs) k)

theorem val_of {t : Tbl} (K : TblOk t) {xs ys : List Nat} (hl : xs.length = 2 ^ t.L) (h : Trn t.L t.q t.w (twl t.w t.q xs) ys) : Val t xs ys := by
  refine ⟨h.1, fun k hk => (h.2 k hk).trans ?_⟩
  refine sm_cg _ fun j hj => ((twl_cg (by have := K.q1; omega) (by omega)).mul (Cg.refl _ _)).trans (Cg.of_eq ?_)
  rw [Int.mul_assoc, ← Int.pow_add]
  congr 2
  grind
theorem bck_of {t : Tbl} (K : TblOk t) {xs ys zs : List Nat} (h : Trn t.L t.q t.u xs ys) (hz : zs = (twl t.u t.q ys).map fun y => mulm y t.p t.q) : Bck t xs zs := by
  have hq : 0 < t.q := by have := K.q1; omega
  have hg : ∀ k, k < 2 ^ t.L → zs.getD k 0 = mulm ((twl t.u t.q ys).getD k 0) t.p t.q := fun k hk => by
    refine getD_of ?_
    rw [hz, List.getElem?_map, getD_lt (by rw [twl_len, h.1.1]; exact hk)]; rfl
  refine ⟨fit_of (by rw [hz, List.length_map, twl_len, h.1.1]) fun p hp => by rw [hg p hp]; exact mulm_lt hq, fun k hk => ?_⟩
  unfold gt; rw [hg k hk]
  refine (cg_mulm hq _ _).trans ?_
  refine ((twl_cg hq (by rw [h.1.1]; exact hk)).mul (Cg.refl _ _)).trans ?_
  refine (((h.2 k hk).mul (Cg.refl _ _)).mul (Cg.refl _ _)).trans (Cg.of_eq ?_)
  unfold idft
  rw [Int.mul_comm _ (t.p : Int), Int.mul_comm _ ((t.u : Int) ^ k)]

theorem Tryz_ent154 : Ent Tryz.prog 154 := ent_of Tryz.func154 (by kernel_rfl) rfl
set_option maxHeartbeats 1000000 in
theorem values_spec (g va : Value) (t : Tbl) (xs : List Nat) (h : Hp) (K : TblOk t) (A : TblAt h g t) (s : SlF h U va xs) (hf : Fit (2 ^ t.L) t.q xs) :
    CallsH Tryz.prog 154 [g, va] h fun v' h' => Ext h h' ∧ ∃ r ys, v' = .tuple #[r, N 0] ∧ OwnF h' h.size 26 U r ys ∧ Val t xs ys := by
  have hq61 := K.q61
  have hq1 := K.q1
  have hn := K.size
  have FS := fits_spec g va t xs h K A s (by rw [hf.1]; omega) (fun x hx => by have := hf.2 x hx; omega)
  rw [decide_eq_true hf] at FS
  have TW := twist_spec g va t.vr t t.w xs h K A s A.rr hf.1 hf.2
  have G := A.var
  have hq0 : 0 < t.q := by omega
  have hVal := fun ys => val_of (ys := ys) K hf.1
  have hpl : (pows t.w t.q (2 ^ t.L)).length = 2 ^ t.L := pows_len _ _ _
  (apply enter Tryz.func154 rfl Tryz.ntmps154 rfl)
  refine runJ ?_
  apply (s_call Tryz_ent187 rfl rfl rfl)
  refine (FS).mono ?_
  rintro _ _ ⟨rfl, rfl⟩
  refine ⟨(by first | exact trivial | exact Ext.refl _ | assumption | exact Ext.trans (by assumption) (by assumption)), ?_⟩
  refine runJ ?_
  apply (s_call Tryz_ent189 rfl rfl rfl)
  refine (TW).mono ?_
  rintro w1 h1 ⟨e1, o1⟩
  refine ⟨e1, ?_⟩
  have G1 := G.ext e1
  have CY := cyclic_spec g w1 t.vr t t.w h.size _ h1 K (A.ext e1) o1 (A.rr.ext e1) (own_sepV o1 G (Nat.le_refl _)) (own_sepS o1 A.rr (by omega) (Nat.le_refl _)) (by rw [twl_len]; exact hf.1) (twl_fit hq0 rfl).2 K.cw
  refine runJ ?_
  apply (s_call Tryz_ent188 rfl rfl rfl)
  refine (CY).mono ?_
  rintro _ h2 ⟨rfl, k2, ys, o2, hT⟩
  refine ⟨(o1.old k2 e1 (Nat.le_refl _)), ?_⟩
  refine runJ ?_
  exact fin2 rfl rfl rfl ⟨o1.old k2 e1 (Nat.le_refl _), _, ys, rfl, o2, hVal ys hT⟩

theorem set_get {ys : List Nat} {j k x y : Nat} (hj : j < ys.length) (h : (ys.set j x)[k]? = some y) : (k = j ∧ y = x) ∨ (k ≠ j ∧ ys[k]? = some y) := by
  rw [List.getElem?_set] at h
  by_cases e : j = k
  · subst e
    rw [if_pos rfl, if_pos hj] at h
    cases h
    exact .inl ⟨rfl, rfl⟩
  · rw [if_neg e] at h
    exact .inr ⟨fun e' => e e'.symm, h⟩

theorem Tryz_ent156 : Ent Tryz.prog 156 := ent_of Tryz.func156 (by kernel_rfl) rfl
set_option maxHeartbeats 1000000 in
theorem back_spec (g va : Value) (t : Tbl) (xs : List Nat) (h : Hp) (K : TblOk t) (A : TblAt h g t) (s : SlF h U va xs) (hf : Fit (2 ^ t.L) t.q xs) :
    CallsH Tryz.prog 156 [g, va] h fun v' h' => Ext h h' ∧ ∃ r ys, v' = .tuple #[r, N 0] ∧ OwnF h' h.size 26 U r ys ∧ Bck t xs ys := by
  have hq61 := K.q61
  have hq1 := K.q1
  have hn := K.size
  have FS := fits_spec g va t xs h K A s (by rw [hf.1]; omega) (fun x hx => by have := hf.2 x hx; omega)
  rw [decide_eq_true hf] at FS
  have G := A.var
  have hq0 : 0 < t.q := by omega
  have hpq := K.pl
  have hpl : (pows t.u t.q (2 ^ t.L)).length = 2 ^ t.L := pows_len _ _ _
  have hfl := hf.1
  (apply enter Tryz.func156 rfl Tryz.ntmps156 rfl)
  refine runJ ?_
  apply (s_call Tryz_ent187 rfl rfl rfl)
  refine (FS).mono ?_
  rintro _ _ ⟨rfl, rfl⟩
  refine ⟨(by first | exact trivial | exact Ext.refl _ | assumption | exact Ext.trans (by assumption) (by assumption)), ?_⟩
  refine runJ ?_
  (apply (s_litF (f := U) [] (fun _ => rfl)); exact rfl; exact rfl; exact rfl; exact rfl; exact rfl; exact rfl; exact rfl; exact rfl; omega)
  intro w1 h1 o1 e1 b1
  refine ⟨(by first | exact trivial | exact Ext.refl _ | assumption | exact Ext.trans (by assumption) (by assumption)), ?_⟩
  have s1 := s.ext e1
  refine runJ ?_
  (apply (s_appendF (bytes := 8)); exact rfl; exact rfl; exact rfl; exact rfl; exact rfl; exact rfl; exact rfl; exact o1; exact s1; exact fun _ => rfl; (first | exact Nat.le_refl _ | exact ext_size (by assumption) | omega); ((try simp only [maxLen]); (try simp only [List.length_nil]); (try simp only [List.length_append]); omega); ((try simp only [List.length_nil]); (try simp only [List.length_append]); omega))
  intro w2 h2 o2 k2 b2
  refine ⟨(by first | exact (o1.old k2 e1 (Nat.le_refl _)) | exact trivial | exact Ext.refl _ | assumption | exact Ext.trans (by assumption) (by assumption)), ?_⟩
  have e2 : Ext h h2 := o1.old k2 e1 (Nat.le_refl _)
  rw [List.nil_append] at o2
  have G2 := G.ext e2
  have CY := cyclic_spec g w2 t.vu t t.u h.size _ h2 K (A.ext e2) o2 (A.ru.ext e2) (own_sepV o2 G (Nat.le_refl _)) (own_sepS o2 A.ru (by omega) (Nat.le_refl _)) hf.1 hf.2 K.cu
  refine runJ ?_
  apply (s_call Tryz_ent188 rfl rfl rfl)
  refine (CY).mono ?_
  rintro w3 h3 ⟨rfl, k3, ys, o3, hT⟩
  refine ⟨(o2.old k3 e2 (Nat.le_refl _)), ?_⟩
  have e3 : Ext h h3 := o2.old k3 e2 (Nat.le_refl _)
  have A3 := A.ext e3
  have G3 := A3.var
  have TW := twist_spec g w3 t.vu t t.u ys h3 K A3 o3.sl A3.ru hT.1.1 hT.1.2
  refine runJ ?_
  apply (s_call Tryz_ent189 rfl rfl rfl)
  refine (TW).mono ?_
  rintro w4 h4 ⟨e4, o4⟩
  refine ⟨(e3.trans e4), ?_⟩
  have G4 := G3.ext e4
  have e04 := e3.trans e4
  have o4 := o4.base e3.1
  have hTw := twl_fit (z := t.u) hq0 hT.1.1
  have hBk := fun zs => bck_of (zs := zs) K hT
  clear TW CY FS
  generalize twl t.u t.q ys = zs at *
  have o4s := o4.sl
  refine runJ ?_
  (first | (apply w_seqB; exact rfl; apply w_block; exact rfl) | skip)
  apply (w_loop (σ := Nat × List Nat) rfl (fun j => [(0, g), (6, w4), (32, N (2 ^ t.L)), (33, N j.1)])
    (fun j h' => Ext h h' ∧ Only w4.ownBlock h4 h' ∧ j.1 ≤ 2 ^ t.L ∧ OwnF h' h.size 26 U w4 j.2 ∧ j.2.length = 2 ^ t.L ∧ ∀ (k y : Nat), j.2[k]? = some y → y = if k < j.1 then mulm (zs.getD k 0) t.p t.q else zs.getD k 0) (fun j => 2 ^ t.L - j.1) (0, zs))
  · rw [← hTw.1]
    exact (Sub.cons rfl (Sub.cons rfl (Sub.cons rfl (Sub.cons rfl (Sub.nil _)))))
  · exact ⟨e04, Only.refl _ _, Nat.zero_le _, o4, hTw.1, fun k y hy => by rw [if_neg (Nat.not_lt_zero _), getD_of hy]⟩
  rintro ⟨j, us⟩ h5 ⟨e5, k5, j1, o5, j2, j3⟩
  dsimp only at e5 k5 j1 o5 j2 j3 ⊢
  have G5 := G.ext e5
  refine runJ ?_
  (apply w_condD; exact rfl; exact rfl) <;> intro hj
  · obtain ⟨x, hx⟩ := get_lt (l := us) (j := j) (by omega)
    have hxv := j3 j x hx
    rw [if_neg (Nat.lt_irrefl _)] at hxv
    have hxq : x < t.q := by rw [hxv]; exact fit_get hTw hj
    have o5s := o5.sl
    have nG := own_sepV o5 G (Nat.le_refl _)
    refine runJN ?_
    (apply (r_drawnR (Only w4.ownBlock h5) (fun i => Nat.beq i 5)); exact rfl; exact mixed; kernel_rfl; exact Only.refl _ _)
    refine runJ ?_
    refine s_loadG rfl rfl (rd_now rfl (Only.refl _ _) o5s) rfl hx ?_
    refine runJ ?_
    apply (s_call Tryz_ent155 rfl rfl rfl)
    refine (mul_spec x t.p t.q h5 (by omega) (by omega) (by omega)).mono ?_
    rintro _ _ ⟨rfl, rfl⟩
    refine ⟨Only.refl _ _, ?_⟩
    refine runJ ?_
    (apply (s_storeF (mulm x t.p t.q)); exact rfl; exact rfl; exact rfl; exact rfl; exact rfl; exact o5; exact rfl; (first | assumption | omega))
    intro h6 o6 k6
    refine ⟨(by first | exact k6 | exact trivial | exact Ext.refl _ | assumption | exact Ext.trans (by assumption) (by assumption)), ?_⟩
    refine runJ ?_
    apply again_normal (j + 1, us.set j (mulm x t.p t.q))
    · exact (Sub.cons rfl (Sub.cons rfl (Sub.cons rfl (Sub.cons rfl (Sub.nil _)))))
    · refine ⟨o5.old k6 e5 (Nat.le_refl _), k5.trans k6, by dsimp only; omega, o6, by simp [j2], fun k y hy => ?_⟩
      dsimp only at hy ⊢
      rcases set_get (by omega) hy with ⟨rfl, rfl⟩ | ⟨hk, hy⟩
      · rw [if_pos (by omega), hxv]
      · rw [j3 k y hy]
        by_cases hkj : k < j
        · rw [if_pos hkj, if_pos (by omega)]
        · rw [if_neg hkj, if_neg (by omega)]
    · dsimp only; omega
  · have hjn : j = 2 ^ t.L := by omega
    have hus : us = zs.map fun y => mulm y t.p t.q := by
      refine list_eq (by rw [List.length_map, j2, hTw.1]) fun k a b ha hb => ?_
      have hk := (List.getElem?_eq_some_iff.1 ha).1
      rw [j3 k a ha, if_pos (by omega)]
      rw [List.getElem?_map, getD_lt (by rw [hTw.1]; omega)] at hb
      exact Option.some.inj hb
    refine runJ ?_
    exact fin2 rfl rfl rfl ⟨e5, _, us, rfl, o5, hBk us hus⟩
end Go.Proofs.YtfcmdefigldpnaaGreatDoor


namespace Go.Proofs.YtfcmdefigldpnaaGreatDoor
set_option linter.unusedVariables false
set_option maxRecDepth 8000
open Go Go.Den Go.RowKit Go.Mth

theorem sep_flip {a b : Option Nat} (h : a = none ∨ a ≠ b) : b = none ∨ b ≠ a := by
  rcases h with h | h
  · subst h; cases b <;> simp
  · exact .inr fun e => h e.symm

/-- The product of two rows, told by its values. -/
def Prd (t : Tbl) (aa bb rs : List Nat) : Prop := Fit (2 ^ t.L) t.q rs ∧ ∀ k, k < 2 ^ t.L → Cg t.q (dft (2 ^ t.L) t.w (gt rs) k) (dft (2 ^ t.L) t.w (gt aa) k * dft (2 ^ t.L) t.w (gt bb) k)
theorem prd_of {t : Tbl} (K : TblOk t) {aa bb xs ys zs rs : List Nat} (hx : Val t aa xs) (hy : Val t bb ys) (hz : ∀ k, k < 2 ^ t.L → zs.getD k 0 = mulm (xs.getD k 0) (ys.getD k 0) t.q) (hr : Bck t zs rs) : Prd t aa bb rs := by
  have hq : 0 < t.q := by have := K.q1; omega
  refine ⟨hr.1, fun k hk => ?_⟩
  refine (dft_cg (b := fun i => idft (2 ^ t.L) t.u t.p (gt zs) i) (fun j hj => hr.2 j hj) k).trans ?_
  refine (dft_idft K.cw K.cuw K.cp (gt zs) hk).trans ?_
  have e : gt zs k = ((mulm (xs.getD k 0) (ys.getD k 0) t.q : Nat) : Int) := by unfold gt; rw [hz k hk]
  rw [e]
  exact (cg_mulm hq _ _).trans ((hx.2 k hk).mul (hy.2 k hk))

theorem Tryz_ent112 : Ent Tryz.prog 112 := ent_of Tryz.func112 (by kernel_rfl) rfl
set_option maxHeartbeats 1000000 in
theorem nttMul_spec (g va vb : Value) (t : Tbl) (aa bb : List Nat) (h : Hp) (K : TblOk t) (A : TblAt h g t) (sa : SlF h U va aa) (sb : SlF h U vb bb) (ha : Fit (2 ^ t.L) t.q aa) (hb : Fit (2 ^ t.L) t.q bb) :
    CallsH Tryz.prog 112 [g, va, vb] h fun v' h' => Ext h h' ∧ ∃ r rs, v' = .tuple #[r, N 0] ∧ OwnF h' h.size 26 U r rs ∧ Prd t aa bb rs := by
  have hq61 := K.q61
  have hq1 := K.q1
  have hn := K.size
  have hq0 : 0 < t.q := by omega
  have G := A.var
  (apply enter Tryz.func112 rfl Tryz.ntmps112 rfl)
  refine runJ ?_
  refine s_callV rfl Tryz_ent154 rfl rfl rfl ?_
  refine (values_spec g va t aa h K A sa ha).mono ?_
  rintro _ h1 ⟨e1, w1, xs, rfl, o1, V1⟩
  refine ⟨(by first | exact trivial | exact trivial), ?_⟩
  refine runJ ?_
  refine s_callV rfl Tryz_ent154 rfl rfl rfl ?_
  refine (values_spec g vb t bb h1 K (A.ext e1) (sb.ext e1) hb).mono ?_
  rintro _ h2 ⟨e2, w2, ys, rfl, o2, V2⟩
  refine ⟨(by first | exact trivial | exact trivial), ?_⟩
  have e12 := e1.trans e2
  have ne12 := sep_flip (own_sepS o2 o1.sl (by rw [V1.1.1]; omega) (Nat.le_refl _))
  have o1 := o1.ext e2
  have s2 := o2.sl
  have hl1 := V1.1.1
  have hl2 := V2.1.1
  refine runJ ?_
  (first | (apply w_seqB; exact rfl; apply w_block; exact rfl) | skip)
  apply (w_loop (σ := Nat × List Nat) rfl (fun j => [(0, g), (9, w1), (11, w2), (34, N (2 ^ t.L)), (35, N j.1)])
    (fun j h' => Ext h h' ∧ Only w1.ownBlock h2 h' ∧ j.1 ≤ 2 ^ t.L ∧ OwnF h' h.size 26 U w1 j.2 ∧ j.2.length = 2 ^ t.L ∧ ∀ (k y : Nat), j.2[k]? = some y → y = if k < j.1 then mulm (xs.getD k 0) (ys.getD k 0) t.q else xs.getD k 0) (fun j => 2 ^ t.L - j.1) (0, xs))
  · rw [← hl1]
    exact (Sub.cons rfl (Sub.cons rfl (Sub.cons rfl (Sub.cons rfl (Sub.cons rfl (Sub.nil _))))))
  · exact ⟨e12, Only.refl _ _, Nat.zero_le _, o1, hl1, fun k y hy => by rw [if_neg (Nat.not_lt_zero _), getD_of hy]⟩
  rintro ⟨j, us⟩ h5 ⟨e5, k5, j1, o5, j2, j3⟩
  dsimp only at e5 k5 j1 o5 j2 j3 ⊢
  have G5 := G.ext e5
  have s5 := s2.only k5 ne12
  refine runJ ?_
  (apply w_condD; exact rfl; exact rfl) <;> intro hj
  · obtain ⟨x, hx⟩ := get_lt (l := us) (j := j) (by omega)
    obtain ⟨y, hy⟩ := get_lt (l := ys) (j := j) (by omega)
    have hxv := j3 j x hx
    rw [if_neg (Nat.lt_irrefl _)] at hxv
    have hxq : x < t.q := by rw [hxv]; exact fit_get V1.1 hj
    have hyq : y < t.q := V2.1.2 y (List.mem_of_getElem? hy)
    have o5s := o5.sl
    have nG := own_sepV o5 G (Nat.le_refl _)
    refine runJN ?_
    (apply (r_drawnR (Only w1.ownBlock h5) (fun i => Nat.beq i 5)); exact rfl; exact mixed; kernel_rfl; exact Only.refl _ _)
    refine runJ ?_
    refine s_loadG rfl rfl (rd_now rfl (Only.refl _ _) o5s) rfl hx ?_
    refine runJ ?_
    apply (s_call Tryz_ent155 rfl rfl rfl)
    refine (mul_spec x y t.q h5 (by omega) (by omega) (by omega)).mono ?_
    rintro _ _ ⟨rfl, rfl⟩
    refine ⟨Only.refl _ _, ?_⟩
    refine runJ ?_
    (apply (s_storeF (mulm x y t.q)); exact rfl; exact rfl; exact rfl; exact rfl; exact rfl; exact o5; exact rfl; (first | assumption | omega))
    intro h6 o6 k6
    refine ⟨(by first | exact k6 | exact trivial | exact Ext.refl _ | assumption | exact Ext.trans (by assumption) (by assumption)), ?_⟩
    refine runJ ?_
    apply again_normal (j + 1, us.set j (mulm x y t.q))
    · exact (Sub.cons rfl (Sub.cons rfl (Sub.cons rfl (Sub.cons rfl (Sub.cons rfl (Sub.nil _))))))
    · refine ⟨o5.old k6 e5 (Nat.le_refl _), k5.trans k6, by dsimp only; omega, o6, by simp [j2], fun k z hz => ?_⟩
      dsimp only at hz ⊢
      rcases set_get (by omega) hz with ⟨rfl, rfl⟩ | ⟨hk, hz⟩
      · rw [if_pos (by omega), hxv, getD_of hy]
      · rw [j3 k z hz]
        by_cases hkj : k < j
        · rw [if_pos hkj, if_pos (by omega)]
        · rw [if_neg hkj, if_neg (by omega)]
    · dsimp only; omega
  · have hjn : j = 2 ^ t.L := by omega
    have hus : ∀ k, k < 2 ^ t.L → us.getD k 0 = mulm (xs.getD k 0) (ys.getD k 0) t.q := fun k hk => by
      have := j3 k _ (getD_lt (by omega))
      rw [if_pos (by omega)] at this
      exact this
    have hfu : Fit (2 ^ t.L) t.q us := fit_of j2 fun k hk => by rw [hus k hk]; exact mulm_lt hq0
    refine runJ ?_
    apply (s_call Tryz_ent156 rfl rfl rfl)
    refine (back_spec g w1 t us h5 K (A.ext e5) o5.sl hfu).mono ?_
    rintro _ h6 ⟨e6, w6, rs, rfl, o6, B6⟩
    refine ⟨(by first | exact trivial | exact trivial), ?_⟩
    refine runJ ?_
    exact fin2 rfl rfl rfl ⟨e5.trans e6, _, rs, rfl, o6.base e5.1, prd_of K V1 V2 hus B6⟩

theorem Tryz_ent172 : Ent Tryz.prog 172 := ent_of Tryz.func172 (by kernel_rfl) rfl
theorem powers_spec (w q n : Nat) (p1 p2 : Value) (h : Hp) (P1 : Var h p1 3 [N n]) (P2 : Var h p2 26 [U q]) (hn : 1 ≤ n) (hn2 : n ≤ 4096) (hq : 1 < q) (hq2 : q < 2305843009213693952) (hw : w < q) :
    CallsH Tryz.prog 172 [U w, p1, p2] h fun v' h' => Ext h h' ∧ OwnF h' h.size 26 U v' (pows w q n) := by
  have hst : ∀ m, mulm (w ^ m % q) w q = w ^ (m + 1) % q := fun m => by unfold mulm; rw [if_neg (by omega), Nat.mod_mul_mod, Nat.pow_succ]
  (apply enter Tryz.func172 rfl Tryz.ntmps172 rfl)
  refine runJ ?_
  (apply (s_litF (f := U) [1] (fun _ => rfl)); exact rfl; exact rfl; exact rfl; exact rfl; exact rfl; exact rfl; exact rfl; exact rfl; omega)
  intro w1 h1 o1 e1 b1
  refine ⟨(by first | exact trivial | exact Ext.refl _ | assumption | exact Ext.trans (by assumption) (by assumption)), ?_⟩
  refine runJ ?_
  (first | (apply w_seqB; exact rfl; apply w_block; exact rfl) | skip)
  apply (w_loop (σ := Nat × Value) rfl (fun j => [(0, U w), (1, p1), (2, p2), (5, j.2)])
    (fun j h' => Ext h h' ∧ OwnF h' h.size 26 U j.2 (pows w q (j.1 + 1)) ∧ j.1 + 1 ≤ n) (fun j => n - j.1) (0, w1))
  · exact (Sub.cons rfl (Sub.cons rfl (Sub.cons rfl (Sub.cons rfl (Sub.nil _)))))
  · refine ⟨e1, ?_, hn⟩
    have : pows w q (0 + 1) = [1] := by unfold pows; simp [List.range_succ, Nat.mod_eq_of_lt hq]
    rw [this]; exact o1
  rintro ⟨j, v⟩ h2 ⟨e2, o2, j1⟩
  dsimp only at e2 o2 j1 ⊢
  have Q1 := P1.ext e2
  have Q2 := P2.ext e2
  have hpl := pows_len w q (j + 1)
  refine runJ ?_
  (apply w_condD; exact rfl; exact rfl) <;> intro hj
  · have hp := pows_get (w := w) (q := q) (n := j + 1) (j := j) (by omega)
    have hpx : (pows w q (j + 1))[(pows w q (j + 1)).length - 1]? = some (w ^ j % q) := by rw [hpl]; exact hp
    have hpq : w ^ j % q < q := Nat.mod_lt _ (by omega)
    have hst := hst j
    generalize w ^ j % q = x at *
    have hnx : pows w q (j + 1) ++ [mulm x w q] = pows w q (j + 1 + 1) := by
      rw [hst]
      unfold pows
      rw [List.range_succ (n := j + 1), List.map_append]; rfl
    have o2s := o2.sl
    refine runJN ?_
    (apply (r_drawnR (Ext h) (fun i => Nat.beq i 6)); exact rfl; exact mixed; kernel_rfl; exact e2)
    refine runJ ?_
    refine s_loadG rfl rfl (rd_now rfl e2 o2s) rfl hpx ?_
    refine runJ ?_
    apply (s_call Tryz_ent155 rfl rfl rfl)
    refine (mul_spec x w q h2 (by omega) (by omega) (by omega)).mono ?_
    rintro _ _ ⟨rfl, rfl⟩
    refine ⟨e2, ?_⟩
    refine runJ ?_
    (refine s_app1 (bytes := 8) (mulm x w q) o2 e2 rfl rfl rfl rfl rfl rfl rfl rfl rfl (by first | exact rfl | exact congrArg some (congrArg I (by omega))) (fun _ => rfl) rfl rfl (fun _ k => k) (by omega) (by simp only [maxLen]; omega) ?_)
    intro v3 h3 o3 e3 k3 b3
    rw [hnx] at o3
    refine runJ ?_
    apply again_normal (j + 1, v3)
    · exact (Sub.cons rfl (Sub.cons rfl (Sub.cons rfl (Sub.cons rfl (Sub.nil _)))))
    · exact ⟨e3, o3, by dsimp only; omega⟩
    · dsimp only; omega
  · have hjn : j + 1 = n := by omega
    rw [hjn] at o2
    refine runJ ?_
    exact fin1 rfl rfl ⟨e2, o2⟩

theorem root_pow {q n r : Nat} (hq : 1 < q) (hn : 2 ≤ n) (h : RootR q n r) (hq2 : q % 2 = 1) : r ^ (n / 2) % q = q - 1 := by
  obtain ⟨-, w, hw, hp, ⟨j, hj, rfl⟩, -⟩ := h
  have hp : w ^ (n / 2) % q = q - 1 := by unfold powm at hp; rw [if_neg (by omega)] at hp; exact hp
  have h1 : Cg q ((w : Int) ^ (n / 2)) (-1) := cg_root hq hp
  rw [← Nat.pow_mod, ← Nat.pow_mul]
  have h2 := pow_odd h1 j
  rw [Nat.mul_comm (n / 2)] at h2
  have h3 : Cg q (((w ^ ((2 * j + 1) * (n / 2)) % q : Nat) : Int)) (((q - 1 : Nat) : Int)) := by
    rw [Int.natCast_emod, Int.natCast_pow]
    refine (Cg.mod _ _).trans (h2.trans (Cg.symm ?_))
    rw [Int.ofNat_sub (by omega)]
    exact ((Cg.q0 _).sub (Cg.refl _ _)).trans (Cg.of_eq (by omega))
  exact h3.eqN (Nat.mod_lt _ (by omega)) (by omega)

theorem Tryz_ent128 : Ent Tryz.prog 128 := ent_of Tryz.func128 (by kernel_rfl) rfl
/-- A table that lies in new blocks. -/
structure NewT (B : Nat) (g : Value) (t : Tbl) : Prop where mk ::
  p : ∃ k, pblk g = some k ∧ B ≤ k
  vr : ∀ k, t.vr.ownBlock = some k → B ≤ k
  vu : ∀ k, t.vu.ownBlock = some k → B ≤ k

set_option maxHeartbeats 2000000 in
theorem nttNewX_spec (L q X : Nat) (h : Hp) (T : TB h) (hL1 : 1 ≤ L) (hL9 : L ≤ 9) (hq : q < 2305843009213693952) (hq1 : q % (2 * 2 ^ L) = 1) (hq3 : 1 < q) (hB : isB q = true) (hX : 2 ≤ X) (hX2 : X < 18446744073709551615)
    (hx : powm (powm X ((q - 1) / 2 ^ (L + 1)) q) (2 ^ (L + 1) / 2) q = q - 1) :
    CallsH Tryz.prog 128 [N (2 ^ L), U q] h fun v' h' => Ext h h' ∧ ∃ (g : Value) (t : Tbl), v' = .tuple #[g, N 0] ∧ TblAt h' g t ∧ TblOk t ∧ t.L = L ∧ t.q = q ∧ RootR q (2 ^ (L + 1)) t.w ∧ NewT h.size g t := by
  have hoc := oc_pow L (by omega)
  have hlo : 2 ^ 1 ≤ 2 ^ L := Nat.pow_le_pow_right (by omega) hL1
  have hhi : 2 ^ L ≤ 2 ^ 9 := Nat.pow_le_pow_right (by omega) hL9
  have h2L : 2 ^ (L + 1) = 2 * 2 ^ L := by rw [Nat.pow_succ, Nat.mul_comm]
  have hdv : (q - 1) % 2 ^ (L + 1) = 0 := by
    rw [h2L]
    have := Nat.div_add_mod q (2 * 2 ^ L)
    rw [hq1] at this
    rw [show q - 1 = 2 * 2 ^ L * (q / (2 * 2 ^ L)) by omega]
    exact Nat.mul_mod_right _ _
  have hodd : q % 2 = 1 := by
    have := Nat.div_add_mod q (2 * 2 ^ L)
    rw [hq1, Nat.mul_assoc] at this
    omega
  have RT := fun h T => root_spec q (L + 1) X h T (by omega) (by omega) (by omega) (by omega) hB hdv hX hX2 hx
  have hgn : Nat.gcd (2 ^ L) q = 1 := gcd_pow (n := 0) L hodd
  have hRp := fun r => root_pow (r := r) hq3 (show 2 ≤ 2 ^ (L + 1) by omega) (hq2 := hodd)
  rw [show 2 ^ (L + 1) / 2 = 2 ^ L by omega] at hRp
  rw [h2L] at RT
  generalize hN : 2 ^ L = n at *
  have hqn : ¬ q % (2 * n) ≠ 1 := by omega
  (apply enter Tryz.func128 rfl Tryz.ntmps128 rfl)
  refine runJ ?_
  (apply s_box; exact rfl; exact rfl; exact rfl; exact rfl)
  intro p1 h1 x1 e1 b1
  (try dsimp only [Value.cells, List.toList_toArray] at x1)
  refine ⟨(by first | exact trivial | exact Ext.refl _ | assumption | exact Ext.trans (by assumption) (by assumption)), ?_⟩
  refine runJ ?_
  (apply s_box; exact rfl; exact rfl; exact rfl; exact rfl)
  intro p2 h2 x2 e2 b2
  (try dsimp only [Value.cells, List.toList_toArray] at x2)
  refine ⟨(by first | exact trivial | exact Ext.refl _ | assumption | exact Ext.trans (by assumption) (by assumption)), ?_⟩
  have x1 := x1.ext e2
  have e12 := e1.trans e2
  refine runJ ?_
  (apply s_splitG; exact rfl; exact rfl; exact rfl; exact rfl) <;> intro g1
  · exact absurd g1 (by omega)
  refine runJ ?_
  (apply s_splitG; exact rfl; exact rfl; exact rfl; exact rfl) <;> intro g2
  · exact absurd g2 (by omega)
  refine runJ ?_
  apply (s_call Tryz_ent169 rfl rfl rfl)
  refine (onesN_spec n h2 (by omega) hoc.1).mono ?_
  rintro _ _ ⟨rfl, rfl⟩
  refine ⟨(by first | exact trivial | exact Ext.refl _ | assumption | exact Ext.trans (by assumption) (by assumption)), ?_⟩
  rw [hoc.2]
  refine runJ ?_
  (apply s_splitG; exact rfl; exact rfl; exact rfl; exact rfl) <;> intro g3
  · exact absurd g3 (by omega)
  refine runJ ?_
  (apply w_condF; exact rfl; exact rfl; exact hqn)
  refine runJ ?_
  apply (s_call Tryz_ent170 rfl rfl rfl)
  refine (RT h2 (T.ext e12)).mono ?_
  rintro _ h3 ⟨⟨r, rfl, hR⟩, e3⟩
  refine ⟨(by first | exact trivial | exact trivial), ?_⟩
  have e13 := e12.trans e3
  have x1 := x1.ext e3
  have x2 := x2.ext e3
  have hRq := hR.1
  have hRn := hRp r (by rw [h2L]; exact hR)
  have hgw : Nat.gcd r q = 1 := gcd_root hq3 (by omega) hRn
  refine runJ ?_
  (apply (s_build ([N n, U q, U 0, .slice none 0 0, .slice none 0 0])); exact rfl; exact rfl; exact rfl; (repeat (first | exact CellsAll.nil | (apply CellsAll.cons; (first | exact oneL (by assumption) | exact oneL (SlF.one (by assumption)) | exact oneL (SlF.one (OwnF.sl (by assumption))) | exact oneL (Var.one (by assumption)) | exact rfl)))); exact rfl; exact rfl)
  refine runJ ?_
  (apply s_box; exact rfl; exact rfl; exact rfl; exact rfl)
  intro g h4 G4 e4 b4
  (try dsimp only [Value.cells, List.toList_toArray] at G4)
  refine ⟨(by first | exact trivial | exact Ext.refl _ | assumption | exact Ext.trans (by assumption) (by assumption)), ?_⟩
  have n1 := x1.ne_new b4 (Nat.le_refl _)
  have n2 := x2.ne_new b4 (Nat.le_refl _)
  have e14 := e13.trans e4
  have x1 := x1.ext e4
  have x2 := x2.ext e4
  refine runJ ?_
  apply (s_call Tryz_ent171 rfl rfl rfl)
  refine (inv_spec n q h4 (by omega) (by omega)).mono ?_
  rintro _ _ ⟨⟨pi, ok, rfl, hI⟩, rfl⟩
  refine ⟨(by first | exact trivial | exact trivial), ?_⟩
  obtain rfl : ok = true := by
    cases ok with
    | true => rfl
    | false => rcases (hI.2 rfl).1 with h0 | h0 <;> omega
  obtain ⟨-, -, hI1, hI2⟩ := hI.1 rfl
  refine runJ ?_
  have G4x := G4
  (apply s_storeC; exact rfl; exact rfl; (first | exact rfl | exact SlF.one (by assumption) | exact SlF.one (OwnF.sl (by assumption)) | exact Var.one (by assumption)); exact rfl; exact rfl; exact G4; exact rfl)
  intro h5 G5 k5
  refine ⟨(by first | exact trivial | exact Ext.refl _ | assumption | exact Ext.only (by assumption) _ | exact Only.trans (Ext.only (by assumption) _) (by assumption)), ?_⟩
  have e5 : Ext h3 h5 := k5.oldV e4 b4 (Nat.le_refl _)
  have e35 := e13.trans e5
  have x1 := x1.only k5 n1
  have x2 := x2.only k5 n2
  refine runJ ?_
  apply (s_call Tryz_ent171 rfl rfl rfl)
  refine (inv_spec r q h5 (by omega) (by omega)).mono ?_
  rintro _ _ ⟨⟨ui, ok2, rfl, hJ⟩, rfl⟩
  refine ⟨(by first | exact trivial | exact trivial), ?_⟩
  obtain rfl : ok2 = true := by
    cases ok2 with
    | true => rfl
    | false => rcases (hJ.2 rfl).1 with h0 | h0 <;> omega
  obtain ⟨-, -, hJ1, hJ2⟩ := hJ.1 rfl
  have PW := fun z h x1 x2 => powers_spec z q n p1 p2 h x1 x2 (by omega) (by omega) hq3 hq
  refine runJ ?_
  refine s_callV rfl Tryz_ent172 rfl rfl rfl ?_
  refine (PW r h5 x1 x2 hRq).mono ?_
  rintro w6 h6 ⟨e6, o6⟩
  refine ⟨(by first | exact trivial | exact trivial), ?_⟩
  refine runJ ?_
  refine s_callV rfl Tryz_ent172 rfl rfl rfl ?_
  refine (PW ui h6 (x1.ext e6) (x2.ext e6) hJ1).mono ?_
  rintro w7 h7 ⟨e7, o7⟩
  refine ⟨(by first | exact trivial | exact trivial), ?_⟩
  have hs35 : h3.size < h5.size := by
    have h1 := (Array.getElem?_eq_some_iff.1 (show h4[h3.size]? = some _ by obtain ⟨b, rfl, hb⟩ := (show Var h4 g _ _ from G4x); cases b4; exact hb)).1
    have h2 := k5.1
    omega
  have G7 := (G5.ext e6).ext e7
  have o6 := o6.ext e7
  have m6 := o6.neV b4 hs35
  have m7 := o7.neV b4 (Nat.lt_of_lt_of_le hs35 e6.1)
  have e57 := e6.trans e7
  refine runJ ?_
  (apply s_storeC; exact rfl; exact rfl; (first | exact rfl | exact SlF.one (by assumption) | exact SlF.one (OwnF.sl (by assumption)) | exact Var.one (by assumption)); exact rfl; exact rfl; exact G7; exact rfl)
  intro h8 G8 k8
  refine ⟨(by first | exact trivial | exact Ext.refl _ | assumption | exact Ext.only (by assumption) _ | exact Only.trans (Ext.only (by assumption) _) (by assumption)), ?_⟩
  have o6 := o6.only k8 m6
  have o7 := o7.only k8 m7
  have e8 : Ext h3 h8 := k8.oldV (e5.trans e57) b4 (Nat.le_refl _)
  refine runJ ?_
  (apply s_storeC; exact rfl; exact rfl; (first | exact rfl | exact SlF.one (by assumption) | exact SlF.one (OwnF.sl (by assumption)) | exact Var.one (by assumption)); exact rfl; exact rfl; exact G8; exact rfl)
  intro h9 G9 k9
  refine ⟨(by first | exact trivial | exact Ext.refl _ | assumption | exact Ext.only (by assumption) _ | exact Only.trans (Ext.only (by assumption) _) (by assumption)), ?_⟩
  have o6 := o6.only k9 m6
  have o7 := o7.only k9 m7
  have e9 : Ext h3 h9 := k9.oldV e8 b4 (Nat.le_refl _)
  refine runJ ?_
  refine fin2 rfl rfl rfl ⟨e13.trans e9, g, ⟨L, q, r, ui, pi, w6, w7⟩, rfl, ⟨?_, ?_, ?_⟩, ⟨hL1, hL9, hq3, hq, hRq, hJ1, hI1, ?_, hJ2, ?_⟩, rfl, rfl, ?_, ⟨⟨_, b4, e13.1⟩, fun k hk => Nat.le_trans e35.1 (o6.blk k hk).1, fun k hk => Nat.le_trans (Nat.le_trans e35.1 e6.1) (o7.blk k hk).1⟩⟩
  · dsimp only; rw [hN]; exact G9
  · dsimp only; rw [hN]; exact o6.sl
  · dsimp only; rw [hN]; exact o7.sl
  · dsimp only; rw [hN]; exact hRn
  · dsimp only; rw [hN]; exact hI2
  · rw [h2L]; exact hR
end Go.Proofs.YtfcmdefigldpnaaGreatDoor

