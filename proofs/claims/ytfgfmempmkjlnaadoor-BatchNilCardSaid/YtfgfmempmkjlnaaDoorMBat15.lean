/- Texts BitE to NttB of this work, joined: each says in its own head what it proves, and of which condition. -/
import Derived.Test.YtfgfmempmkjlnaaDoorMBat14
/- Go's math/bits: ones counted, words turned round. No condition. -/
namespace Go.Proofs.YtfgfmempmkjlnaaDoor
set_option linter.unusedVariables false
set_option maxRecDepth 8000
open Go Go.Den Go.RowKit Go.Mth

def rstep (s m x : Nat) : Nat := (x / 2 ^ s &&& m) ||| ((x &&& m) * 2 ^ s % 18446744073709551616)
theorem rstep_lt {s m x : Nat} (hm : m < 18446744073709551616) : rstep s m x < 18446744073709551616 :=
  Nat.or_lt_two_pow (n := 64) (Nat.lt_of_le_of_lt Nat.and_le_right hm) (Nat.mod_lt _ (by decide))
def rv32 (x : Nat) : Nat := (x / 2 ^ 32) ||| (x * 2 ^ 32 % 18446744073709551616)
def rv64 (x : Nat) : Nat := rv32 (rstep 16 281470681808895 (rstep 8 71777214294589695 (rstep 4 1085102592571150095 (rstep 2 3689348814741910323 (rstep 1 6148914691236517205 x)))))
theorem rv64_lt (x : Nat) : rv64 x < 18446744073709551616 := by
  unfold rv64 rv32
  exact Nat.or_lt_two_pow (n := 64) (Nat.lt_of_le_of_lt (Nat.div_le_self _ _) (rstep_lt (by decide))) (Nat.mod_lt _ (by decide))

theorem rstep_b1 {s m x : Nat} (hm : m < 18446744073709551616) : (x / 2 ^ s &&& m) < 18446744073709551616 := Nat.lt_of_le_of_lt Nat.and_le_right hm
theorem rstep_b2 {s m x : Nat} : (x &&& m) * 2 ^ s % 18446744073709551616 < 18446744073709551616 := Nat.mod_lt _ (by decide)

theorem Tryd_ent91 : Ent Tryd.prog 91 := ent_of Tryd.func91 (by kernel_rfl) rfl
theorem revBytes_spec (x : Nat) (h : Hp) (hx : x < 18446744073709551616) :
    CallsH Tryd.prog 91 [U x] h fun v h' => v = U (rv32 (rstep 16 281470681808895 (rstep 8 71777214294589695 x))) ∧ h = h' := by
  have l1 := rstep_lt (s := 8) (m := 71777214294589695) (x := x) (by decide)
  have a1 := rstep_b1 (s := 8) (m := 71777214294589695) (x := x) (by decide)
  have a2 := rstep_b2 (s := 8) (m := 71777214294589695) (x := x)
  (apply enter Tryd.func91 rfl Tryd.ntmps91 rfl)
  refine runJ ?_
  refine o_know (t := 11) (u := U (rstep 8 71777214294589695 x / 2 ^ 16)) rfl rfl (o_know (t := 0) (u := U (rstep 8 71777214294589695 x)) rfl rfl ?_)
  generalize rstep 8 71777214294589695 x = y at *
  have l2 := rstep_lt (s := 16) (m := 281470681808895) (x := y) (by decide)
  have b1 := rstep_b1 (s := 16) (m := 281470681808895) (x := y) (by decide)
  have b2 := rstep_b2 (s := 16) (m := 281470681808895) (x := y)
  refine runJ ?_
  have c1 : rstep 16 281470681808895 y / 2 ^ 32 < 18446744073709551616 := Nat.lt_of_le_of_lt (Nat.div_le_self _ _) l2
  have c2 : rstep 16 281470681808895 y * 2 ^ 32 % 18446744073709551616 < 18446744073709551616 := Nat.mod_lt _ (by decide)
  apply s_orU (isK_t rfl) (isK_t rfl) rfl ⟨c1, c2⟩
  refine runJ ?_
  exact fin1 rfl rfl ⟨rfl, rfl⟩

theorem Tryd_ent77 : Ent Tryd.prog 77 := ent_of Tryd.func77 (by kernel_rfl) rfl
theorem reverse_spec (x : Nat) (h : Hp) (hx : x < 18446744073709551616) :
    CallsH Tryd.prog 77 [U x] h fun v h' => v = U (rv64 x) ∧ h = h' := by
  have l1 := rstep_lt (s := 1) (m := 6148914691236517205) (x := x) (by decide)
  have a1 := rstep_b1 (s := 1) (m := 6148914691236517205) (x := x) (by decide)
  have a2 := rstep_b2 (s := 1) (m := 6148914691236517205) (x := x)
  unfold rv64
  (apply enter Tryd.func77 rfl Tryd.ntmps77 rfl)
  refine runJ ?_
  refine o_know (t := 11) (u := U (rstep 1 6148914691236517205 x / 2 ^ 2)) rfl rfl (o_know (t := 0) (u := U (rstep 1 6148914691236517205 x)) rfl rfl ?_)
  generalize rstep 1 6148914691236517205 x = y at *
  have l2 := rstep_lt (s := 2) (m := 3689348814741910323) (x := y) (by decide)
  have b1 := rstep_b1 (s := 2) (m := 3689348814741910323) (x := y) (by decide)
  have b2 := rstep_b2 (s := 2) (m := 3689348814741910323) (x := y)
  refine runJ ?_
  refine o_know (t := 18) (u := U (rstep 2 3689348814741910323 y / 2 ^ 4)) rfl rfl (o_know (t := 0) (u := U (rstep 2 3689348814741910323 y)) rfl rfl ?_)
  generalize rstep 2 3689348814741910323 y = z at *
  have l3 := rstep_lt (s := 4) (m := 1085102592571150095) (x := z) (by decide)
  have c1 := rstep_b1 (s := 4) (m := 1085102592571150095) (x := z) (by decide)
  have c2 := rstep_b2 (s := 4) (m := 1085102592571150095) (x := z)
  refine runJ ?_
  refine o_know (t := 24) (u := U (rstep 4 1085102592571150095 z)) rfl rfl ?_
  apply (s_call Tryd_ent91 rfl rfl rfl)
  refine (revBytes_spec _ h l3).mono ?_
  rintro _ _ ⟨rfl, rfl⟩
  refine ⟨(by first | exact trivial | exact Ext.refl _ | assumption | exact Ext.trans (by assumption) (by assumption)), ?_⟩
  refine runJ ?_
  exact fin1 rfl rfl ⟨rfl, rfl⟩

/-- Moved down, a word turned round is the number turned round in its last bits. -/
def revOk (L : Nat) : Bool := (List.range (2 ^ L)).all fun i => rv64 i / 2 ^ (64 - L) == rev L i
theorem revOk_all : revOk 1 && revOk 2 && revOk 3 && revOk 4 && revOk 5 && revOk 6 && revOk 7 && revOk 8 && revOk 9 = true := by decide +kernel
theorem rv64_rev {L i : Nat} (h1 : 1 ≤ L) (h2 : L ≤ 9) (hi : i < 2 ^ L) : rv64 i / 2 ^ (64 - L) = rev L i := by
  have hk := revOk_all
  simp only [Bool.and_eq_true] at hk
  have key : revOk L = true := by
    obtain ⟨⟨⟨⟨⟨⟨⟨⟨k1, k2⟩, k3⟩, k4⟩, k5⟩, k6⟩, k7⟩, k8⟩, k9⟩ := hk
    rcases (show L = 1 ∨ L = 2 ∨ L = 3 ∨ L = 4 ∨ L = 5 ∨ L = 6 ∨ L = 7 ∨ L = 8 ∨ L = 9 by omega) with rfl | rfl | rfl | rfl | rfl | rfl | rfl | rfl | rfl <;> assumption
  have := List.all_eq_true.1 key i (List.mem_range.2 hi)
  exact eq_of_beq this

def ocw (x y : Nat) : Nat := (x + y) % 18446744073709551616
def oc1 (x : Nat) : Nat := ocw (x / 2 ^ 1 &&& 6148914691236517205) (x &&& 6148914691236517205)
def oc2 (x : Nat) : Nat := ocw (x / 2 ^ 2 &&& 3689348814741910323) (x &&& 3689348814741910323)
def oc3 (x : Nat) : Nat := ocw (x / 2 ^ 4) x &&& 1085102592571150095
def oc4 (s x : Nat) : Nat := ocw x (x / 2 ^ s)
def oc (x : Nat) : Nat := oc4 32 (oc4 16 (oc4 8 (oc3 (oc2 (oc1 x)))))
theorem ocw_lt (x y : Nat) : ocw x y < 18446744073709551616 := Nat.mod_lt _ (by decide)
theorem and_lt {a m : Nat} (hm : m < 18446744073709551616) : (a &&& m) < 18446744073709551616 := Nat.lt_of_le_of_lt Nat.and_le_right hm

theorem Tryd_ent68 : Ent Tryd.prog 68 := ent_of Tryd.func68 (by kernel_rfl) rfl
set_option maxHeartbeats 1000000 in
theorem ones_spec (x : Nat) (h : Hp) (hx : x < 18446744073709551616) (hoc : oc x < 9223372036854775808) :
    CallsH Tryd.prog 68 [U x] h fun v h' => v = N (oc x &&& 127) ∧ h = h' := by
  unfold oc at hoc ⊢
  have a1 := and_lt (a := x / 2 ^ 1) (m := 6148914691236517205) (by decide)
  have a2 := and_lt (a := x) (m := 6148914691236517205) (by decide)
  (apply enter Tryd.func68 rfl Tryd.ntmps68 rfl)
  refine runJ ?_
  (apply s_addUw; (first | exact isK_c | exact isK_t rfl); (first | exact isK_c | exact isK_t rfl); exact rfl)
  refine runJ ?_
  refine o_know (t := 13) (u := U (oc1 x &&& 3689348814741910323)) rfl rfl (o_know (t := 11) (u := U (oc1 x / 2 ^ 2 &&& 3689348814741910323)) rfl rfl ?_)
  have b0 : oc1 x < 18446744073709551616 := ocw_lt _ _
  generalize oc1 x = y at *
  (apply s_addUw; (first | exact isK_c | exact isK_t rfl); (first | exact isK_c | exact isK_t rfl); exact rfl)
  refine runJ ?_
  refine o_know (t := 17) (u := U (oc2 y)) rfl rfl (o_know (t := 16) (u := U (oc2 y / 2 ^ 4)) rfl rfl ?_)
  have c0 : oc2 y < 18446744073709551616 := ocw_lt _ _
  generalize oc2 y = z at *
  (apply s_addUw; (first | exact isK_c | exact isK_t rfl); (first | exact isK_c | exact isK_t rfl); exact rfl)
  refine runJ ?_
  refine o_know (t := 20) (u := U (oc3 z)) rfl rfl (o_know (t := 22) (u := U (oc3 z / 2 ^ 8)) rfl rfl ?_)
  have d0 : oc3 z < 18446744073709551616 := and_lt (by decide)
  generalize oc3 z = a at *
  (apply s_addUw; (first | exact isK_c | exact isK_t rfl); (first | exact isK_c | exact isK_t rfl); exact rfl)
  refine runJ ?_
  refine o_know (t := 24) (u := U (oc4 8 a)) rfl rfl (o_know (t := 26) (u := U (oc4 8 a / 2 ^ 16)) rfl rfl ?_)
  have e0 : oc4 8 a < 18446744073709551616 := ocw_lt _ _
  generalize oc4 8 a = b at *
  (apply s_addUw; (first | exact isK_c | exact isK_t rfl); (first | exact isK_c | exact isK_t rfl); exact rfl)
  refine runJ ?_
  refine o_know (t := 28) (u := U (oc4 16 b)) rfl rfl (o_know (t := 30) (u := U (oc4 16 b / 2 ^ 32)) rfl rfl ?_)
  have f0 : oc4 16 b < 18446744073709551616 := ocw_lt _ _
  generalize oc4 16 b = c at *
  (apply s_addUw; (first | exact isK_c | exact isK_t rfl); (first | exact isK_c | exact isK_t rfl); exact rfl)
  refine runJ ?_
  refine o_know (t := 33) (u := N (oc4 32 c)) rfl rfl ?_
  apply s_andI (isK_t rfl) isK_c rfl ⟨hoc, by decide⟩
  refine runJ ?_
  exact fin1 rfl rfl ⟨rfl, rfl⟩

theorem Tryd_ent44 : Ent Tryd.prog 44 := ent_of Tryd.func44 (by kernel_rfl) rfl
theorem onesN_spec (x : Nat) (h : Hp) (hx : x < 18446744073709551616) (hoc : oc x < 9223372036854775808) :
    CallsH Tryd.prog 44 [U x] h fun v h' => v = N (oc x &&& 127) ∧ h = h' := by
  (apply enter Tryd.func44 rfl Tryd.ntmps44 rfl)
  refine runJ ?_
  apply (s_call Tryd_ent68 rfl rfl rfl)
  refine (ones_spec x h hx hoc).mono ?_
  rintro _ _ ⟨rfl, rfl⟩
  refine ⟨(by first | exact trivial | exact Ext.refl _ | assumption | exact Ext.trans (by assumption) (by assumption)), ?_⟩
  refine runJ ?_
  exact fin1 rfl rfl ⟨rfl, rfl⟩

theorem oc_pow : ∀ L, L < 14 → oc (2 ^ L) < 9223372036854775808 ∧ oc (2 ^ L) &&& 127 = 1 := by decide +kernel

theorem Tryd_ent76 : Ent Tryd.prog 76 := ent_of Tryd.func76 (by kernel_rfl) rfl
theorem blen_spec (x : Nat) (h : Hp) (hx : x < 18446744073709551616) :
    CallsH Tryd.prog 76 [U x] h fun v h' => v = N (Lib.bitLen x) ∧ h = h' :=
  callsH_same fun w => Tryd.bits_Len x w (by omega) (by omega)
theorem blen_pow : ∀ L, L < 14 → Lib.bitLen (2 ^ L) = L + 1 := by decide +kernel
end Go.Proofs.YtfgfmempmkjlnaaDoor

/- The steps of a transform over rows of words: plain facts. No condition. -/
namespace Go.Proofs.YtfgfmempmkjlnaaDoor
set_option linter.unusedVariables false
set_option maxRecDepth 8000
open Go Go.Mth

theorem cg_addm {q : Nat} (hq : 0 < q) (a b : Nat) : Cg q ((addm a b q : Nat) : Int) ((a : Int) + b) := by
  rw [addm, if_neg (by omega), Int.natCast_emod, Int.natCast_add]; exact Cg.mod _ _
theorem cg_mulm {q : Nat} (hq : 0 < q) (a b : Nat) : Cg q ((mulm a b q : Nat) : Int) ((a : Int) * b) := by
  rw [mulm, if_neg (by omega), Int.natCast_emod, Int.natCast_mul]; exact Cg.mod _ _
theorem cg_subm {q : Nat} (hq : 0 < q) (a b : Nat) : Cg q ((subm a b q : Nat) : Int) ((a : Int) - b) := by
  have hb : b % q < q := Nat.mod_lt _ hq
  rw [subm, if_neg (by omega), Int.natCast_emod, Int.natCast_add, Int.ofNat_sub (by omega), Int.natCast_emod]
  refine (Cg.mod _ _).trans ?_
  refine ((Cg.refl _ _).add ((Cg.q0 _).sub (Cg.mod _ _))).trans (Cg.of_eq (by omega))

def btf (q : Nat) (W : Nat → Nat) (h s : Nat) (f : Nat → Nat) (p : Nat) : Nat :=
  if p % (2 * h) < h then addm (f p) (mulm (f (p + h)) (W (p % (2 * h) * s)) q) q else subm (f (p - h)) (mulm (f p) (W ((p % (2 * h) - h) * s)) q) q
theorem btf_lt {q : Nat} (hq : 0 < q) (W : Nat → Nat) (h s : Nat) (f : Nat → Nat) (p : Nat) : btf q W h s f p < q := by
  unfold btf; split
  · exact addm_lt hq
  · exact subm_lt hq
theorem btf_lo {q : Nat} {W : Nat → Nat} {h s : Nat} {f : Nat → Nat} {c k : Nat} (hk : k < h) : btf q W h s f (c * (2 * h) + k) = addm (f (c * (2 * h) + k)) (mulm (f (c * (2 * h) + k + h)) (W (k * s)) q) q := by
  have e : (c * (2 * h) + k) % (2 * h) = k := by rw [Nat.add_comm, Nat.add_mul_mod_self_right, Nat.mod_eq_of_lt (by omega)]
  unfold btf; rw [e, if_pos hk]
theorem btf_hi {q : Nat} {W : Nat → Nat} {h s : Nat} {f : Nat → Nat} {c k : Nat} (hk : k < h) : btf q W h s f (c * (2 * h) + k + h) = subm (f (c * (2 * h) + k)) (mulm (f (c * (2 * h) + k + h)) (W (k * s)) q) q := by
  have e : (c * (2 * h) + k + h) % (2 * h) = k + h := by rw [Nat.add_assoc, Nat.add_comm, Nat.add_mul_mod_self_right, Nat.mod_eq_of_lt (by omega)]
  unfold btf; rw [e, if_neg (by omega), Nat.add_sub_cancel, Nat.add_sub_cancel]

theorem std_btf {q L s : Nat} {w : Int} {a : Nat → Int} {W f : Nat → Nat} (hq : 0 < q) (hw : Cg q (w ^ (2 ^ L)) (-1)) (hs : s < L) (hW : ∀ m, m < 2 ^ L → Cg q ((W m : Nat) : Int) (w ^ m)) (h : Std q w L a s fun p => ((f p : Nat) : Int)) :
    Std q w L a (s + 1) fun p => ((btf q W (2 ^ s) (2 ^ (L - s)) f p : Nat) : Int) := by
  have hb : ∀ k, k < 2 ^ s → k * 2 ^ (L - s) < 2 ^ L := fun k hk => by
    have := Nat.mul_lt_mul_of_pos_right hk (Nat.two_pow_pos (L - s))
    rwa [← Nat.pow_add, show s + (L - s) = L by omega] at this
  refine std_step hw hs h (fun c k _ hk => ?_) (fun c k _ hk => ?_)
  · rw [btf_lo hk]
    exact (cg_addm hq _ _).trans ((Cg.refl _ _).add ((cg_mulm hq _ _).trans ((Cg.refl _ _).mul (hW _ (hb k hk)))))
  · rw [btf_hi hk]
    exact (cg_subm hq _ _).trans ((Cg.refl _ _).sub ((cg_mulm hq _ _).trans ((Cg.refl _ _).mul (hW _ (hb k hk)))))

/-- A row in the midst of a step. -/
def Mid (n h i k : Nat) (f g : Nat → Nat) (xs : List Nat) : Prop := xs.length = n ∧ ∀ p, p < n → xs.getD p 0 = if p < i ∨ (p < i + 2 * h ∧ (p - i) % h < k) then g p else f p
section
variable {n h i k : Nat} {f g : Nat → Nat} {xs : List Nat}
theorem getD_of {x : Nat} {p : Nat} (h : xs[p]? = some x) : xs.getD p 0 = x := by rw [List.getD_eq_getElem?_getD, h]; rfl
theorem getD_lt {p : Nat} (h : p < xs.length) : xs[p]? = some (xs.getD p 0) := by rw [List.getD_eq_getElem?_getD, List.getElem?_eq_getElem h]; rfl
theorem getD_set {p r x : Nat} (hp : p < xs.length) : (xs.set r x).getD p 0 = if p = r then x else xs.getD p 0 := by
  rw [List.getD_eq_getElem?_getD, List.getElem?_set, List.getD_eq_getElem?_getD]
  by_cases e : r = p
  · subst e; rw [if_pos rfl, if_pos hp, if_pos rfl]; rfl
  · rw [if_neg e, if_neg (by omega)]
theorem mid_start (hl : xs.length = n) (hf : ∀ p, p < n → xs.getD p 0 = f p) : Mid n h 0 0 f g xs := ⟨hl, fun p hp => by rw [if_neg (by omega)]; exact hf p hp⟩
theorem mid_lo (m : Mid n h i k f g xs) (hk : k < h) (hn : i + 2 * h ≤ n) : xs[i + k]? = some (f (i + k)) := by
  rw [getD_lt (by rw [m.1]; omega), m.2 _ (by omega), if_neg]
  rw [show i + k - i = k by omega, Nat.mod_eq_of_lt hk]; omega
theorem mid_hi (m : Mid n h i k f g xs) (hk : k < h) (hn : i + 2 * h ≤ n) : xs[i + k + h]? = some (f (i + k + h)) := by
  rw [getD_lt (by rw [m.1]; omega), m.2 _ (by omega), if_neg]
  rw [show i + k + h - i = k + h by omega, Nat.add_mod_right, Nat.mod_eq_of_lt hk]; omega
theorem mid_step (m : Mid n h i k f g xs) (hk : k < h) (hn : i + 2 * h ≤ n) : Mid n h i (k + 1) f g ((xs.set (i + k) (g (i + k))).set (i + k + h) (g (i + k + h))) := by
  refine ⟨by rw [List.length_set, List.length_set]; exact m.1, fun p hp => ?_⟩
  have hl := m.1
  rw [getD_set (by rw [List.length_set]; omega), getD_set (by omega)]
  by_cases h1 : p = i + k + h
  · subst h1
    rw [if_pos rfl, if_pos]
    refine .inr ⟨by omega, ?_⟩
    rw [show i + k + h - i = k + h by omega, Nat.add_mod_right, Nat.mod_eq_of_lt hk]; omega
  rw [if_neg h1]
  by_cases h2 : p = i + k
  · subst h2
    rw [if_pos rfl, if_pos]
    refine .inr ⟨by omega, ?_⟩
    rw [show i + k - i = k by omega, Nat.mod_eq_of_lt hk]; omega
  rw [if_neg h2, m.2 p hp]
  by_cases h3 : p < i
  · rw [if_pos (.inl h3), if_pos (.inl h3)]
  by_cases h4 : p < i + 2 * h
  · obtain ⟨d, rfl⟩ : ∃ d, p = i + d := ⟨p - i, by omega⟩
    rw [show i + d - i = d by omega]
    have hd : d % h ≠ k := by
      by_cases hd : d < h
      · rw [Nat.mod_eq_of_lt hd]; omega
      · rw [Nat.mod_eq_sub_mod (by omega), Nat.mod_eq_of_lt (by omega)]; omega
    by_cases h5 : d % h < k
    · rw [if_pos (.inr ⟨h4, h5⟩), if_pos (.inr ⟨h4, by omega⟩)]
    · rw [if_neg (by omega), if_neg (by omega)]
  · rw [if_neg (by omega), if_neg (by omega)]
theorem mid_next (m : Mid n h i h f g xs) (hh : 0 < h) : Mid n h (i + 2 * h) 0 f g xs := ⟨m.1, fun p hp => by
  rw [m.2 p hp]
  have := Nat.mod_lt (p - i) hh
  by_cases h1 : p < i + 2 * h
  · rw [if_pos (.inr ⟨h1, this⟩), if_pos (.inl h1)]
  · rw [if_neg (by omega), if_neg (by omega)]⟩
theorem mid_end (m : Mid n h i 0 f g xs) (hi : n ≤ i) : ∀ p, p < n → xs.getD p 0 = g p := fun p hp => by
  rw [m.2 p hp, if_pos (.inl (by omega))]

/-- A row in the midst of being turned round. -/
def Swp (L i : Nat) (f : Nat → Nat) (xs : List Nat) : Prop := xs.length = 2 ^ L ∧ ∀ p, p < 2 ^ L → xs.getD p 0 = if p < i ∨ rev L p < i then f (rev L p) else f p
theorem swp_start {L : Nat} (hl : xs.length = 2 ^ L) (hf : ∀ p, p < 2 ^ L → xs.getD p 0 = f p) : Swp L 0 f xs := ⟨hl, fun p hp => by rw [if_neg (by omega)]; exact hf p hp⟩
theorem swp_end {L : Nat} (s : Swp L (2 ^ L) f xs) : ∀ p, p < 2 ^ L → xs.getD p 0 = f (rev L p) := fun p hp => by rw [s.2 p hp, if_pos (.inl hp)]
theorem swp_keep {L : Nat} (s : Swp L i f xs) (hi : i < 2 ^ L) (hk : ¬ i < rev L i) : Swp L (i + 1) f xs := ⟨s.1, fun p hp => by
  rw [s.2 p hp]
  by_cases h1 : p < i ∨ rev L p < i
  · rw [if_pos h1, if_pos (by omega)]
  rw [if_neg h1]
  by_cases h2 : p < i + 1 ∨ rev L p < i + 1
  · rw [if_pos h2]
    have hp' : rev L p = p := by
      by_cases h3 : p = i
      · subst h3; omega
      · have h4 : rev L p = i := by omega
        have h5 := rev_rev L p hp
        rw [h4] at h5; omega
    rw [hp']
  · rw [if_neg h2]⟩
theorem swp_lo {L : Nat} (s : Swp L i f xs) (hi : i < 2 ^ L) (hk : i < rev L i) : xs[i]? = some (f i) := by
  rw [getD_lt (by rw [s.1]; omega), s.2 _ hi, if_neg (by omega)]
theorem swp_hi {L : Nat} (s : Swp L i f xs) (hi : i < 2 ^ L) (hk : i < rev L i) : xs[rev L i]? = some (f (rev L i)) := by
  have := rev_lt L i
  rw [getD_lt (by rw [s.1]; omega), s.2 _ this, rev_rev L i hi, if_neg (by omega)]
theorem swp_step {L : Nat} (s : Swp L i f xs) (hi : i < 2 ^ L) (hk : i < rev L i) : Swp L (i + 1) f ((xs.set i (f (rev L i))).set (rev L i) (f i)) := by
  have hr := rev_lt L i
  have hrr := rev_rev L i hi
  refine ⟨by rw [List.length_set, List.length_set]; exact s.1, fun p hp => ?_⟩
  have hl := s.1
  rw [getD_set (by rw [List.length_set]; omega), getD_set (by omega)]
  by_cases h1 : p = rev L i
  · subst h1
    rw [if_pos rfl, if_pos (.inr (by omega)), hrr]
  rw [if_neg h1]
  by_cases h2 : p = i
  · subst h2
    rw [if_pos rfl, if_pos (.inl (by omega))]
  rw [if_neg h2, s.2 p hp]
  have h3 : rev L p ≠ i := fun e => h1 (by rw [← e, rev_rev L p hp])
  by_cases h4 : p < i ∨ rev L p < i
  · rw [if_pos h4, if_pos (by omega)]
  · rw [if_neg h4, if_neg (by omega)]
end

/-- Powers in a row. -/
theorem gcd_pow {q n : Nat} (L : Nat) (hq : q % 2 = 1) : Nat.gcd (2 ^ L) q = 1 := by
  have : Nat.gcd 2 q = 1 := by rw [Nat.gcd_rec, hq]; decide
  exact Nat.Coprime.pow_left L this
theorem gcd_root {q w n : Nat} (hq : 1 < q) (hn : 0 < n) (h : w ^ n % q = q - 1) : Nat.gcd w q = 1 := by
  have h1 : Nat.gcd w q ∣ q := Nat.gcd_dvd_right _ _
  have h2 : Nat.gcd w q ∣ w ^ n := Nat.dvd_trans (Nat.gcd_dvd_left _ _) ⟨w ^ (n - 1), by rw [← Nat.pow_succ']; congr 1; omega⟩
  have h3 : Nat.gcd w q ∣ q - 1 := by rw [← h]; exact (Nat.dvd_mod_iff h1).2 h2
  have h4 := Nat.dvd_sub h1 h3
  rw [show q - (q - 1) = 1 by omega] at h4
  exact Nat.dvd_one.1 h4
theorem cg_of_mod {q a : Nat} {b : Int} (h : Cg q (a : Int) b) (c : Nat) (hc : c % q = a % q) : Cg q (c : Int) b := by
  have h1 := Cg.mod (q : Int) (c : Int)
  have h2 := Cg.mod (q : Int) (a : Int)
  have : ((c : Int) % q) = ((a : Int) % q) := by rw [← Int.natCast_emod, ← Int.natCast_emod, hc]
  rw [this] at h1
  exact h1.symm.trans (h2.trans h)
theorem cg_root {q w n : Nat} (hq : 1 < q) (h : w ^ n % q = q - 1) : Cg q ((w : Int) ^ n) (-1) := by
  have := Cg.mod (q : Int) ((w : Int) ^ n)
  rw [← Int.natCast_pow, ← Int.natCast_emod, h, Int.ofNat_sub (by omega)] at this
  rw [← Int.natCast_pow]
  exact this.symm.trans (((Cg.q0 _).sub (Cg.refl _ _)).trans (Cg.of_eq (by omega)))
theorem cg_one {q a b : Nat} (h : a * b % q = 1) : Cg q ((a : Int) * b) 1 := by
  have := Cg.mod (q : Int) ((a : Int) * b)
  rw [← Int.natCast_mul, ← Int.natCast_emod, h] at this
  rw [← Int.natCast_mul]
  exact this.symm
theorem lists_cg {q : Nat} {xs ys : List Nat} (hl : xs.length = ys.length) (hx : ∀ x ∈ xs, x < q) (hy : ∀ x ∈ ys, x < q) (h : ∀ p, p < xs.length → Cg q ((xs.getD p 0 : Nat) : Int) ((ys.getD p 0 : Nat) : Int)) : xs = ys := by
  apply List.ext_getElem? 
  intro p
  by_cases hp : p < xs.length
  · rw [getD_lt hp, getD_lt (by omega)]
    have := (h p hp).eqN (hx _ (List.mem_of_getElem? (getD_lt hp))) (hy _ (List.mem_of_getElem? (getD_lt (xs := ys) (by omega))))
    rw [this]
  · rw [List.getElem?_eq_none (by omega), List.getElem?_eq_none (by omega)]
end Go.Proofs.YtfgfmempmkjlnaaDoor

/- Package prime: roots. Condition: the table of math/bits reads as it is laid. -/
namespace Go.Proofs.YtfgfmempmkjlnaaDoor
set_option linter.unusedVariables false
set_option maxRecDepth 8000
open Go Go.Den Go.RowKit Go.Mth

theorem Tryd_ent72 : Ent Tryd.prog 72 := ent_of Tryd.func72 (by kernel_rfl) rfl
theorem smin_spec (v : Value) (xs : List Nat) (h : Hp) (s : SlF h U v xs) (h0 : 0 < xs.length) (hl : xs.length < 4611686018427387904) :
    CallsH Tryd.prog 72 [v] h fun v' h' => (∃ m, v' = U m ∧ m ∈ xs ∧ ∀ x ∈ xs, m ≤ x) ∧ h = h' := by
  obtain ⟨x0, hx0⟩ := get_lt h0
  (apply enter Tryd.func72 rfl Tryd.ntmps72 rfl)
  refine runJ ?_
  (apply w_condF; exact rfl; exact rfl; exact (show ¬ xs.length < 1 by omega))
  refine runJ ?_
  (first | (apply w_seqB; exact rfl; apply w_block; exact rfl) | skip)
  apply (w_loop (σ := Nat × Nat) rfl (fun j => [(0, v), (3, U j.2), (4, N j.1)])
    (fun j h' => h = h' ∧ 1 ≤ j.1 ∧ j.1 ≤ xs.length ∧ j.2 ∈ xs ∧ ∀ x ∈ xs.take j.1, j.2 ≤ x) (fun j => xs.length - j.1) (1, x0))
  · exact (Sub.cons rfl (Sub.cons rfl (Sub.cons rfl (Sub.nil _))))
  · refine ⟨rfl, Nat.le_refl _, h0, List.mem_of_getElem? hx0, ?_⟩
    intro x hx
    rw [show (1, x0).1 = 0 + 1 from rfl, take_snoc hx0] at hx
    simp at hx
    dsimp only; omega
  rintro ⟨j, m⟩ h' ⟨rfl, j1, j2, j3, j4⟩
  dsimp only at j1 j2 j3 j4 ⊢
  refine runJ ?_
  (apply w_condD; exact rfl; exact rfl) <;> intro hj
  · obtain ⟨y, hy⟩ := get_lt hj
    refine runJ ?_
    apply s_minU (isK_t rfl) (isK_t rfl) rfl
    refine runJ ?_
    apply again_normal (j + 1, min m y)
    · exact (Sub.cons rfl (Sub.cons rfl (Sub.cons rfl (Sub.nil _))))
    · refine ⟨rfl, by dsimp only; omega, hj, ?_, ?_⟩
      · dsimp only
        rcases Nat.le_total m y with hh | hh
        · rw [Nat.min_eq_left hh]; exact j3
        · rw [Nat.min_eq_right hh]; exact List.mem_of_getElem? hy
      · dsimp only
        intro x hx
        rw [take_snoc hy] at hx
        rcases List.mem_append.1 hx with hx | hx
        · have := j4 x hx; omega
        · simp only [List.mem_singleton] at hx; omega
    · dsimp only; omega
  · rw [List.take_of_length_le (by omega)] at j4
    refine runJ ?_
    exact fin1 rfl rfl ⟨⟨m, rfl, j3, j4⟩, rfl⟩

theorem Tryd_ent69 : Ent Tryd.prog 69 := ent_of Tryd.func69 (by kernel_rfl) rfl
theorem pstep_spec (L : Nat) (h : Hp) (h1 : 1 ≤ L) (h2 : L ≤ 13) : CallsH Tryd.prog 69 [U (2 ^ L)] h fun v' h' => v' = .bool true ∧ h = h' := by
  have hoc := oc_pow L (by omega)
  have hlo : 2 ^ 1 ≤ 2 ^ L := Nat.pow_le_pow_right (by omega) h1
  have hhi : 2 ^ L ≤ 2 ^ 13 := Nat.pow_le_pow_right (by omega) h2
  generalize 2 ^ L = n at *
  (apply enter Tryd.func69 rfl Tryd.ntmps69 rfl)
  refine runJ ?_
  (apply s_splitG; exact rfl; exact rfl; exact rfl; exact rfl) <;> intro g1
  · refine runJ ?_
    (apply s_splitG; exact rfl; exact rfl; exact rfl; exact rfl) <;> intro g2
    · refine runJ ?_
      apply (s_call Tryd_ent68 rfl rfl rfl)
      refine (ones_spec n h (by omega) hoc.1).mono ?_
      rintro _ _ ⟨rfl, rfl⟩
      refine ⟨(by first | exact trivial | exact Ext.refl _ | assumption | exact Ext.trans (by assumption) (by assumption)), ?_⟩
      refine runJ ?_
      exact fin1 rfl rfl ⟨by rw [hoc.2]; rfl, rfl⟩
    · exact absurd (by omega) g2
  · exact absurd (by omega) g1

/-- The least of the powers with odd exponents of one root. -/
def RootR (q n r : Nat) : Prop := r < q ∧ ∃ w, w < q ∧ powm w (n / 2) q = q - 1 ∧ (∃ j, j < n / 2 ∧ r = w ^ (2 * j + 1) % q) ∧ ∀ j, j < n / 2 → r ≤ w ^ (2 * j + 1) % q

theorem odd_next {w q m : Nat} (hq : q ≠ 0) (hm : 1 ≤ m) : mulm (w ^ (2 * (m - 1) + 1) % q) (mulm w w q) q = w ^ (2 * m + 1) % q := by
  unfold mulm
  rw [if_neg hq, if_neg hq, ← Nat.mul_mod, ← Nat.mul_assoc, ← Nat.pow_succ, ← Nat.pow_succ]
  congr 2; omega

theorem Tryd_ent45 : Ent Tryd.prog 45 := ent_of Tryd.func45 (by kernel_rfl) rfl
set_option maxHeartbeats 1000000 in
theorem root_spec (q L X : Nat) (h : Hp) (T : TB h) (h1 : 1 ≤ L) (h2 : L ≤ 13) (hq3 : 3 ≤ q) (hq : q < 18446744073709551616) (hB : isB q = true) (hd : (q - 1) % 2 ^ L = 0) (hX : 2 ≤ X) (hX2 : X < 18446744073709551615)
    (hx : powm (powm X ((q - 1) / 2 ^ L) q) (2 ^ L / 2) q = q - 1) :
    CallsH Tryd.prog 45 [U q, U (2 ^ L)] h fun v' h' => (∃ r, v' = .tuple #[U r, N 0] ∧ RootR q (2 ^ L) r) ∧ Ext h h' := by
  have ST := fun h => pstep_spec L h h1 h2
  have hlo : 2 ^ 1 ≤ 2 ^ L := Nat.pow_le_pow_right (by omega) h1
  have hhi : 2 ^ L ≤ 2 ^ 13 := Nat.pow_le_pow_right (by omega) h2
  have hq0 : ¬ q = 0 := by omega
  generalize 2 ^ L = n at *
  have hdn : ¬ (q - 1) % n ≠ 0 := by omega
  (apply enter Tryd.func45 rfl Tryd.ntmps45 rfl)
  refine runJ ?_
  apply (s_call Tryd_ent69 rfl rfl rfl)
  refine (ST h).mono ?_
  rintro _ _ ⟨rfl, rfl⟩
  refine ⟨(by first | exact trivial | exact Ext.refl _ | assumption | exact Ext.trans (by assumption) (by assumption)), ?_⟩
  refine runJ ?_
  apply (s_call Tryd_ent70 rfl rfl rfl)
  refine (is_spec q h T hq).mono ?_
  rintro _ h2 ⟨rfl, e2⟩
  refine ⟨(by first | exact trivial | exact trivial), ?_⟩
  rw [hB]
  refine runJ ?_
  (apply w_condF; exact rfl; exact rfl; exact hdn)
  refine runJ ?_
  (first | (apply w_seqB; exact rfl; apply w_block; exact rfl) | skip)
  apply (w_loop (σ := Nat × Nat) rfl (fun j => [(0, U q), (1, U n), (6, U j.2), (7, U j.1)])
    (fun j h' => h2 = h' ∧ 2 ≤ j.1 ∧ j.1 ≤ X + 1 ∧ j.2 < q ∧ (j.1 = X + 1 → powm j.2 (n / 2) q = q - 1)) (fun j => X + 1 - j.1) (2, 1))
  · exact (Sub.cons rfl (Sub.cons rfl (Sub.cons rfl (Sub.cons rfl (Sub.nil _)))))
  · exact ⟨rfl, Nat.le_refl _, by dsimp only; omega, by dsimp only; omega, by dsimp only; omega⟩
  rintro ⟨x, w⟩ h3 ⟨rfl, j1, j2, j3, j4⟩
  dsimp only at j1 j2 j3 j4 ⊢
  refine runJ ?_
  apply (s_call Tryd_ent71 rfl rfl rfl)
  refine (pow_spec w (n / 2) q h2 (by omega) (by omega) hq).mono ?_
  rintro _ _ ⟨rfl, rfl⟩
  refine ⟨(by first | exact trivial | exact Ext.refl _ | assumption | exact Ext.trans (by assumption) (by assumption)), ?_⟩
  refine runJ ?_
  (apply w_condD; exact rfl; exact rfl) <;> intro hw
  · have hxX : ¬ x = X + 1 := fun e => hw (j4 e)
    have hpl : powm x ((q - 1) / n) q < q := by unfold powm; rw [if_neg hq0]; exact Nat.mod_lt _ (by omega)
    have hdl : (q - 1) / n < 18446744073709551616 := Nat.lt_of_le_of_lt (Nat.div_le_self _ _) (by omega)
    refine runJ ?_
    apply (s_call Tryd_ent71 rfl rfl rfl)
    refine (pow_spec x ((q - 1) / n) q h2 (by omega) hdl hq).mono ?_
    rintro _ _ ⟨rfl, rfl⟩
    refine ⟨(by first | exact trivial | exact Ext.refl _ | assumption | exact Ext.trans (by assumption) (by assumption)), ?_⟩
    refine runJ ?_
    apply again_normal (x + 1, powm x ((q - 1) / n) q)
    · exact (Sub.cons rfl (Sub.cons rfl (Sub.cons rfl (Sub.cons rfl (Sub.nil _)))))
    · refine ⟨rfl, by dsimp only; omega, by dsimp only; omega, hpl, ?_⟩
      dsimp only
      intro e
      obtain rfl : x = X := by omega
      exact hx
    · dsimp only; omega
  have hw : powm w (n / 2) q = q - 1 := Decidable.of_not_not hw
  refine runJ ?_
  (apply (s_litF (f := U) [w] (fun _ => rfl)); exact rfl; exact rfl; exact rfl; exact rfl; exact rfl; exact rfl; exact rfl; exact rfl; omega)
  intro v4 h4 o4 e4 b4
  refine ⟨(by first | exact trivial | exact Ext.refl _ | assumption | exact Ext.trans (by assumption) (by assumption)), ?_⟩
  have e24 := e2.trans e4
  refine runJ ?_
  apply (s_call Tryd_ent48 rfl rfl rfl)
  refine (mul_spec w w q h4 (by omega) (by omega) hq).mono ?_
  rintro _ _ ⟨rfl, rfl⟩
  refine ⟨(by first | exact trivial | exact Ext.refl _ | assumption | exact Ext.trans (by assumption) (by assumption)), ?_⟩
  have hml : mulm w w q < q := mulm_lt (by omega)
  refine runJ ?_
  (first | (apply w_seqB; exact rfl; apply w_block; exact rfl) | skip)
  apply (w_loop (σ := List Nat × Value) rfl (fun j => [(0, U q), (1, U n), (8, j.2), (9, U (mulm w w q))])
    (fun j h' => Ext h2 h' ∧ OwnF h' h2.size 24 U j.2 j.1 ∧ 1 ≤ j.1.length ∧ j.1.length ≤ n / 2 ∧ ∀ (k : Nat) (y : Nat), j.1[k]? = some y → y = w ^ (2 * k + 1) % q) (fun j => n / 2 - j.1.length) ([w], v4))
  · exact (Sub.cons rfl (Sub.cons rfl (Sub.cons rfl (Sub.cons rfl (Sub.nil _)))))
  · refine ⟨e4, o4, Nat.le_refl _, by simp only [List.length_singleton]; omega, fun k y hk => ?_⟩
    rw [List.getElem?_singleton] at hk
    by_cases hk0 : k = 0
    · subst hk0
      simp at hk
      rw [← hk, Nat.mul_zero, Nat.zero_add, Nat.pow_one, Nat.mod_eq_of_lt j3]
    · rw [if_neg hk0] at hk; cases hk
  rintro ⟨xs, v⟩ h5 ⟨e5, o5, k1, k2, k3⟩
  dsimp only at e5 o5 k1 k2 k3 ⊢
  have e25 := e2.trans e5
  refine runJ ?_
  (apply w_condD; exact rfl; exact rfl) <;> intro hl
  · obtain ⟨y, hy⟩ := get_lt (l := xs) (j := xs.length - 1) (by omega)
    have hyv := k3 _ _ hy
    have hyl : y < q := by rw [hyv]; exact Nat.mod_lt _ (by omega)
    have hnx := odd_next (w := w) hq0 k1
    rw [← hyv] at hnx
    refine runJ ?_
    apply (s_call Tryd_ent48 rfl rfl rfl)
    refine (mul_spec y (mulm w w q) q h5 (by omega) (by omega) hq).mono ?_
    rintro _ _ ⟨rfl, rfl⟩
    refine ⟨(by first | exact trivial | exact Ext.refl _ | assumption | exact Ext.trans (by assumption) (by assumption)), ?_⟩
    refine runJ ?_
    (refine s_app1 (bytes := 8) (mulm y (mulm w w q) q) o5 e5 rfl rfl rfl rfl rfl rfl rfl rfl rfl (by first | exact rfl | exact congrArg some (congrArg I (by omega))) (fun _ => rfl) rfl rfl (fun _ _ => trivial) (by omega) (by simp only [maxLen]; omega) ?_)
    intro v6 h6 o6 e6 k6 b6
    refine runJ ?_
    apply again_normal (xs ++ [mulm y (mulm w w q) q], v6)
    · exact (Sub.cons rfl (Sub.cons rfl (Sub.cons rfl (Sub.cons rfl (Sub.nil _)))))
    · refine ⟨e6, o6, by simp, by simp only [List.length_append, List.length_singleton]; omega, fun k z hk => ?_⟩
      by_cases hkl : k < xs.length
      · rw [List.getElem?_append_left hkl] at hk; exact k3 k z hk
      · have hkl2 : k < xs.length + 1 := by have := (List.getElem?_eq_some_iff.1 hk).1; simpa using this
        obtain rfl : k = xs.length := by omega
        rw [List.getElem?_append_right (Nat.le_refl _), Nat.sub_self] at hk
        simp at hk
        rw [← hk, hnx]
    · simp only [List.length_append, List.length_singleton]; omega
  · have hlen : xs.length = n / 2 := by omega
    have s5 := o5.sl
    refine runJ ?_
    apply (s_call Tryd_ent72 rfl rfl rfl)
    refine (smin_spec v xs h5 s5 (by omega) (by omega)).mono ?_
    rintro _ _ ⟨⟨m, rfl, m1, m2⟩, rfl⟩
    refine ⟨(by first | exact trivial | exact trivial), ?_⟩
    refine runJ ?_
    refine fin2 rfl rfl rfl ⟨⟨m, rfl, ?_⟩, e25⟩
    obtain ⟨k, hk, hkm⟩ := List.getElem_of_mem m1
    have hkv := k3 k m (by rw [List.getElem?_eq_getElem hk, hkm])
    refine ⟨by rw [hkv]; exact Nat.mod_lt _ (by omega), w, j3, hw, ⟨k, by omega, hkv⟩, fun j hj => ?_⟩
    obtain ⟨y, hy⟩ := get_lt (l := xs) (j := j) (by omega)
    rw [← k3 j y hy]
    exact m2 y (List.mem_of_getElem? hy)
end Go.Proofs.YtfgfmempmkjlnaaDoor

/- Package ntt: what a table holds; the transform in place. No condition. -/
namespace Go.Proofs.YtfgfmempmkjlnaaDoor
set_option linter.unusedVariables false
set_option maxRecDepth 8000
open Go Go.Den Go.RowKit Go.Mth

/-- A table: its size is 2^L; the root, its inverse, and the size's inverse. -/
structure Tbl where mk ::
  L : Nat
  q : Nat
  w : Nat
  u : Nat
  p : Nat
  vr : Value
  vu : Value
abbrev Tbl.n (t : Tbl) : Nat := 2 ^ t.L
def pows (w q n : Nat) : List Nat := (List.range n).map fun j => w ^ j % q
theorem pows_len (w q n : Nat) : (pows w q n).length = n := by unfold pows; simp
theorem pows_get {w q n j : Nat} (h : j < n) : (pows w q n)[j]? = some (w ^ j % q) := by unfold pows; simp [h]
structure TblOk (t : Tbl) : Prop where mk ::
  l1 : 1 ≤ t.L
  l9 : t.L ≤ 9
  q1 : 1 < t.q
  q61 : t.q < 2305843009213693952
  wl : t.w < t.q
  ul : t.u < t.q
  pl : t.p < t.q
  wn : t.w ^ (2 ^ t.L) % t.q = t.q - 1
  uw : t.w * t.u % t.q = 1
  np : 2 ^ t.L * t.p % t.q = 1
structure TblAt (h : Hp) (g : Value) (t : Tbl) : Prop where mk ::
  var : Var h g 77 [N (2 ^ t.L), U t.q, U t.p, t.vr, t.vu]
  rr : SlF h U t.vr (pows t.w t.q (2 ^ t.L))
  ru : SlF h U t.vu (pows t.u t.q (2 ^ t.L))
theorem TblAt.ext {h h' : Hp} {g : Value} {t : Tbl} (s : TblAt h g t) (e : Ext h h') : TblAt h' g t := ⟨s.var.ext e, s.rr.ext e, s.ru.ext e⟩
theorem TblOk.size {t : Tbl} (k : TblOk t) : 2 ≤ 2 ^ t.L ∧ 2 ^ t.L ≤ 512 :=
  ⟨Nat.pow_le_pow_right (n := 2) (by omega) k.l1, Nat.pow_le_pow_right (n := 2) (by omega) k.l9⟩

/-- A row that fits: so long, all below. -/
def Fit (n q : Nat) (xs : List Nat) : Prop := xs.length = n ∧ ∀ x ∈ xs, x < q
instance (n q : Nat) (xs : List Nat) : Decidable (Fit n q xs) := by unfold Fit; exact inferInstance

theorem Tryd_ent51 : Ent Tryd.prog 51 := ent_of Tryd.func51 (by kernel_rfl) rfl
theorem fits_spec (g va : Value) (t : Tbl) (xs : List Nat) (h : Hp) (K : TblOk t) (A : TblAt h g t) (s : SlF h U va xs) (hl : xs.length < 4611686018427387904) (hal : ∀ x ∈ xs, x < 18446744073709551616) :
    CallsH Tryd.prog 51 [g, va] h fun v' h' => v' = .bool (decide (Fit (2 ^ t.L) t.q xs)) ∧ h = h' := by
  have G := A.var
  have hn := K.size
  obtain ⟨L, q, w, u, p, vr, vu⟩ := t
  dsimp only at G hn ⊢
  generalize 2 ^ L = n at *
  (apply enter Tryd.func51 rfl Tryd.ntmps51 rfl)
  refine runJ ?_
  (apply w_condD; exact rfl; exact rfl) <;> intro hne
  · refine runJ ?_
    exact fin1 rfl rfl ⟨dec_f fun k => hne (by have := k.1; omega), rfl⟩
  have hln : xs.length = n := by omega
  refine runJ ?_
  (first | (apply w_seqB; exact rfl; apply w_block; exact rfl) | skip)
  apply (w_loop (σ := Nat) rfl (fun j => [(0, g), (1, va), (14, va), (15, N xs.length), (16, N j)])
    (fun j h' => h = h' ∧ j ≤ xs.length ∧ ∀ x ∈ xs.take j, x < q) (fun j => xs.length - j) 0)
  · exact (Sub.cons rfl (Sub.cons rfl (Sub.cons rfl (Sub.cons rfl (Sub.cons rfl (Sub.nil _))))))
  · exact ⟨rfl, Nat.zero_le _, by simp⟩
  rintro j h' ⟨rfl, j1, j2⟩
  refine runJ ?_
  (apply w_condD; exact rfl; exact rfl) <;> intro hj
  · obtain ⟨x, hx⟩ := get_lt hj
    refine runJ ?_
    (apply w_condD; exact rfl; exact rfl) <;> intro hd
    · refine runJ ?_
      exact fin1 rfl rfl ⟨dec_f (fun k => by have := k.2 x (List.mem_of_getElem? hx); omega), rfl⟩
    · refine runJ ?_
      apply again_normal (j + 1)
      · exact (Sub.cons rfl (Sub.cons rfl (Sub.cons rfl (Sub.cons rfl (Sub.cons rfl (Sub.nil _))))))
      · refine ⟨rfl, hj, fun y hy => ?_⟩
        rw [take_snoc hx] at hy
        rcases List.mem_append.1 hy with hy | hy
        · exact j2 y hy
        · simp only [List.mem_singleton] at hy; omega
      · omega
  · rw [List.take_of_length_le (by omega)] at j2
    refine runJ ?_
    exact fin1 rfl rfl ⟨dec_t ⟨hln, j2⟩, rfl⟩

/-- Each times the power of its place. -/
def twl (w q : Nat) (xs : List Nat) : List Nat := (List.range xs.length).map fun j => mulm (xs.getD j 0) (w ^ j % q) q

theorem Tryd_ent53 : Ent Tryd.prog 53 := ent_of Tryd.func53 (by kernel_rfl) rfl
theorem twist_spec (g va vp : Value) (t : Tbl) (z : Nat) (xs : List Nat) (h : Hp) (K : TblOk t) (A : TblAt h g t) (s : SlF h U va xs) (sp : SlF h U vp (pows z t.q (2 ^ t.L))) (hl : xs.length = 2 ^ t.L) (hx : ∀ x ∈ xs, x < t.q) :
    CallsH Tryd.prog 53 [g, va, vp] h fun v' h' => Ext h h' ∧ OwnF h' h.size 24 U v' (twl z t.q xs) := by
  have G := A.var
  have hn := K.size
  have hq := K.q61
  have hq1 := K.q1
  obtain ⟨L, q, w, u, p, vr, vu⟩ := t
  dsimp only at G hn hq hq1 sp hl hx ⊢
  generalize 2 ^ L = n at *
  have hpl := pows_len z q n
  have hxl : 0 < xs.length := by omega
  (apply enter Tryd.func53 rfl Tryd.ntmps53 rfl)
  refine runJ ?_
  (apply (s_make (f := U) (bytes := 8) (0)); (first | exact isK_c | exact isK_t rfl); (first | exact isK_c | exact isK_t rfl); exact rfl; exact rfl; exact rfl; exact rfl; exact rfl; exact rfl; omega; omega; omega)
  intro w1 h1 o1 e1 b1
  refine ⟨(by first | exact trivial | exact Ext.refl _ | assumption | exact Ext.trans (by assumption) (by assumption)), ?_⟩
  refine runJ ?_
  (first | (apply w_seqB; exact rfl; apply w_block; exact rfl) | skip)
  apply (w_loop (σ := Nat × List Nat) rfl (fun j => [(0, g), (2, vp), (7, w1), (15, va), (16, N xs.length), (17, N j.1)])
    (fun j h' => Ext h h' ∧ j.1 ≤ n ∧ OwnF h' h.size 24 U w1 j.2 ∧ j.2.length = n ∧ ∀ (k : Nat) (y : Nat), k < j.1 → j.2[k]? = some y → y = mulm (xs.getD k 0) (z ^ k % q) q) (fun j => n - j.1) (0, List.replicate n 0))
  · exact (Sub.cons rfl (Sub.cons rfl (Sub.cons rfl (Sub.cons rfl (Sub.cons rfl (Sub.cons rfl (Sub.nil _)))))))
  · exact ⟨e1, Nat.zero_le _, o1, by simp, fun k y hk => by omega⟩
  rintro ⟨j, ys⟩ h2 ⟨e2, j1, o2, j2, j3⟩
  dsimp only at e2 j1 o2 j2 j3 ⊢
  have G2 := G.ext e2
  have s2 := s.ext e2
  have p2 := sp.ext e2
  have nG := G.neq b1 (Nat.le_refl _)
  have ns := s.neq hxl b1 (Nat.le_refl _)
  have np := sp.neq (by omega) b1 (Nat.le_refl _)
  refine runJ ?_
  (apply w_condD; exact rfl; exact rfl) <;> intro hj
  · obtain ⟨x, hxj⟩ := get_lt hj
    have hxq := hx x (List.mem_of_getElem? hxj)
    have hp := pows_get (w := z) (q := q) (n := n) (j := j) (by omega)
    have hpq : z ^ j % q < q := Nat.mod_lt _ (by omega)
    generalize hz : z ^ j % q = y at *
    refine runJN ?_
    (apply (r_drawnO (w1.ownBlock)); exact rfl; exact mixed; kernel_rfl)
    refine runJ ?_
    apply (s_call Tryd_ent48 rfl rfl rfl)
    refine (mul_spec x y q h2 (by omega) (by omega) (by omega)).mono ?_
    rintro _ _ ⟨rfl, rfl⟩
    refine ⟨Only.refl _ _, ?_⟩
    refine runJ ?_
    (apply (s_storeF (mulm x y q)); exact rfl; exact rfl; exact rfl; exact rfl; exact rfl; exact o2; exact rfl; (first | assumption | omega))
    intro h3 o3 k3
    refine ⟨(by first | exact k3 | exact trivial | exact Ext.refl _ | assumption | exact Ext.trans (by assumption) (by assumption)), ?_⟩
    have e3 := o2.old k3 e2 (Nat.le_refl _)
    refine runJ ?_
    apply again_normal (j + 1, ys.set j (mulm x y q))
    · exact (Sub.cons rfl (Sub.cons rfl (Sub.cons rfl (Sub.cons rfl (Sub.cons rfl (Sub.cons rfl (Sub.nil _)))))))
    · refine ⟨e3, by dsimp only; omega, o3, by simp [j2], fun k y' hk hy' => ?_⟩
      dsimp only at hk hy'
      rw [List.getElem?_set] at hy'
      by_cases hkj : j = k
      · subst hkj
        rw [if_pos rfl, if_pos (by omega)] at hy'
        cases hy'
        rw [getD_of hxj, hz]
      · rw [if_neg hkj] at hy'
        exact j3 k y' (by omega) hy'
    · dsimp only; omega
  · have hjn : j = n := by omega
    subst hjn
    have hys : ys = twl z q xs := by
      refine list_eq (by unfold twl; simp; omega) fun k a b ha hb => ?_
      have hk := (List.getElem?_eq_some_iff.1 ha).1
      rw [j3 k a (by omega) ha]
      unfold twl at hb
      rw [List.getElem?_map, List.getElem?_range (by omega)] at hb
      exact Option.some.inj hb
    subst hys
    refine runJ ?_
    exact fin1 rfl rfl ⟨e2, o2⟩
end Go.Proofs.YtfgfmempmkjlnaaDoor
