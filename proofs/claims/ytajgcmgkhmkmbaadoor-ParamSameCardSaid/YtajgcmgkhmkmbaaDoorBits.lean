/- Go's math/bits as contracts of the own calculus: Mul64, LeadingZeros64, Add64, and Div64 walked. No condition. -/
import Derived.Test.YtajgcmgkhmkmbaaDoorDenC
import Derived.Test.YtajgcmgkhmkmbaaDoorShelf
import Derived.Test.YtajgcmgkhmkmbaaDoorNum
namespace Go.Proofs.YtajgcmgkhmkmbaaDoor
set_option linter.unusedVariables false
set_option maxRecDepth 8000
open Go Go.Den Go.RowKit

theorem mixed : Tryd.prog.follows .mixedOrders = true := by kernel_rfl

theorem callsH_same {P : Program} {f : FuncId} {args : List Value} {h : Hp} {u : Value} (c : ∀ w, Calls P f args.toArray w fun e w' => e = .returned u ∧ w' = w) : CallsH P f args h fun v h' => v = u ∧ h = h' :=
  fun w hw => (c w).mono fun _ _ ⟨he, hw'⟩ => ⟨u, he, ⟨rfl, by rw [hw', hw]⟩, by rw [hw']; exact Oth.refl w⟩

theorem add64_run (x y c : Nat) (hc : c ≤ 1) (hx : x < 18446744073709551616) (hy : y < 18446744073709551616) (w : World) :
    (callFunc 79 #[U x, U y, U c]).run Tryd.prog w =
      .ok (.value (.tuple [U ((x + y + c) % 18446744073709551616), U ((x + y + c) / 18446744073709551616)].toArray)) w := by
  rw [run_callFunc_extern Tryd.func79 (by kernel_rfl) (by kernel_rfl) (by kernel_rfl) (e := add64Entry) (by kernel_rfl), run_add64 x y c (by omega) (by omega) (by omega) (by omega)]
  simp only [Result.andThen]
  congr 5 <;> omega

theorem Tryd_ent82 : Ent Tryd.prog 82 := ent_of Tryd.func82 (by kernel_rfl) rfl
theorem mul64_spec (x y : Nat) (h : Hp) (hx : x < 18446744073709551616) (hy : y < 18446744073709551616) :
    CallsH Tryd.prog 82 [U x, U y] h fun v h' => v = .tuple [U (x * y / 18446744073709551616), U (x * y % 18446744073709551616)].toArray ∧ h = h' :=
  callsH_same fun w => Tryd.bits_Mul64 x y hx hy w

theorem Tryd_ent72 : Ent Tryd.prog 72 := ent_of Tryd.func72 (by kernel_rfl) rfl
theorem lz64_spec (x : Nat) (h : Hp) (hx : x < 18446744073709551616) :
    CallsH Tryd.prog 72 [U x] h fun v h' => v = I (64 - (Lib.bitLen x : Int)) ∧ h = h' :=
  callsH_same fun w => Tryd.bits_LeadingZeros64 x w (by omega) (by omega)

theorem bitLen_one : Lib.bitLen 1 = 1 := by decide +kernel
theorem bitLen_spec : ∀ (k x : Nat), x < 2 ^ k → k ≤ 64 → x ≠ 0 → 1 ≤ Lib.bitLen x ∧ Lib.bitLen x ≤ 64 ∧ 2 ^ (Lib.bitLen x - 1) ≤ x ∧ x < 2 ^ Lib.bitLen x
  | 0, x, h, _, h0 => by simp at h; omega
  | k + 1, x, h, hk, h0 => by
    have h64 : x < 2 ^ 64 := Nat.lt_of_lt_of_le h (Nat.pow_le_pow_right (by omega) hk)
    have e := Lib.bitLen_half x h0 h64
    by_cases h1 : x = 1
    · subst h1; rw [bitLen_one]; decide
    · have hx2 : x / 2 < 2 ^ k := by rw [Nat.pow_succ] at h; omega
      obtain ⟨g1, g2, g3, g4⟩ := bitLen_spec k (x / 2) hx2 (by omega) (by omega)
      have hle := Lib.bitLen_le x 64 (by omega) h64
      rw [e] at hle ⊢
      refine ⟨by omega, hle, ?_, ?_⟩
      · rw [show 1 + Lib.bitLen (x / 2) - 1 = (Lib.bitLen (x / 2) - 1) + 1 by omega, Nat.pow_succ]; omega
      · rw [show 1 + Lib.bitLen (x / 2) = Lib.bitLen (x / 2) + 1 by omega, Nat.pow_succ]; omega

/-- Moved up by its leading noughts a number fills the word. -/
theorem lz_fills (y : Nat) (h0 : y ≠ 0) (h : y < 18446744073709551616) : ∃ s : Nat, 64 - (Lib.bitLen y : Int) = (s : Int) ∧ s < 64 ∧ 9223372036854775808 ≤ y * 2 ^ s ∧ y * 2 ^ s < 18446744073709551616 := by
  obtain ⟨g1, g2, g3, g4⟩ := bitLen_spec 64 y h (by omega) h0
  refine ⟨64 - Lib.bitLen y, by omega, by omega, ?_, ?_⟩
  · have : 2 ^ (Lib.bitLen y - 1) * 2 ^ (64 - Lib.bitLen y) ≤ y * 2 ^ (64 - Lib.bitLen y) := Nat.mul_le_mul_right _ g3
    rw [← Nat.pow_add, show Lib.bitLen y - 1 + (64 - Lib.bitLen y) = 63 by omega] at this
    exact this
  · have : y * 2 ^ (64 - Lib.bitLen y) < 2 ^ Lib.bitLen y * 2 ^ (64 - Lib.bitLen y) := Nat.mul_lt_mul_of_pos_right g4 (Nat.pow_pos (by omega))
    rw [← Nat.pow_add, show Lib.bitLen y + (64 - Lib.bitLen y) = 64 by omega] at this
    exact this

theorem Tryd_ent86 : Ent Tryd.prog 86 := ent_of Tryd.func86 (by kernel_rfl) rfl
set_option maxHeartbeats 1000000 in
theorem div64_spec (hi lo y : Nat) (h : Hp) (hhi : hi < y) (hlo : lo < 18446744073709551616) (hy : y < 18446744073709551616) :
    CallsH Tryd.prog 86 [U hi, U lo, U y] h fun v h' => v = .tuple [U ((hi * 18446744073709551616 + lo) / y), U ((hi * 18446744073709551616 + lo) % y)].toArray ∧ h = h' := by
  (apply enter Tryd.func86 rfl Tryd.ntmps86 rfl)
  refine run ?_
  (apply w_condF; exact rfl; exact rfl; exact (by omega))
  refine run ?_
  (apply w_condF; exact rfl; exact rfl; exact (by omega))
  refine run ?_
  (apply w_condD; exact rfl; exact rfl) <;> intro hz
  · refine run ?_
    exact fin2 rfl rfl rfl ⟨by rw [hz]; simp, rfl⟩
  · refine run ?_
    obtain ⟨s, hs, hs64, hlo63, hhi64⟩ := lz_fills y (by omega) hy
    apply (s_call Tryd_ent72 rfl rfl rfl)
    refine (lz64_spec y h hy).mono ?_
    rintro _ _ ⟨rfl, rfl⟩
    refine ⟨trivial, ?_⟩
    rw [hs]
    have hhis : hi * 2 ^ s < 18446744073709551616 := Nat.lt_of_le_of_lt (Nat.mul_le_mul_right _ (Nat.le_of_lt hhi)) hhi64
    have hpow : 0 < 2 ^ s := Nat.pow_pos (by omega)
    have hlos : lo / 2 ^ (64 - s) < 2 ^ s := by
      rw [Nat.div_lt_iff_lt_mul (Nat.pow_pos (by omega)), ← Nat.pow_add, show s + (64 - s) = 64 by omega]; exact hlo
    have hlow : lo / 2 ^ (64 - s) < 18446744073709551616 := Nat.lt_of_le_of_lt (Nat.div_le_self _ _) hlo
    have hor : hi * 2 ^ s ||| lo / 2 ^ (64 - s) = hi * 2 ^ s + lo / 2 ^ (64 - s) := Num.or_add hlos
    have hparts := Num.shift_parts (hi := hi) (lo := lo) (s := s) (by omega) hlo
    have hult : hi * 2 ^ s + lo / 2 ^ (64 - s) < y * 2 ^ s := by
      have : (hi + 1) * 2 ^ s ≤ y * 2 ^ s := Nat.mul_le_mul_right _ hhi
      rw [Nat.add_mul] at this; omega
    clear hs
    refine run ?_
    rw [hor]
    obtain ⟨hsd, hsm⟩ := Num.shift_div (N := hi * 18446744073709551616 + lo) (y := y) (s := s) (by omega)
    rw [hparts] at hsd hsm
    rw [← hsd, ← hsm]
    have hy0 : y * 2 ^ s &&& 4294967295 = y * 2 ^ s % 4294967296 := Num.and32 _
    have hd0 : lo * 2 ^ s % 18446744073709551616 &&& 4294967295 = lo * 2 ^ s % 18446744073709551616 % 4294967296 := Num.and32 _
    rw [hy0, hd0]
    have hel : lo * 2 ^ s % 18446744073709551616 < 18446744073709551616 := Num.modW _
    clear hy0 hd0 hsd hsm hparts hor hhis hlos hlow
    generalize lo * 2 ^ s % 18446744073709551616 = e at *
    generalize hi * 2 ^ s + lo / 2 ^ (64 - s) = u at *
    generalize y * 2 ^ s = Y at *
    simp only [show (2 : Nat) ^ 32 = 4294967296 from rfl]
    have hYd := Nat.div_add_mod Y 4294967296
    have hed := Nat.div_add_mod e 4294967296
    have hy0B : Y % 4294967296 < 4294967296 := Nat.mod_lt _ (by omega)
    have hd0B : e % 4294967296 < 4294967296 := Nat.mod_lt _ (by omega)
    have hy1a : 2147483648 ≤ Y / 4294967296 := by omega
    have hy1b : Y / 4294967296 < 4294967296 := by omega
    have hd1B : e / 4294967296 < 4294967296 := by omega
    have hYd' : Y / 4294967296 * 4294967296 + Y % 4294967296 = Y := by rw [Nat.mul_comm]; exact hYd
    have hed' : e / 4294967296 * 4294967296 + e % 4294967296 = e := by rw [Nat.mul_comm]; exact hed
    clear hYd hed
    generalize Y / 4294967296 = y1 at *
    generalize Y % 4294967296 = y0 at *
    generalize e / 4294967296 = d1 at *
    generalize e % 4294967296 = d0 at *
    have hqm : u / y1 * y1 ≤ u := Nat.div_mul_le_self _ _
    have hqm' : u / y1 * y1 < 18446744073709551616 := by omega
    have hqB : (u * 4294967296 + d1) / Y < 4294967296 := Num.digit_lt hd1B hult
    have hgle : u / y1 ≤ 4294967296 + 1 := Num.guess_le hYd' (by omega) hy0B hult (by omega)
    have hgge : (u * 4294967296 + d1) / Y ≤ u / y1 := Num.guess_ge hYd' hd1B (by omega)
    have hrem : u - u / y1 * y1 < 4294967296 := by
      have := Nat.div_add_mod u y1
      have h2 : u % y1 < y1 := Nat.mod_lt _ (by omega)
      rw [Nat.mul_comm] at this; omega
    refine run ?_
    apply (w_cut (σ := Nat × Nat) rfl (fun p => [(2, U Y), (8, U s), (9, U y1), (10, U y0), (11, U u), (13, U d1), (14, U d0), (15, U p.1)]) (fun p h' => h = h' ∧ p.1 = (u * 4294967296 + d1) / Y ∧ p.2 = (u * 4294967296 + d1) % Y))
    · apply w_block; exact rfl
      apply (w_loop (σ := Nat × Nat) rfl (fun p => [(2, U Y), (8, U s), (9, U y1), (10, U y0), (11, U u), (13, U d1), (14, U d0), (15, U p.1), (16, U p.2)])
        (fun p h' => h = h' ∧ p.1 * y1 + p.2 = u ∧ (u * 4294967296 + d1) / Y ≤ p.1 ∧ p.1 ≤ 4294967296 + 1 ∧ p.2 < 4294967296) (fun p => p.1) (u / y1, u - u / y1 * y1))
      · exact (Sub.cons rfl (Sub.cons rfl (Sub.cons rfl (Sub.cons rfl (Sub.cons rfl (Sub.cons rfl (Sub.cons rfl (Sub.cons rfl (Sub.cons rfl (Sub.nil _))))))))))
      · exact ⟨rfl, by simp only []; omega, hgge, hgle, hrem⟩
      · rintro ⟨q, r⟩ h' ⟨rfl, i1, i2, i3, i4⟩
        dsimp only at i1 i2 i3 i4 ⊢
        have hqy : q * y0 < 18446744073709551616 := Num.mulB i3 hy0B
        refine run ?_
        (apply s_split 69; exact rfl) <;> intro hc
        · have hq1 : 1 ≤ q := by omega
          refine run ?_
          (apply w_condD; exact rfl; exact rfl) <;> intro hb
          · refine run ?_
            apply cut_normal ((u * 4294967296 + d1) / Y, (u * 4294967296 + d1) % Y)
            · exact (Sub.cons rfl (Sub.cons rfl (Sub.cons rfl (Sub.cons rfl (Sub.cons rfl (Sub.cons rfl (Sub.cons rfl (Sub.consE rfl (by rw [← Num.digit_eq' hYd' hy0B (q := q - 1) (r := r + y1) (by rw [← i1, Nat.sub_mul]; have := Nat.mul_le_mul_right y1 hq1; omega) (by omega) hb (by omega) (by omega)]) (Sub.nil _)))))))))
            · exact ⟨rfl, rfl, rfl⟩
          · refine run ?_
            apply again_normal (q - 1, r + y1)
            · exact (Sub.cons rfl (Sub.cons rfl (Sub.cons rfl (Sub.cons rfl (Sub.cons rfl (Sub.cons rfl (Sub.cons rfl (Sub.cons rfl (Sub.cons rfl (Sub.nil _))))))))))
            · exact ⟨rfl, by simp only []; rw [← i1, Nat.sub_mul]; have := Nat.mul_le_mul_right y1 hq1; omega, by simp only []; omega, by simp only []; omega, by simp only []; omega⟩
            · simp only []; omega
        · refine run ?_
          (apply w_condD; exact rfl; exact rfl) <;> intro hd
          · have hqgt := Num.digit_gt hYd' i1 hd (by omega)
            have hq1 : 1 ≤ q := Nat.lt_of_le_of_lt (Nat.zero_le _) hqgt
            refine run ?_
            (apply w_condD; exact rfl; exact rfl) <;> intro hb
            · refine run ?_
              apply cut_normal ((u * 4294967296 + d1) / Y, (u * 4294967296 + d1) % Y)
              · exact (Sub.cons rfl (Sub.cons rfl (Sub.cons rfl (Sub.cons rfl (Sub.cons rfl (Sub.cons rfl (Sub.cons rfl (Sub.consE rfl (by rw [← Num.digit_eq' hYd' hy0B (q := q - 1) (r := r + y1) (by rw [← i1, Nat.sub_mul]; have := Nat.mul_le_mul_right y1 hq1; omega) (by omega) hb (by omega) (by omega)]) (Sub.nil _)))))))))
              · exact ⟨rfl, rfl, rfl⟩
            · refine run ?_
              apply again_normal (q - 1, r + y1)
              · exact (Sub.cons rfl (Sub.cons rfl (Sub.cons rfl (Sub.cons rfl (Sub.cons rfl (Sub.cons rfl (Sub.cons rfl (Sub.cons rfl (Sub.cons rfl (Sub.nil _))))))))))
              · exact ⟨rfl, by simp only []; rw [← i1, Nat.sub_mul]; have := Nat.mul_le_mul_right y1 hq1; omega, by simp only []; omega, by simp only []; omega, by simp only []; omega⟩
              · simp only []; omega
          · refine run ?_
            apply cut_normal ((u * 4294967296 + d1) / Y, (u * 4294967296 + d1) % Y)
            · exact (Sub.cons rfl (Sub.cons rfl (Sub.cons rfl (Sub.cons rfl (Sub.cons rfl (Sub.cons rfl (Sub.cons rfl (Sub.consE rfl (by rw [← Num.digit_eq hYd' hy0B i1 i2 (by omega) (by omega)]) (Sub.nil _)))))))))
            · exact ⟨rfl, rfl, rfl⟩
    · rintro ⟨q1, v⟩ _ ⟨rfl, e1, e2⟩
      dsimp only at e1 e2 ⊢
      rw [← e1] at hqB
      have hvY : v < Y := by rw [e2]; exact Nat.mod_lt _ (by omega)
      have hdm := Num.dm e1 e2
      clear hqm hqm' hgle hgge hrem
      have hw : ((u * 4294967296 % 18446744073709551616 + d1) % 18446744073709551616 + (18446744073709551616 - q1 * Y % 18446744073709551616)) % 18446744073709551616 = v := Num.rest_wrap hdm (Nat.lt_trans hvY hhi64)
      have hm1 : q1 * Y % 18446744073709551616 ≤ 18446744073709551616 := Nat.le_of_lt (Num.modW _)
      refine runS ?_
      (apply s_mulUw; (first | exact isK_c | exact isK_t rfl); (first | exact isK_c | exact isK_t rfl); exact rfl)
      refine runS ?_
      (apply s_addUw; (first | exact isK_c | exact isK_t rfl); (first | exact isK_c | exact isK_t rfl); exact rfl)
      refine runS ?_
      (apply s_mulUw; (first | exact isK_c | exact isK_t rfl); (first | exact isK_c | exact isK_t rfl); exact rfl)
      refine runS ?_
      (apply s_subUw; (first | exact isK_c | exact isK_t rfl); (first | exact isK_c | exact isK_t rfl); exact rfl; omega)
      rw [hw]
      clear hw hm1 hdm
      have hqm : v / y1 * y1 ≤ v := Nat.div_mul_le_self _ _
      have hqm' : v / y1 * y1 < 18446744073709551616 := by omega
      have hqB2 : (v * 4294967296 + d0) / Y < 4294967296 := Num.digit_lt hd0B hvY
      have hgle : v / y1 ≤ 4294967296 + 1 := Num.guess_le hYd' (by omega) hy0B hvY (by omega)
      have hgge : (v * 4294967296 + d0) / Y ≤ v / y1 := Num.guess_ge hYd' hd0B (by omega)
      have hrem : v - v / y1 * y1 < 4294967296 := by
        have := Nat.div_add_mod v y1
        have h2 : v % y1 < y1 := Nat.mod_lt _ (by omega)
        rw [Nat.mul_comm] at this; omega
      refine run ?_
      apply (w_cut (σ := Nat × Nat) rfl (fun p => [(2, U Y), (8, U s), (9, U y1), (10, U y0), (15, U q1), (17, U v), (14, U d0), (18, U p.1)]) (fun p h' => h = h' ∧ p.1 = (v * 4294967296 + d0) / Y ∧ p.2 = (v * 4294967296 + d0) % Y))
      · apply w_block; exact rfl
        apply (w_loop (σ := Nat × Nat) rfl (fun p => [(2, U Y), (8, U s), (9, U y1), (10, U y0), (15, U q1), (17, U v), (14, U d0), (18, U p.1), (16, U p.2)])
          (fun p h' => h = h' ∧ p.1 * y1 + p.2 = v ∧ (v * 4294967296 + d0) / Y ≤ p.1 ∧ p.1 ≤ 4294967296 + 1 ∧ p.2 < 4294967296) (fun p => p.1) (v / y1, v - v / y1 * y1))
        · exact (Sub.cons rfl (Sub.cons rfl (Sub.cons rfl (Sub.cons rfl (Sub.cons rfl (Sub.cons rfl (Sub.cons rfl (Sub.cons rfl (Sub.cons rfl (Sub.nil _))))))))))
        · exact ⟨rfl, by simp only []; omega, hgge, hgle, hrem⟩
        · rintro ⟨q, r⟩ h' ⟨rfl, i1, i2, i3, i4⟩
          dsimp only at i1 i2 i3 i4 ⊢
          have hqy : q * y0 < 18446744073709551616 := Num.mulB i3 hy0B
          refine run ?_
          (apply s_split 104; exact rfl) <;> intro hc
          · have hq1 : 1 ≤ q := by omega
            refine run ?_
            (apply w_condD; exact rfl; exact rfl) <;> intro hb
            · refine run ?_
              apply cut_normal ((v * 4294967296 + d0) / Y, (v * 4294967296 + d0) % Y)
              · exact (Sub.cons rfl (Sub.cons rfl (Sub.cons rfl (Sub.cons rfl (Sub.cons rfl (Sub.cons rfl (Sub.cons rfl (Sub.consE rfl (by rw [← Num.digit_eq' hYd' hy0B (q := q - 1) (r := r + y1) (by rw [← i1, Nat.sub_mul]; have := Nat.mul_le_mul_right y1 hq1; omega) (by omega) hb (by omega) (by omega)]) (Sub.nil _)))))))))
              · exact ⟨rfl, rfl, rfl⟩
            · refine run ?_
              apply again_normal (q - 1, r + y1)
              · exact (Sub.cons rfl (Sub.cons rfl (Sub.cons rfl (Sub.cons rfl (Sub.cons rfl (Sub.cons rfl (Sub.cons rfl (Sub.cons rfl (Sub.cons rfl (Sub.nil _))))))))))
              · exact ⟨rfl, by simp only []; rw [← i1, Nat.sub_mul]; have := Nat.mul_le_mul_right y1 hq1; omega, by simp only []; omega, by simp only []; omega, by simp only []; omega⟩
              · simp only []; omega
          · refine run ?_
            (apply w_condD; exact rfl; exact rfl) <;> intro hd
            · have hqgt := Num.digit_gt hYd' i1 hd (by omega)
              have hq1 : 1 ≤ q := Nat.lt_of_le_of_lt (Nat.zero_le _) hqgt
              refine run ?_
              (apply w_condD; exact rfl; exact rfl) <;> intro hb
              · refine run ?_
                apply cut_normal ((v * 4294967296 + d0) / Y, (v * 4294967296 + d0) % Y)
                · exact (Sub.cons rfl (Sub.cons rfl (Sub.cons rfl (Sub.cons rfl (Sub.cons rfl (Sub.cons rfl (Sub.cons rfl (Sub.consE rfl (by rw [← Num.digit_eq' hYd' hy0B (q := q - 1) (r := r + y1) (by rw [← i1, Nat.sub_mul]; have := Nat.mul_le_mul_right y1 hq1; omega) (by omega) hb (by omega) (by omega)]) (Sub.nil _)))))))))
                · exact ⟨rfl, rfl, rfl⟩
              · refine run ?_
                apply again_normal (q - 1, r + y1)
                · exact (Sub.cons rfl (Sub.cons rfl (Sub.cons rfl (Sub.cons rfl (Sub.cons rfl (Sub.cons rfl (Sub.cons rfl (Sub.cons rfl (Sub.cons rfl (Sub.nil _))))))))))
                · exact ⟨rfl, by simp only []; rw [← i1, Nat.sub_mul]; have := Nat.mul_le_mul_right y1 hq1; omega, by simp only []; omega, by simp only []; omega, by simp only []; omega⟩
                · simp only []; omega
            · refine run ?_
              apply cut_normal ((v * 4294967296 + d0) / Y, (v * 4294967296 + d0) % Y)
              · exact (Sub.cons rfl (Sub.cons rfl (Sub.cons rfl (Sub.cons rfl (Sub.cons rfl (Sub.cons rfl (Sub.cons rfl (Sub.consE rfl (by rw [← Num.digit_eq hYd' hy0B i1 i2 (by omega) (by omega)]) (Sub.nil _)))))))))
              · exact ⟨rfl, rfl, rfl⟩
      · rintro ⟨q0, _⟩ _ ⟨rfl, e3, -⟩
        dsimp only at e3 ⊢
        rw [← e3] at hqB2
        clear hqm hqm' hgle hgge hrem
        obtain ⟨r, e4⟩ : ∃ r, r = (v * 4294967296 + d0) % Y := ⟨_, rfl⟩
        have hrY : r < Y := by rw [e4]; exact Nat.mod_lt _ (by omega)
        have hdm := Num.dm e3 e4
        obtain ⟨f1, f2⟩ := Num.two_end (by omega) hed' e1 e2 e3 e4
        rw [f1, f2]
        have hw : ((v * 4294967296 % 18446744073709551616 + d0) % 18446744073709551616 + (18446744073709551616 - q0 * Y % 18446744073709551616)) % 18446744073709551616 = r := Num.rest_wrap hdm (Nat.lt_trans hrY hhi64)
        have hm1 : q0 * Y % 18446744073709551616 ≤ 18446744073709551616 := Nat.le_of_lt (Num.modW _)
        clear f1 f2 hdm e1 e2 e3 e4
        refine runS ?_
        (apply s_mulU; (first | exact isK_c | exact isK_t rfl); (first | exact isK_c | exact isK_t rfl); exact rfl; omega)
        refine runS ?_
        (apply s_addU; (first | exact isK_c | exact isK_t rfl); (first | exact isK_c | exact isK_t rfl); exact rfl; omega)
        refine runS ?_
        (apply s_mulUw; (first | exact isK_c | exact isK_t rfl); (first | exact isK_c | exact isK_t rfl); exact rfl)
        refine runS ?_
        (apply s_addUw; (first | exact isK_c | exact isK_t rfl); (first | exact isK_c | exact isK_t rfl); exact rfl)
        refine runS ?_
        (apply s_mulUw; (first | exact isK_c | exact isK_t rfl); (first | exact isK_c | exact isK_t rfl); exact rfl)
        refine runS ?_
        (apply s_subUw; (first | exact isK_c | exact isK_t rfl); (first | exact isK_c | exact isK_t rfl); exact rfl; omega)
        rw [hw]
        refine run ?_
        exact fin2 rfl rfl rfl ⟨rfl, rfl⟩
end Go.Proofs.YtajgcmgkhmkmbaaDoor
