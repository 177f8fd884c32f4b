/- Texts DenK to Bits of this work, joined, without what the law does not lean on. -/
import Derived.Test.YtfcmdefigldpnaaGreatDoorMCb5
import Derived.Great.BuildSlice
import Derived.Shelf.Small.Bits
import Derived.Shelf.Strconv.Itoa0
import Derived.Shelf.Bits.Mul64
import Derived.Test.YtfcmdefigldpnaaGreatDoorProg
import Derived.Lib.Mul64
namespace Go.Den
set_option linter.unusedVariables false
set_option maxRecDepth 8000
open Go Go.RowKit

def fillP (place : Nat → Option (Nat × Nat)) : List Value → List (Nat × List Value) → Option (List Value)
  | cells, [] => some cells
  | cells, (i, us) :: rest => match place i with
    | none => none
    | some (off, size) => bif Nat.beq us.length size && Nat.ble (off + us.length) cells.length then fillP place (cells.take off ++ us ++ cells.drop (off + us.length)) rest else none

theorem fill_fillP {place : Nat → Option (Nat × Nat)} : ∀ (parts : List (Nat × Value)) (cells cs : List Value), fillP place cells (parts.map fun x => (x.1, x.2.cells.toList)) = some cs → Instr.fill place cells.toArray parts = some cs.toArray
  | [], cells, cs, e => by simp [fillP] at e; simp [Instr.fill, e]
  | (i, v) :: rest, cells, cs, e => by
    simp only [List.map_cons, fillP] at e
    simp only [Instr.fill]
    cases ho : place i with
    | none => rw [ho] at e; cases e
    | some p =>
      obtain ⟨off, size⟩ := p
      rw [ho] at e
      simp only at e
      cases hb : (Nat.beq v.cells.toList.length size && Nat.ble (off + v.cells.toList.length) cells.length) with
      | false => rw [hb] at e; cases e
      | true =>
        rw [hb] at e
        simp only [cond_true] at e
        simp only [Bool.and_eq_true] at hb
        have h1 := Nat.eq_of_beq_eq_true hb.1
        have h2 := Nat.le_of_ble_eq_true hb.2
        simp only [Array.length_toList] at h1 h2
        have h3 : ¬ (v.cells.size ≠ size ∨ off + v.cells.size > cells.toArray.size) := by simp [h1] at h2 ⊢; omega
        simp only [decide_eq_true_eq, Bool.or_eq_true, h3, if_false]
        have hf := fold_set v.cells.toList off 0 cells (by simpa using h2)
        simp only [Nat.add_zero, Array.length_toList] at hf
        have hz : v.cells.zipIdx = (v.cells.toList.zipIdx 0).toArray := by apply Array.ext'; simp
        have hfold : Array.foldl (fun cs x => cs.setIfInBounds (off + x.snd) x.fst) cells.toArray v.cells.zipIdx = (cells.take off ++ v.cells.toList ++ cells.drop (off + v.cells.size)).toArray := by
          apply Array.ext'
          rw [hz, List.foldl_toArray]
          exact hf
        rw [hfold]
        exact fill_fillP rest _ _ (by simpa using e)

section rules
variable {P : Program} {n : Nat} {Q : Post} {l : Fr} {h : Hp} {ops : List Oper} {Ch : Hp → Prop} {E : Nat → Bool} {i : Nat}
variable {d : Nat} {t : TypeId} {x y z : Operand}

theorem s_litC {ln s : Nat} {parts : Array (Nat × Operand)} {vs : List Value} {css : List (List Value)} {e : TypeId} {zc : List Value} (cs : List Value) (he : evs l (parts.toList.map (·.2)) = some vs) (hc : CellsAll vs css)
    (ht : P.underlying t = some (.slice e)) (hi : (P.info? e).map (fun i => (i.size, i.zero.map fun z => z.cells.toList)) = some (s, some zc)) (hs : Nat.beq zc.length s = true) (hs0 : Nat.blt 0 s = true) (h0 : Nat.blt 0 ln = true) (hln : Nat.ble (ln * s) 16777216 = true)
    (hf : fillP (fun i => some (i * s, s)) ((List.range (ln * s)).map fun j => zc.getD (j % s) undef) ((parts.toList.map (·.1)).zip css) = some cs) (hcl : Nat.beq cs.length (ln * s) = true) (hE : E i = true) (hb : Nat.blt d n = true)
    (k : ∀ v h', Own h' h.size e s v ln cs → Ext h h' → v.ownBlock = some h.size → Ch h' ∧ S P n ops Ch E Q (i + 1) ((d, v) :: l) h') : O P n ops Ch E Q i d (.buildSlice t ln parts) l h :=
  O.mk fun hop hg => s_eff hop hE hg fun a w hfit hw => by
    subst hw
    have hs := Nat.eq_of_beq_eq_true hs
    have hcl := Nat.eq_of_beq_eq_true hcl
    have hs0 : 0 < s := Nat.le_of_ble_eq_true hs0
    have h0 : 0 < ln := Nat.le_of_ble_eq_true h0
    have hln := Nat.le_of_ble_eq_true hln
    cases hq : P.info? e with
    | none => rw [hq] at hi; cases hi
    | some inf =>
      rw [hq] at hi
      simp only [Option.map_some, Option.some.injEq, Prod.mk.injEq] at hi
      obtain ⟨i1, i3⟩ := hi
      cases hz : inf.zero with
      | none => rw [hz] at i3; cases i3
      | some z =>
        rw [hz] at i3
        simp only [Option.map_some, Option.some.injEq] at i3
        have hzs : z.cells.size = s := by rw [← hs, ← i3]; simp
        have hpa : (parts.map fun (i, x) => (i, a.eval x)).toList = (parts.toList.map (·.1)).zip vs := by
          rw [← hfit.evs he, Array.toList_map, List.map_map, List.zip_map']; rfl
        have hzip : ((parts.toList.map (·.1)).zip vs).map (fun x => (x.1, x.2.cells.toList)) = (parts.toList.map (·.1)).zip css := by
          rw [← hc.eq, List.zip_map_right]; rfl
        have hmade : ((Array.range (ln * inf.size)).map (z.cells[· % z.cells.size]!)) = ((List.range (ln * s)).map fun j => zc.getD (j % s) undef).toArray := by
          apply Array.ext'
          rw [i1]
          simp only [Array.toList_map, Array.toList_range]
          apply List.map_congr_left
          intro j hj
          have hj1 : j % s < s := Nat.mod_lt _ hs0
          rw [hzs, getElem!_pos z.cells (j % s) (by omega), ← i3, List.getD_eq_getElem?_getD, List.getElem?_eq_getElem (by simp; omega)]
          simp
        have hr := Go.run_buildSlice (P := P) w t e ln (parts.map fun (i, x) => (i, a.eval x)) cs.toArray inf z ht hq hz (by rw [i1]; omega) (by rw [i1]; exact Nat.ne_of_gt (Nat.mul_pos h0 hs0)) (by
          rw [hmade, i1, hpa]
          exact fill_fillP _ _ _ (by rw [hzip]; exact hf))
        have ho : Own (w.alloc (.cells cs.toArray e)).heap w.heap.size e s (.slice (some ⟨w.heap.size, 0, none⟩) ln ln) ln cs :=
          ⟨hcl, .inr ⟨w.heap.size, ln, _, rfl, Nat.le_refl _, heap_alloc_new w _, Nat.le_refl _, by
            have : ln ≤ ln * s := Nat.le_mul_of_pos_right _ hs0
            simp [maxLen]; omega, by simp [hcl], by rw [← hcl]; simp⟩⟩
        have := k _ _ ho (Ext.push _ _) rfl
        unfold Eff
        simp only [execOp, Sem.run_bind, hr]
        exact ⟨⟨rfl, rfl, rfl⟩, this.1, _, hfit.put d _ hb, this.2⟩
end rules
theorem look_know {l : Fr} {t : Nat} {v : Value} (e : look l t = some v) (j : Nat) : look ((t, v) :: l) j = look l j := by
  simp only [look]
  cases hj : Nat.beq j t with
  | true => have := Nat.eq_of_beq_eq_true hj; subst this; exact e.symm
  | false => rfl
section rules
variable {P : Program} {n : Nat} {Q : Post} {l : Fr} {h : Hp} {ops : List Oper} {Ch : Hp → Prop} {E : Nat → Bool} {i : Nat}
variable {d : Nat} {t : TypeId} {x y z : Operand}
theorem o_know {op : Op} {t : Nat} {v u : Value} (e : look l t = some v) (hu : v = u) (k : O P n ops Ch E Q i d op ((t, u) :: l) h) : O P n ops Ch E Q i d op l h := by
  subst hu
  refine O.mk fun ho hg => s_know e rfl (k.get ho ?_)
  unfold gd at hg ⊢
  split at hg
  · rfl
  · simp only [look_know e]
    exact hg
theorem s_indexArr {p : Value} {j m : Nat} {e : TypeId} {yk : IntKind} (hx : ev l x = some p) (hp : isPtr p = true) (hy : IsK (ev l y) yk j) (ht : P.underlying t = some (.array m e)) (hz : (P.info? e).map (·.size) = some 1) (hb : Nat.blt d n = true) (hj : j < m)
    (k : S P n ops Ch E Q (i + 1) ((d, ptrOff p j) :: l) h) : O P n ops Ch E Q i d (.indexAddr t x y) l h :=
  s_pure hb (fun a w' hf => by
    cases p <;> try cases hp
    rename_i ad
    cases ad with
    | none => cases hp
    | some ad =>
      cases hi : P.info? e with
      | none => rw [hi] at hz; cases hz
      | some inf =>
        rw [hi] at hz
        simp only [Option.map_some, Option.some.injEq] at hz
        have hj' : (j : Int) < m := by omega
        simp [execOp, hf.ev hx, hf.ev hy.h, Instr.indexAt, run_underlying ht, asIntOf, Instr.sureAddr, sizeOf, typeInfo, hi, hz, hj, ptrOff]) k
end rules
end Go.Den


namespace Go.Proofs
open Go.Shelf
def Tryz.lays125_ren : Go.Shelf.Ren := ⟨fun | 125 => 202 | 128 => 207 | 129 => 186 | n => n, fun | 46 => 82 | 3 => 3 | 51 => 238 | 53 => 26 | 4 => 4 | 5 => 5 | 9 => 9 | n => n, fun | n => n⟩
theorem Tryz.lays125 : Go.Proofs.Lays.n125 Tryz.prog Tryz.lays125_ren := {
  mixed := by kernel_rfl
  f125 := Tryz.func202.trans (congrArg some (by kernel_rfl))
  f128 := Tryz.func207.trans (congrArg some (by kernel_rfl))
  f129 := Tryz.func186.trans (congrArg some (by kernel_rfl))
  t3 := Tryz.underlying3
  a3 := Tryz.isAgg3
  z3 := Tryz.sizeOf3
  v3 := Tryz.zeroValue3
  t4 := Tryz.underlying4
  a4 := Tryz.isAgg4
  z4 := Tryz.sizeOf4
  v4 := Tryz.zeroValue4
  t5 := Tryz.underlying5
  a5 := Tryz.isAgg5
  z5 := Tryz.sizeOf5
  v5 := Tryz.zeroValue5
  t9 := Tryz.underlying9
  a9 := Tryz.isAgg9
  z9 := Tryz.sizeOf9
  v9 := Tryz.zeroValue9
  t46 := Tryz.underlying82
  a46 := Tryz.isAgg82
  z46 := Tryz.sizeOf82
  v46 := Tryz.zeroValue82
  t51 := Tryz.underlying238
  a51 := Tryz.isAgg238
  z51 := Tryz.sizeOf238
  v51 := Tryz.zeroValue238
  t53 := Tryz.underlying26
  a53 := Tryz.isAgg26
  z53 := Tryz.sizeOf26
  v53 := Tryz.zeroValue26 }
theorem Tryz.bits_Len (x : Int) (w : World) (h0 : 0 ≤ x) (h1 : x ≤ 18446744073709551615) :
    Calls Tryz.prog 202 #[.int .u64 x] w fun e w' => e = .returned (.int .i64 (Lib.bitLen x.toNat)) ∧ w' = w := Any.bits_Len Tryz.lays125 x w h0 h1
def Tryz.lays134_ren : Go.Shelf.Ren := ⟨fun | 134 => 165 | 129 => 186 | n => n, fun | 53 => 26 | 3 => 3 | 4 => 4 | 46 => 82 | 5 => 5 | 9 => 9 | n => n, fun | n => n⟩
theorem Tryz.lays134 : Go.Proofs.Lays.n134 Tryz.prog Tryz.lays134_ren := {
  mixed := by kernel_rfl
  f129 := Tryz.func186.trans (congrArg some (by kernel_rfl))
  f134 := Tryz.func165.trans (congrArg some (by kernel_rfl))
  t3 := Tryz.underlying3
  a3 := Tryz.isAgg3
  z3 := Tryz.sizeOf3
  v3 := Tryz.zeroValue3
  t4 := Tryz.underlying4
  a4 := Tryz.isAgg4
  z4 := Tryz.sizeOf4
  v4 := Tryz.zeroValue4
  t5 := Tryz.underlying5
  a5 := Tryz.isAgg5
  z5 := Tryz.sizeOf5
  v5 := Tryz.zeroValue5
  t9 := Tryz.underlying9
  a9 := Tryz.isAgg9
  z9 := Tryz.sizeOf9
  v9 := Tryz.zeroValue9
  t46 := Tryz.underlying82
  a46 := Tryz.isAgg82
  z46 := Tryz.sizeOf82
  v46 := Tryz.zeroValue82
  t53 := Tryz.underlying26
  a53 := Tryz.isAgg26
  z53 := Tryz.sizeOf26
  v53 := Tryz.zeroValue26 }
theorem Tryz.bits_LeadingZeros64 (x : Int) (w : World) (h0 : 0 ≤ x) (h1 : x ≤ 18446744073709551615) :
    Calls Tryz.prog 165 #[.int .u64 x] w fun e w' => e = .returned (.int .i64 (64 - (Lib.bitLen x.toNat : Int))) ∧ w' = w := Any.bits_LeadingZeros64 Tryz.lays134 x w h0 h1
def Tryz.lays129_ren : Go.Shelf.Ren := ⟨fun | 129 => 186 | n => n, fun | 53 => 26 | 3 => 3 | 4 => 4 | 46 => 82 | 5 => 5 | 9 => 9 | n => n, fun | n => n⟩
theorem Tryz.lays129 : Go.Proofs.Lays.n129 Tryz.prog Tryz.lays129_ren := {
  mixed := by kernel_rfl
  f129 := Tryz.func186.trans (congrArg some (by kernel_rfl))
  t3 := Tryz.underlying3
  a3 := Tryz.isAgg3
  z3 := Tryz.sizeOf3
  v3 := Tryz.zeroValue3
  t4 := Tryz.underlying4
  a4 := Tryz.isAgg4
  z4 := Tryz.sizeOf4
  v4 := Tryz.zeroValue4
  t5 := Tryz.underlying5
  a5 := Tryz.isAgg5
  z5 := Tryz.sizeOf5
  v5 := Tryz.zeroValue5
  t9 := Tryz.underlying9
  a9 := Tryz.isAgg9
  z9 := Tryz.sizeOf9
  v9 := Tryz.zeroValue9
  t46 := Tryz.underlying82
  a46 := Tryz.isAgg82
  z46 := Tryz.sizeOf82
  v46 := Tryz.zeroValue82
  t53 := Tryz.underlying26
  a53 := Tryz.isAgg26
  z53 := Tryz.sizeOf26
  v53 := Tryz.zeroValue26 }
theorem Tryz.bits_Len64 (x : Int) (w : World) (h0 : 0 ≤ x) (h1 : x ≤ 18446744073709551615) :
    Calls Tryz.prog 186 #[.int .u64 x] w fun e w' => e = .returned (.int .i64 (Lib.bitLen x.toNat)) ∧ w' = w := Any.bits_Len64 Tryz.lays129 x w h0 h1
def Tryz.lays264_ren : Go.Shelf.Ren := ⟨fun | 264 => 164 | n => n, fun | 53 => 26 | 46 => 82 | n => n, fun | n => n⟩
theorem Tryz.lays264 : Go.Proofs.Lays.n264 Tryz.prog Tryz.lays264_ren := {
  mixed := by kernel_rfl
  f264 := Tryz.func164.trans (congrArg some (by kernel_rfl))
  t46 := Tryz.underlying82
  a46 := Tryz.isAgg82
  z46 := Tryz.sizeOf82
  v46 := Tryz.zeroValue82
  t53 := Tryz.underlying26
  a53 := Tryz.isAgg26
  z53 := Tryz.sizeOf26
  v53 := Tryz.zeroValue26 }
open Go.RowKit Go.Lib in
theorem Tryz.bits_Mul64 (x y : Nat) (hx : x < 18446744073709551616) (hy : y < 18446744073709551616) (w : World) :
    Calls Tryz.prog 164 #[.int .u64 x, .int .u64 y] w fun e w' => e = .returned (.tuple #[.int .u64 ((x * y / 18446744073709551616 : Nat) : Int), .int .u64 ((x * y % 18446744073709551616 : Nat) : Int)]) ∧ w' = w := Any.bits_Mul64 Tryz.lays264 x y hx hy w
end Go.Proofs


namespace Go.Num
set_option linter.unusedVariables false
set_option maxRecDepth 8000

theorem modW (x : Nat) : x % 18446744073709551616 < 18446744073709551616 := Nat.mod_lt _ (by decide)
theorem mulB {q y : Nat} (hq : q ≤ 4294967296 + 1) (hy : y < 4294967296) : q * y < 18446744073709551616 := by
  have : q * y ≤ (4294967296 + 1) * 4294967295 := Nat.mul_le_mul hq (by omega)
  omega

theorem and32 (a : Nat) : a &&& 4294967295 = a % 4294967296 := Nat.and_two_pow_sub_one_eq_mod a 32

theorem rest_wrap {A M d r : Nat} (h : A + d = M + r) (hr : r < 18446744073709551616) :
    ((A % 18446744073709551616 + d) % 18446744073709551616 + (18446744073709551616 - M % 18446744073709551616)) % 18446744073709551616 = r := by omega

theorem digit_eq {B y1 y0 u d q r Y : Nat} (hY : y1 * B + y0 = Y) (hy0 : y0 < B) (hq : q * y1 + r = u) (hge : (u * B + d) / Y ≤ q) (hle : q * y0 ≤ B * r + d) (hpos : 0 < Y) : q = (u * B + d) / Y := by
  subst hY
  refine Nat.le_antisymm ?_ hge
  rw [Nat.le_div_iff_mul_le hpos]
  have h1 : q * (y1 * B + y0) = q * y1 * B + q * y0 := by rw [Nat.mul_add, Nat.mul_assoc]
  have h2 : u * B = q * y1 * B + r * B := by rw [← hq, Nat.add_mul]
  have h3 : B * r = r * B := Nat.mul_comm _ _
  omega

theorem digit_eq' {B y1 y0 u d q r Y : Nat} (hY : y1 * B + y0 = Y) (hy0 : y0 < B) (hq : q * y1 + r = u) (hge : (u * B + d) / Y ≤ q) (hr : B ≤ r) (hqB : q ≤ B) (hpos : 0 < Y) : q = (u * B + d) / Y := by
  subst hY
  refine digit_eq rfl hy0 hq hge ?_ hpos
  have h1 : q * y0 ≤ B * r := Nat.mul_le_mul hqB (by omega)
  omega

theorem digit_gt {B y1 y0 u d q r Y : Nat} (hY : y1 * B + y0 = Y) (hq : q * y1 + r = u) (hlt : B * r + d < q * y0) (hpos : 0 < Y) : (u * B + d) / Y < q := by
  subst hY
  rw [Nat.div_lt_iff_lt_mul hpos]
  have h1 : q * (y1 * B + y0) = q * y1 * B + q * y0 := by rw [Nat.mul_add, Nat.mul_assoc]
  have h2 : u * B = q * y1 * B + r * B := by rw [← hq, Nat.add_mul]
  have h3 : B * r = r * B := Nat.mul_comm _ _
  omega

theorem digit_lt {B y u d : Nat} (hd : d < B) (hu : u < y) : (u * B + d) / y < B := by
  rw [Nat.div_lt_iff_lt_mul (by omega)]
  have h1 : (u + 1) * B ≤ y * B := Nat.mul_le_mul_right _ hu
  rw [Nat.add_mul] at h1
  have : B * y = y * B := Nat.mul_comm _ _
  omega

theorem guess_le {B y1 y0 u Y : Nat} (hY : y1 * B + y0 = Y) (hy : B ≤ 2 * y1) (hy0 : y0 < B) (hu : u < Y) (h1 : 0 < y1) : u / y1 ≤ B + 1 := by
  subst hY
  rw [Nat.div_le_iff_le_mul_add_pred h1]
  have : y1 * (B + 1) = y1 * B + y1 := by rw [Nat.mul_add, Nat.mul_one]
  omega
theorem guess_ge {B y1 y0 u d Y : Nat} (hY : y1 * B + y0 = Y) (hd : d < B) (h1 : 0 < y1) : (u * B + d) / Y ≤ u / y1 := by
  subst hY
  have hb : 0 < B := by omega
  have hp : 0 < y1 * B := Nat.mul_pos h1 hb
  have e1 : (u * B + d) / (y1 * B + y0) ≤ (u * B + d) / (y1 * B) := Nat.div_le_div_left (by omega) hp
  have e2 : (u * B + d) / (y1 * B) = u / y1 := by
    rw [Nat.mul_comm y1 B, ← Nat.div_div_eq_div_mul]
    congr 1
    rw [Nat.mul_comm u B, Nat.mul_add_div hb, Nat.div_eq_of_lt hd, Nat.add_zero]
  omega

theorem or_add {a b s : Nat} (h : b < 2 ^ s) : (a * 2 ^ s) ||| b = a * 2 ^ s + b := by
  have := Nat.shiftLeft_add_eq_or_of_lt h a
  rw [Nat.shiftLeft_eq] at this
  exact this.symm

theorem two_digits {B y u d1 d0 : Nat} (hy : 0 < y) (hB : 0 < B) : ((u * B + d1) * B + d0) / y = (u * B + d1) / y * B + ((u * B + d1) % y * B + d0) / y ∧ ((u * B + d1) * B + d0) % y = ((u * B + d1) % y * B + d0) % y := by
  generalize hN : u * B + d1 = N
  have h := Nat.div_add_mod N y
  have e : N * B + d0 = y * (N / y * B) + (N % y * B + d0) := by
    have h2 : N * B = (y * (N / y) + N % y) * B := by rw [h]
    rw [h2, Nat.add_mul, Nat.mul_assoc, Nat.add_assoc]
  constructor
  · rw [e, Nat.mul_add_div hy]
  · rw [e, Nat.mul_add_mod]

theorem two_end {y u d1 d0 e q1 v q0 r : Nat} (hy : 0 < y) (he : d1 * 4294967296 + d0 = e) (h1 : q1 = (u * 4294967296 + d1) / y) (h2 : v = (u * 4294967296 + d1) % y)
    (h3 : q0 = (v * 4294967296 + d0) / y) (h4 : r = (v * 4294967296 + d0) % y) : (u * 18446744073709551616 + e) / y = q1 * 4294967296 + q0 ∧ (u * 18446744073709551616 + e) % y = r := by
  obtain ⟨t1, t2⟩ := two_digits (y := y) (B := 4294967296) (u := u) (d1 := d1) (d0 := d0) hy (by omega)
  have hN : (u * 4294967296 + d1) * 4294967296 + d0 = u * 18446744073709551616 + e := by
    subst he; rw [Nat.add_mul, Nat.mul_assoc, Nat.add_assoc]
  rw [hN] at t1 t2
  rw [t1, t2, h3, h4, h1, h2]
  exact ⟨rfl, rfl⟩
theorem dm {n y q r : Nat} (h1 : q = n / y) (h2 : r = n % y) : n = q * y + r := by
  rw [h1, h2, Nat.mul_comm]; exact (Nat.div_add_mod n y).symm

theorem shift_div {N y s : Nat} (hy : 0 < y) : (N * 2 ^ s) / (y * 2 ^ s) = N / y ∧ (N * 2 ^ s) % (y * 2 ^ s) / 2 ^ s = N % y := by
  have hp : 0 < 2 ^ s := Nat.pow_pos (by omega)
  constructor
  · exact Nat.mul_div_mul_right _ _ hp
  · rw [Nat.mul_mod_mul_right, Nat.mul_div_cancel _ hp]

theorem shift_parts {hi lo s : Nat} (hs : s ≤ 64) (hlo : lo < 18446744073709551616) :
    (hi * 18446744073709551616 + lo) * 2 ^ s = (hi * 2 ^ s + lo / 2 ^ (64 - s)) * 18446744073709551616 + lo * 2 ^ s % 18446744073709551616 := by
  have e64 : (18446744073709551616 : Nat) = 2 ^ (64 - s) * 2 ^ s := by rw [← Nat.pow_add, show 64 - s + s = 64 by omega]
  have hp : 0 < 2 ^ (64 - s) := Nat.pow_pos (by omega)
  have h1 : lo * 2 ^ s % 18446744073709551616 = lo % 2 ^ (64 - s) * 2 ^ s := by
    rw [e64, Nat.mul_mod_mul_right]
  have h2 := Nat.div_add_mod lo (2 ^ (64 - s))
  rw [h1, Nat.add_mul, Nat.add_mul]
  have h3 : lo * 2 ^ s = lo / 2 ^ (64 - s) * 18446744073709551616 + lo % 2 ^ (64 - s) * 2 ^ s := by
    rw [e64]
    conv => lhs; rw [← h2]
    rw [Nat.add_mul]
    congr 1
    rw [Nat.mul_comm (2 ^ (64 - s)), Nat.mul_assoc]
  have h4 : hi * 18446744073709551616 * 2 ^ s = hi * 2 ^ s * 18446744073709551616 := by
    rw [Nat.mul_assoc, Nat.mul_comm 18446744073709551616, ← Nat.mul_assoc]
  omega
end Go.Num


namespace Go.Proofs.YtfcmdefigldpnaaGreatDoor
set_option linter.unusedVariables false
set_option maxRecDepth 8000
open Go Go.Den Go.RowKit

theorem mixed : Tryz.prog.follows .mixedOrders = true := by kernel_rfl

theorem callsH_same {P : Program} {f : FuncId} {args : List Value} {h : Hp} {u : Value} (c : ∀ w, Calls P f args.toArray w fun e w' => e = .returned u ∧ w' = w) : CallsH P f args h fun v h' => v = u ∧ h = h' :=
  fun w hw => (c w).mono fun _ _ ⟨he, hw'⟩ => ⟨u, he, ⟨rfl, by rw [hw', hw]⟩, by rw [hw']; exact Oth.refl w⟩

theorem add64_run (x y c : Nat) (hc : c ≤ 1) (hx : x < 18446744073709551616) (hy : y < 18446744073709551616) (w : World) :
    (callFunc 157 #[U x, U y, U c]).run Tryz.prog w =
      .ok (.value (.tuple [U ((x + y + c) % 18446744073709551616), U ((x + y + c) / 18446744073709551616)].toArray)) w := by
  rw [run_callFunc_extern Tryz.func157 (by kernel_rfl) (by kernel_rfl) (by kernel_rfl) (e := add64Entry) (by kernel_rfl), run_add64 x y c (by omega) (by omega) (by omega) (by omega)]
  simp only [Result.andThen]
  congr 5 <;> omega

theorem Tryz_ent164 : Ent Tryz.prog 164 := ent_of Tryz.func164 (by kernel_rfl) rfl
theorem mul64_spec (x y : Nat) (h : Hp) (hx : x < 18446744073709551616) (hy : y < 18446744073709551616) :
    CallsH Tryz.prog 164 [U x, U y] h fun v h' => v = .tuple [U (x * y / 18446744073709551616), U (x * y % 18446744073709551616)].toArray ∧ h = h' :=
  callsH_same fun w => Tryz.bits_Mul64 x y hx hy w

theorem Tryz_ent165 : Ent Tryz.prog 165 := ent_of Tryz.func165 (by kernel_rfl) rfl
theorem lz64_spec (x : Nat) (h : Hp) (hx : x < 18446744073709551616) :
    CallsH Tryz.prog 165 [U x] h fun v h' => v = I (64 - (Lib.bitLen x : Int)) ∧ h = h' :=
  callsH_same fun w => Tryz.bits_LeadingZeros64 x w (by omega) (by omega)

theorem bitLen_one : Lib.bitLen 1 = 1 := by decide +kernel
theorem bitLen_spec : ∀ (k x : Nat), x < 2 ^ k → k ≤ 64 → x ≠ 0 → 1 ≤ Lib.bitLen x ∧ Lib.bitLen x ≤ 64 ∧ 2 ^ (Lib.bitLen x - 1) ≤ x ∧ x < 2 ^ Lib.bitLen x
  | 0, x, h, _, h0 => by simp at h; omega
  | k + 1, x, h, hk, h0 => by
    have h64 : x < 2 ^ 64 := Nat.lt_of_lt_of_le h (Nat.pow_le_pow_right (by omega) hk)
    have e := Lib.bitLen_half x h0 h64
    by_cases h1 : x = 1
    · subst h1; rw [bitLen_one]; decide
    · have hx2 : x / 2 < 2 ^ k := by rw [Nat.pow_succ] at h; omega
      obtain ⟨g1, g2, g3, g4⟩ := bitLen_spec k (x / 2) hx2 (by omega) (by omega)
      have hle := Lib.bitLen_le x 64 (by omega) h64
      rw [e] at hle ⊢
      refine ⟨by omega, hle, ?_, ?_⟩
      · rw [show 1 + Lib.bitLen (x / 2) - 1 = (Lib.bitLen (x / 2) - 1) + 1 by omega, Nat.pow_succ]; omega
      · rw [show 1 + Lib.bitLen (x / 2) = Lib.bitLen (x / 2) + 1 by omega, Nat.pow_succ]; omega

theorem lz_fills (y : Nat) (h0 : y ≠ 0) (h : y < 18446744073709551616) : ∃ s : Nat, 64 - (Lib.bitLen y : Int) = (s : Int) ∧ s < 64 ∧ 9223372036854775808 ≤ y * 2 ^ s ∧ y * 2 ^ s < 18446744073709551616 := by
  obtain ⟨g1, g2, g3, g4⟩ := bitLen_spec 64 y h (by omega) h0
  refine ⟨64 - Lib.bitLen y, by omega, by omega, ?_, ?_⟩
  · have : 2 ^ (Lib.bitLen y - 1) * 2 ^ (64 - Lib.bitLen y) ≤ y * 2 ^ (64 - Lib.bitLen y) := Nat.mul_le_mul_right _ g3
    rw [← Nat.pow_add, show Lib.bitLen y - 1 + (64 - Lib.bitLen y) = 63 by omega] at this
    exact this
  · have : y * 2 ^ (64 - Lib.bitLen y) < 2 ^ Lib.bitLen y * 2 ^ (64 - Lib.bitLen y) := Nat.mul_lt_mul_of_pos_right g4 (Nat.pow_pos (by omega))
    rw [← Nat.pow_add, show Lib.bitLen y + (64 - Lib.bitLen y) = 64 by omega] at this
    exact this

theorem Tryz_ent168 : Ent Tryz.prog 168 := ent_of Tryz.func168 (by kernel_rfl) rfl
set_option maxHeartbeats 1000000 in
theorem div64_spec (hi lo y : Nat) (h : Hp) (hhi : hi < y) (hlo : lo < 18446744073709551616) (hy : y < 18446744073709551616) :
    CallsH Tryz.prog 168 [U hi, U lo, U y] h fun v h' => v = .tuple [U ((hi * 18446744073709551616 + lo) / y), U ((hi * 18446744073709551616 + lo) % y)].toArray ∧ h = h' := by
  (apply enter Tryz.func168 rfl Tryz.ntmps168 rfl)
  refine run ?_
  (apply w_condF; exact rfl; exact rfl; exact (by omega))
  refine run ?_
  (apply w_condF; exact rfl; exact rfl; exact (by omega))
  refine run ?_
  (apply w_condD; exact rfl; exact rfl) <;> intro hz
  · refine run ?_
    exact fin2 rfl rfl rfl ⟨by rw [hz]; simp, rfl⟩
  · refine run ?_
    obtain ⟨s, hs, hs64, hlo63, hhi64⟩ := lz_fills y (by omega) hy
    apply (s_call Tryz_ent165 rfl rfl rfl)
    refine (lz64_spec y h hy).mono ?_
    rintro _ _ ⟨rfl, rfl⟩
    refine ⟨trivial, ?_⟩
    rw [hs]
    have hhis : hi * 2 ^ s < 18446744073709551616 := Nat.lt_of_le_of_lt (Nat.mul_le_mul_right _ (Nat.le_of_lt hhi)) hhi64
    have hpow : 0 < 2 ^ s := Nat.pow_pos (by omega)
    have hlos : lo / 2 ^ (64 - s) < 2 ^ s := by
      rw [Nat.div_lt_iff_lt_mul (Nat.pow_pos (by omega)), ← Nat.pow_add, show s + (64 - s) = 64 by omega]; exact hlo
    have hlow : lo / 2 ^ (64 - s) < 18446744073709551616 := Nat.lt_of_le_of_lt (Nat.div_le_self _ _) hlo
    have hor : hi * 2 ^ s ||| lo / 2 ^ (64 - s) = hi * 2 ^ s + lo / 2 ^ (64 - s) := Num.or_add hlos
    have hparts := Num.shift_parts (hi := hi) (lo := lo) (s := s) (by omega) hlo
    have hult : hi * 2 ^ s + lo / 2 ^ (64 - s) < y * 2 ^ s := by
      have : (hi + 1) * 2 ^ s ≤ y * 2 ^ s := Nat.mul_le_mul_right _ hhi
      rw [Nat.add_mul] at this; omega
    clear hs
    refine run ?_
    rw [hor]
    obtain ⟨hsd, hsm⟩ := Num.shift_div (N := hi * 18446744073709551616 + lo) (y := y) (s := s) (by omega)
    rw [hparts] at hsd hsm
    rw [← hsd, ← hsm]
    have hy0 : y * 2 ^ s &&& 4294967295 = y * 2 ^ s % 4294967296 := Num.and32 _
    have hd0 : lo * 2 ^ s % 18446744073709551616 &&& 4294967295 = lo * 2 ^ s % 18446744073709551616 % 4294967296 := Num.and32 _
    rw [hy0, hd0]
    have hel : lo * 2 ^ s % 18446744073709551616 < 18446744073709551616 := Num.modW _
    clear hy0 hd0 hsd hsm hparts hor hhis hlos hlow
    generalize lo * 2 ^ s % 18446744073709551616 = e at *
    generalize hi * 2 ^ s + lo / 2 ^ (64 - s) = u at *
    generalize y * 2 ^ s = Y at *
    simp only [show (2 : Nat) ^ 32 = 4294967296 from rfl]
    have hYd := Nat.div_add_mod Y 4294967296
    have hed := Nat.div_add_mod e 4294967296
    have hy0B : Y % 4294967296 < 4294967296 := Nat.mod_lt _ (by omega)
    have hd0B : e % 4294967296 < 4294967296 := Nat.mod_lt _ (by omega)
    have hy1a : 2147483648 ≤ Y / 4294967296 := by omega
    have hy1b : Y / 4294967296 < 4294967296 := by omega
    have hd1B : e / 4294967296 < 4294967296 := by omega
    have hYd' : Y / 4294967296 * 4294967296 + Y % 4294967296 = Y := by rw [Nat.mul_comm]; exact hYd
    have hed' : e / 4294967296 * 4294967296 + e % 4294967296 = e := by rw [Nat.mul_comm]; exact hed
    clear hYd hed
    generalize Y / 4294967296 = y1 at *
    generalize Y % 4294967296 = y0 at *
    generalize e / 4294967296 = d1 at *
    generalize e % 4294967296 = d0 at *
    have hqm : u / y1 * y1 ≤ u := Nat.div_mul_le_self _ _
    have hqm' : u / y1 * y1 < 18446744073709551616 := by omega
    have hqB : (u * 4294967296 + d1) / Y < 4294967296 := Num.digit_lt hd1B hult
    have hgle : u / y1 ≤ 4294967296 + 1 := Num.guess_le hYd' (by omega) hy0B hult (by omega)
    have hgge : (u * 4294967296 + d1) / Y ≤ u / y1 := Num.guess_ge hYd' hd1B (by omega)
    have hrem : u - u / y1 * y1 < 4294967296 := by
      have := Nat.div_add_mod u y1
      have h2 : u % y1 < y1 := Nat.mod_lt _ (by omega)
      rw [Nat.mul_comm] at this; omega
    refine run ?_
    apply (w_cut (σ := Nat × Nat) rfl (fun p => [(2, U Y), (8, U s), (9, U y1), (10, U y0), (11, U u), (13, U d1), (14, U d0), (15, U p.1)]) (fun p h' => h = h' ∧ p.1 = (u * 4294967296 + d1) / Y ∧ p.2 = (u * 4294967296 + d1) % Y))
    · apply w_block; exact rfl
      apply (w_loop (σ := Nat × Nat) rfl (fun p => [(2, U Y), (8, U s), (9, U y1), (10, U y0), (11, U u), (13, U d1), (14, U d0), (15, U p.1), (16, U p.2)])
        (fun p h' => h = h' ∧ p.1 * y1 + p.2 = u ∧ (u * 4294967296 + d1) / Y ≤ p.1 ∧ p.1 ≤ 4294967296 + 1 ∧ p.2 < 4294967296) (fun p => p.1) (u / y1, u - u / y1 * y1))
      · exact subs
      · exact ⟨rfl, by simp only []; omega, hgge, hgle, hrem⟩
      · rintro ⟨q, r⟩ h' ⟨rfl, i1, i2, i3, i4⟩
        dsimp only at i1 i2 i3 i4 ⊢
        have hqy : q * y0 < 18446744073709551616 := Num.mulB i3 hy0B
        refine run ?_
        (apply s_split 69; exact rfl) <;> intro hc
        · have hq1 : 1 ≤ q := by omega
          refine run ?_
          (apply w_condD; exact rfl; exact rfl) <;> intro hb
          · refine run ?_
            apply cut_normal ((u * 4294967296 + d1) / Y, (u * 4294967296 + d1) % Y)
            · exact (Sub.cons rfl (Sub.cons rfl (Sub.cons rfl (Sub.cons rfl (Sub.cons rfl (Sub.cons rfl (Sub.cons rfl (Sub.consE rfl (by rw [← Num.digit_eq' hYd' hy0B (q := q - 1) (r := r + y1) (by rw [← i1, Nat.sub_mul]; have := Nat.mul_le_mul_right y1 hq1; omega) (by omega) hb (by omega) (by omega)]) (Sub.nil _)))))))))
            · exact ⟨rfl, rfl, rfl⟩
          · refine run ?_
            apply again_normal (q - 1, r + y1)
            · exact subs
            · exact ⟨rfl, by simp only []; rw [← i1, Nat.sub_mul]; have := Nat.mul_le_mul_right y1 hq1; omega, by simp only []; omega, by simp only []; omega, by simp only []; omega⟩
            · simp only []; omega
        · refine run ?_
          (apply w_condD; exact rfl; exact rfl) <;> intro hd
          · have hqgt := Num.digit_gt hYd' i1 hd (by omega)
            have hq1 : 1 ≤ q := Nat.lt_of_le_of_lt (Nat.zero_le _) hqgt
            refine run ?_
            (apply w_condD; exact rfl; exact rfl) <;> intro hb
            · refine run ?_
              apply cut_normal ((u * 4294967296 + d1) / Y, (u * 4294967296 + d1) % Y)
              · exact (Sub.cons rfl (Sub.cons rfl (Sub.cons rfl (Sub.cons rfl (Sub.cons rfl (Sub.cons rfl (Sub.cons rfl (Sub.consE rfl (by rw [← Num.digit_eq' hYd' hy0B (q := q - 1) (r := r + y1) (by rw [← i1, Nat.sub_mul]; have := Nat.mul_le_mul_right y1 hq1; omega) (by omega) hb (by omega) (by omega)]) (Sub.nil _)))))))))
              · exact ⟨rfl, rfl, rfl⟩
            · refine run ?_
              apply again_normal (q - 1, r + y1)
              · exact subs
              · exact ⟨rfl, by simp only []; rw [← i1, Nat.sub_mul]; have := Nat.mul_le_mul_right y1 hq1; omega, by simp only []; omega, by simp only []; omega, by simp only []; omega⟩
              · simp only []; omega
          · refine run ?_
            apply cut_normal ((u * 4294967296 + d1) / Y, (u * 4294967296 + d1) % Y)
            · exact (Sub.cons rfl (Sub.cons rfl (Sub.cons rfl (Sub.cons rfl (Sub.cons rfl (Sub.cons rfl (Sub.cons rfl (Sub.consE rfl (by rw [← Num.digit_eq hYd' hy0B i1 i2 (by omega) (by omega)]) (Sub.nil _)))))))))
            · exact ⟨rfl, rfl, rfl⟩
    · rintro ⟨q1, v⟩ _ ⟨rfl, e1, e2⟩
      dsimp only at e1 e2 ⊢
      rw [← e1] at hqB
      have hvY : v < Y := by rw [e2]; exact Nat.mod_lt _ (by omega)
      have hdm := Num.dm e1 e2
      clear hqm hqm' hgle hgge hrem
      have hw : ((u * 4294967296 % 18446744073709551616 + d1) % 18446744073709551616 + (18446744073709551616 - q1 * Y % 18446744073709551616)) % 18446744073709551616 = v := Num.rest_wrap hdm (Nat.lt_trans hvY hhi64)
      have hm1 : q1 * Y % 18446744073709551616 ≤ 18446744073709551616 := Nat.le_of_lt (Num.modW _)
      refine runS ?_
      (apply s_mulUw; (first | exact isK_c | exact isK_t rfl); (first | exact isK_c | exact isK_t rfl); exact rfl)
      refine runS ?_
      (apply s_addUw; (first | exact isK_c | exact isK_t rfl); (first | exact isK_c | exact isK_t rfl); exact rfl)
      refine runS ?_
      (apply s_mulUw; (first | exact isK_c | exact isK_t rfl); (first | exact isK_c | exact isK_t rfl); exact rfl)
      refine runS ?_
      (apply s_subUw; (first | exact isK_c | exact isK_t rfl); (first | exact isK_c | exact isK_t rfl); exact rfl; omega)
      rw [hw]
      clear hw hm1 hdm
      have hqm : v / y1 * y1 ≤ v := Nat.div_mul_le_self _ _
      have hqm' : v / y1 * y1 < 18446744073709551616 := by omega
      have hqB2 : (v * 4294967296 + d0) / Y < 4294967296 := Num.digit_lt hd0B hvY
      have hgle : v / y1 ≤ 4294967296 + 1 := Num.guess_le hYd' (by omega) hy0B hvY (by omega)
      have hgge : (v * 4294967296 + d0) / Y ≤ v / y1 := Num.guess_ge hYd' hd0B (by omega)
      have hrem : v - v / y1 * y1 < 4294967296 := by
        have := Nat.div_add_mod v y1
        have h2 : v % y1 < y1 := Nat.mod_lt _ (by omega)
        rw [Nat.mul_comm] at this; omega
      refine run ?_
      apply (w_cut (σ := Nat × Nat) rfl (fun p => [(2, U Y), (8, U s), (9, U y1), (10, U y0), (15, U q1), (17, U v), (14, U d0), (18, U p.1)]) (fun p h' => h = h' ∧ p.1 = (v * 4294967296 + d0) / Y ∧ p.2 = (v * 4294967296 + d0) % Y))
      · apply w_block; exact rfl
        apply (w_loop (σ := Nat × Nat) rfl (fun p => [(2, U Y), (8, U s), (9, U y1), (10, U y0), (15, U q1), (17, U v), (14, U d0), (18, U p.1), (16, U p.2)])
          (fun p h' => h = h' ∧ p.1 * y1 + p.2 = v ∧ (v * 4294967296 + d0) / Y ≤ p.1 ∧ p.1 ≤ 4294967296 + 1 ∧ p.2 < 4294967296) (fun p => p.1) (v / y1, v - v / y1 * y1))
        · exact subs
        · exact ⟨rfl, by simp only []; omega, hgge, hgle, hrem⟩
        · rintro ⟨q, r⟩ h' ⟨rfl, i1, i2, i3, i4⟩
          dsimp only at i1 i2 i3 i4 ⊢
          have hqy : q * y0 < 18446744073709551616 := Num.mulB i3 hy0B
          refine run ?_
          (apply s_split 104; exact rfl) <;> intro hc
          · have hq1 : 1 ≤ q := by omega
            refine run ?_
            (apply w_condD; exact rfl; exact rfl) <;> intro hb
            · refine run ?_
              apply cut_normal ((v * 4294967296 + d0) / Y, (v * 4294967296 + d0) % Y)
              · exact (Sub.cons rfl (Sub.cons rfl (Sub.cons rfl (Sub.cons rfl (Sub.cons rfl (Sub.cons rfl (Sub.cons rfl (Sub.consE rfl (by rw [← Num.digit_eq' hYd' hy0B (q := q - 1) (r := r + y1) (by rw [← i1, Nat.sub_mul]; have := Nat.mul_le_mul_right y1 hq1; omega) (by omega) hb (by omega) (by omega)]) (Sub.nil _)))))))))
              · exact ⟨rfl, rfl, rfl⟩
            · refine run ?_
              apply again_normal (q - 1, r + y1)
              · exact subs
              · exact ⟨rfl, by simp only []; rw [← i1, Nat.sub_mul]; have := Nat.mul_le_mul_right y1 hq1; omega, by simp only []; omega, by simp only []; omega, by simp only []; omega⟩
              · simp only []; omega
          · refine run ?_
            (apply w_condD; exact rfl; exact rfl) <;> intro hd
            · have hqgt := Num.digit_gt hYd' i1 hd (by omega)
              have hq1 : 1 ≤ q := Nat.lt_of_le_of_lt (Nat.zero_le _) hqgt
              refine run ?_
              (apply w_condD; exact rfl; exact rfl) <;> intro hb
              · refine run ?_
                apply cut_normal ((v * 4294967296 + d0) / Y, (v * 4294967296 + d0) % Y)
                · exact (Sub.cons rfl (Sub.cons rfl (Sub.cons rfl (Sub.cons rfl (Sub.cons rfl (Sub.cons rfl (Sub.cons rfl (Sub.consE rfl (by rw [← Num.digit_eq' hYd' hy0B (q := q - 1) (r := r + y1) (by rw [← i1, Nat.sub_mul]; have := Nat.mul_le_mul_right y1 hq1; omega) (by omega) hb (by omega) (by omega)]) (Sub.nil _)))))))))
                · exact ⟨rfl, rfl, rfl⟩
              · refine run ?_
                apply again_normal (q - 1, r + y1)
                · exact subs
                · exact ⟨rfl, by simp only []; rw [← i1, Nat.sub_mul]; have := Nat.mul_le_mul_right y1 hq1; omega, by simp only []; omega, by simp only []; omega, by simp only []; omega⟩
                · simp only []; omega
            · refine run ?_
              apply cut_normal ((v * 4294967296 + d0) / Y, (v * 4294967296 + d0) % Y)
              · exact (Sub.cons rfl (Sub.cons rfl (Sub.cons rfl (Sub.cons rfl (Sub.cons rfl (Sub.cons rfl (Sub.cons rfl (Sub.consE rfl (by rw [← Num.digit_eq hYd' hy0B i1 i2 (by omega) (by omega)]) (Sub.nil _)))))))))
              · exact ⟨rfl, rfl, rfl⟩
      · rintro ⟨q0, _⟩ _ ⟨rfl, e3, -⟩
        dsimp only at e3 ⊢
        rw [← e3] at hqB2
        clear hqm hqm' hgle hgge hrem
        obtain ⟨r, e4⟩ : ∃ r, r = (v * 4294967296 + d0) % Y := ⟨_, rfl⟩
        have hrY : r < Y := by rw [e4]; exact Nat.mod_lt _ (by omega)
        have hdm := Num.dm e3 e4
        obtain ⟨f1, f2⟩ := Num.two_end (by omega) hed' e1 e2 e3 e4
        rw [f1, f2]
        have hw : ((v * 4294967296 % 18446744073709551616 + d0) % 18446744073709551616 + (18446744073709551616 - q0 * Y % 18446744073709551616)) % 18446744073709551616 = r := Num.rest_wrap hdm (Nat.lt_trans hrY hhi64)
        have hm1 : q0 * Y % 18446744073709551616 ≤ 18446744073709551616 := Nat.le_of_lt (Num.modW _)
        clear f1 f2 hdm e1 e2 e3 e4
        refine runS ?_
        (apply s_mulU; (first | exact isK_c | exact isK_t rfl); (first | exact isK_c | exact isK_t rfl); exact rfl; omega)
        refine runS ?_
        (apply s_addU; (first | exact isK_c | exact isK_t rfl); (first | exact isK_c | exact isK_t rfl); exact rfl; omega)
        refine runS ?_
        (apply s_mulUw; (first | exact isK_c | exact isK_t rfl); (first | exact isK_c | exact isK_t rfl); exact rfl)
        refine runS ?_
        (apply s_addUw; (first | exact isK_c | exact isK_t rfl); (first | exact isK_c | exact isK_t rfl); exact rfl)
        refine runS ?_
        (apply s_mulUw; (first | exact isK_c | exact isK_t rfl); (first | exact isK_c | exact isK_t rfl); exact rfl)
        refine runS ?_
        (apply s_subUw; (first | exact isK_c | exact isK_t rfl); (first | exact isK_c | exact isK_t rfl); exact rfl; omega)
        rw [hw]
        refine run ?_
        exact fin2 rfl rfl rfl ⟨rfl, rfl⟩
end Go.Proofs.YtfcmdefigldpnaaGreatDoor

