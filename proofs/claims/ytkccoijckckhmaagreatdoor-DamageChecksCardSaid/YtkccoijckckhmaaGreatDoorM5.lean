/-
  Layer 1 (decimal): contracts of the small functions.
  Layer 1 (decimal): contracts of Canonical, Check, and of the pieces' text and comparison.
  Layer 1 (decimal): contracts of sums, differences and products.
  Layer 1 (decimal): contracts of DivMod, Gcd and Lcm.
  Layers 2 and 3 (whole, fraction): contracts of what a fraction's check calls.
  Layer 3 (fraction): contracts of Check and Sign.
-/
import Derived.Test.YtkccoijckckhmaaGreatDoorM4
set_option linter.all false

namespace Go.Proofs.YtkccoijckckhmaaGreatDoor.Ev
open Go

theorem pure_of {T : Tab} {L d : Nat} {f : FuncId} {args : List PV} {r : PV} (h : Gt (evF T L d f args []) fun v _ => v = r) (hz : ∀ ρ, frz 6 ρ r = some r) : ∃ L d n, evPure T L d n f args = some r := by
  obtain ⟨v, ρ, h1, rfl⟩ := h
  exact ⟨L, d, 6, by simp only [evPure, h1]; exact hz ρ⟩

theorem dec1_some {f : Nat → PV} {args : List PV} {r : PV} (h : dec1 f args = some r) : ∃ s n, args = [.str s] ∧ decV s = some n ∧ r = f n := by
  unfold dec1 at h
  split at h
  · rename_i s
    cases hd : decV s with
    | none => rw [hd] at h; cases h
    | some n => rw [hd] at h; cases h; exact ⟨s, n, rfl, hd, rfl⟩
  · cases h
theorem dec2_some {f : Nat → Nat → PV} {args : List PV} {r : PV} (h : dec2 f args = some r) : ∃ s t m n, args = [.str s, .str t] ∧ decV s = some m ∧ decV t = some n ∧ r = f m n := by
  unfold dec2 at h
  split at h
  · rename_i s t
    split at h
    · rename_i m n h1 h2; cases h; exact ⟨s, t, m, n, rfl, h1, h2, rfl⟩
    · cases h
  · cases h
theorem int1_some {f : Int → PV} {args : List PV} {r : PV} (h : int1 f args = some r) : ∃ s n, args = [.str s] ∧ intW s = some n ∧ r = f n := by
  unfold int1 at h
  split at h
  · rename_i s
    cases hd : intW s with
    | none => rw [hd] at h; cases h
    | some n => rw [hd] at h; cases h; exact ⟨s, n, rfl, hd, rfl⟩
  · cases h
theorem int2_some {f : Int → Int → PV} {args : List PV} {r : PV} (h : int2 f args = some r) : ∃ s t m n, args = [.str s, .str t] ∧ intW s = some m ∧ intW t = some n ∧ r = f m n := by
  unfold int2 at h
  split at h
  · rename_i s t
    split at h
    · rename_i m n h1 h2; cases h; exact ⟨s, t, m, n, rfl, h1, h2, rfl⟩
    · cases h
  · cases h

theorem decV_some {s : ByteArray} {n : Nat} (h : decV s = some n) : Can s.data.toList ∧ valL s.data.toList = n ∧ s.size ≤ 20000 ∧ s.data.toList.length = s.size := by
  unfold decV at h
  split at h
  · rename_i hc; cases h; exact ⟨(canL_iff _).1 hc.1, rfl, hc.2, by rw [Array.length_toList]; rfl⟩
  · cases h
theorem decV_of {s : ByteArray} (h : Can s.data.toList) (hs : s.size ≤ 20000) : decV s = some (valL s.data.toList) := by
  unfold decV
  rw [if_pos ⟨(canL_iff _).2 h, hs⟩]

theorem can_head {l : List UInt8} (h : Can l) : ∃ b r, l = b :: r ∧ digB b = true := by
  have := can_pos h
  cases l with
  | nil => simp at this
  | cons b r => exact ⟨b, r, rfl, h.1 b (List.mem_cons_self ..)⟩

theorem intV_can {s : ByteArray} (h : Can s.data.toList) : intV s = some ((valL s.data.toList : Nat) : Int) := by
  have hc := (canL_iff _).2 h
  obtain ⟨b, r, hl, hb⟩ := can_head h
  unfold intV
  split
  · rename_i l heq
    rw [hl] at heq
    cases heq
    simp [digB] at hb
  · rw [if_pos hc]

theorem intV_dec {s : ByteArray} {n : Nat} (h : decV s = some n) : intV s = some (n : Int) := by
  obtain ⟨h1, h2, _⟩ := decV_some h
  rw [intV_can h1, h2]

theorem dec_small {s : ByteArray} {n : Nat} (h : decV s = some n) (hs : s.size ≤ 18) : n < 1000000000000000000 := by
  obtain ⟨h1, h2, _, h4⟩ := decV_some h
  have := valL_lt _ h1.1
  rw [h2, h4] at this
  exact Nat.lt_of_lt_of_le this (Nat.pow_le_pow_right (by omega) hs)

theorem natS_list (n : Nat) : (natS n).data.toList = natL n := by simp [natS]
theorem natL_len_le (n k : Nat) (h : n < 10 ^ k) (hk : 0 < k) : (natL n).length ≤ k := by
  rcases can_lb (natL_can n) with h1 | h1
  · omega
  · rw [(natL_val n).1] at h1
    have := (Nat.pow_lt_pow_iff_right (by omega : 1 < 10)).1 (Nat.lt_of_le_of_lt h1 h)
    omega
theorem natS_size (n : Nat) : (natS n).size = (natL n).length := by
  have := natS_list n
  rw [← this, Array.length_toList]; rfl
theorem decV_natS {n : Nat} (h : (natL n).length ≤ 20000) : decV (natS n) = some n := by
  rw [decV_of (by rw [natS_list]; exact natL_can n) (by rw [natS_size]; exact h), natS_list, (natL_val n).1]
theorem natS_of {s : ByteArray} (h : Can s.data.toList) : s = natS (valL s.data.toList) := by
  have := natL_of h
  unfold natS
  rw [← this]

@[simp] theorem lit_lt_1 (m : Nat) : ((1 : Int) < (m : Int)) ↔ 1 < m := by omega
@[simp] theorem le_lit_1 (m : Nat) : ((m : Int) ≤ (1 : Int)) ↔ m ≤ 1 := by omega
@[simp] theorem eq_lit_1 (m : Nat) : ((m : Int) = (1 : Int)) ↔ m = 1 := by omega
@[simp] theorem lit_lt_2 (m : Nat) : ((2 : Int) < (m : Int)) ↔ 2 < m := by omega
@[simp] theorem le_lit_2 (m : Nat) : ((m : Int) ≤ (2 : Int)) ↔ m ≤ 2 := by omega
@[simp] theorem eq_lit_2 (m : Nat) : ((m : Int) = (2 : Int)) ↔ m = 2 := by omega
@[simp] theorem lit_lt_9 (m : Nat) : ((9 : Int) < (m : Int)) ↔ 9 < m := by omega
@[simp] theorem le_lit_9 (m : Nat) : ((m : Int) ≤ (9 : Int)) ↔ m ≤ 9 := by omega
@[simp] theorem eq_lit_9 (m : Nat) : ((m : Int) = (9 : Int)) ↔ m = 9 := by omega
@[simp] theorem lit_lt_18 (m : Nat) : ((18 : Int) < (m : Int)) ↔ 18 < m := by omega
@[simp] theorem le_lit_18 (m : Nat) : ((m : Int) ≤ (18 : Int)) ↔ m ≤ 18 := by omega
@[simp] theorem eq_lit_18 (m : Nat) : ((m : Int) = (18 : Int)) ↔ m = 18 := by omega
@[simp] theorem lit_lt_400 (m : Nat) : ((400 : Int) < (m : Int)) ↔ 400 < m := by omega
@[simp] theorem le_lit_400 (m : Nat) : ((m : Int) ≤ (400 : Int)) ↔ m ≤ 400 := by omega
@[simp] theorem eq_lit_400 (m : Nat) : ((m : Int) = (400 : Int)) ↔ m = 400 := by omega
@[simp] theorem bytes_toList (l : List UInt8) : (bytes l).data.toList = l := by simp [bytes]
@[simp] theorem bytes_size (l : List UInt8) : (bytes l).size = l.length := by simp [bytes, ByteArray.size]
@[simp] theorem evbs_eql (a b : ByteArray) : evBinStr .eql a b = some (.bool (a.data.toList == b.data.toList)) := rfl
@[simp] theorem evbs_neq (a b : ByteArray) : evBinStr .neq a b = some (.bool (!(a.data.toList == b.data.toList))) := rfl
@[simp] theorem evbs_lss (a b : ByteArray) : evBinStr .lss a b = some (.bool (Op.bytesLess a.data.toList b.data.toList)) := rfl
@[simp] theorem evbs_gtr (a b : ByteArray) : evBinStr .gtr a b = some (.bool (!(Op.bytesLess a.data.toList b.data.toList || a.data.toList == b.data.toList))) := rfl
attribute [simp] snapAll snap hasMs oneRes

theorem blt_t {m n : Nat} (h : m < n) : Nat.blt m n = true := by rw [Nat.blt_eq]; exact h
theorem blt_f {m n : Nat} (h : ¬ m < n) : Nat.blt m n = false := by
  cases h' : Nat.blt m n with
  | false => rfl
  | true => rw [Nat.blt_eq] at h'; exact absurd h' h
theorem cmpN_lt {m n : Nat} (h : m < n) : cmpN m n = .int .i64 (-1) := by unfold cmpN; rw [blt_t h]; rfl
theorem cmpN_eq (m : Nat) : cmpN m m = .int .i64 0 := by unfold cmpN; rw [blt_f (Nat.lt_irrefl _)]; rfl
theorem cmpN_gt {m n : Nat} (h : n < m) : cmpN m n = .int .i64 1 := by unfold cmpN; rw [blt_f (by omega), blt_t h]; rfl
theorem natL_zero : natL 0 = [48] := rfl
theorem natL_one : natL 1 = [49] := rfl
theorem dec_is {s : ByteArray} {n m : Nat} (h : decV s = some n) : (s.data.toList == natL m) = decide (n = m) := by
  obtain ⟨h1, h2, _⟩ := decV_some h
  have h3 := natL_of h1
  rw [h2] at h3
  rw [h3]
  by_cases hnm : n = m
  · subst hnm; simp
  · have : natL n ≠ natL m := fun h => hnm (by rw [← (natL_val n).1, h, (natL_val m).1])
    simp [this, hnm]
theorem dec_is0 {s : ByteArray} {n : Nat} (h : decV s = some n) : (s.data.toList == [48]) = decide (n = 0) := dec_is (m := 0) h
theorem dec_is1 {s : ByteArray} {n : Nat} (h : decV s = some n) : (s.data.toList == [49]) = decide (n = 1) := dec_is (m := 1) h

theorem less_val : ∀ (l r : List UInt8), l.length = r.length → (∀ b, b ∈ l → digB b = true) → (∀ b, b ∈ r → digB b = true) → Op.bytesLess l r = decide (valL l < valL r)
  | [], [], _, _, _ => by simp [Op.bytesLess]
  | [], _ :: _, h, _, _ => by simp at h
  | _ :: _, [], h, _, _ => by simp at h
  | a :: l, b :: r, h, h1, h2 => by
    simp only [List.length_cons, Nat.add_right_cancel_iff] at h
    have ih := less_val l r h (fun x hx => h1 x (List.mem_cons_of_mem _ hx)) (fun x hx => h2 x (List.mem_cons_of_mem _ hx))
    have g1 := valL_lt l fun x hx => h1 x (List.mem_cons_of_mem _ hx)
    have g2 := valL_lt r fun x hx => h2 x (List.mem_cons_of_mem _ hx)
    have ha := h1 a (List.mem_cons_self ..)
    have hb := h2 b (List.mem_cons_self ..)
    simp only [digB, Bool.and_eq_true, Nat.ble_eq] at ha hb
    rw [valL_cons, valL_cons, ← h]
    rw [← h] at g2
    simp only [Op.bytesLess, ih]
    have hp : 0 < 10 ^ l.length := Nat.pow_pos (by omega)
    by_cases hlt : a < b
    · have : a.toNat < b.toNat := UInt8.lt_iff_toNat_lt.1 hlt
      have h3 : (a.toNat - 48 + 1) * 10 ^ l.length ≤ (b.toNat - 48) * 10 ^ l.length := Nat.mul_le_mul_right _ (by omega)
      rw [Nat.add_mul, Nat.one_mul] at h3
      simp only [hlt, decide_true, Bool.true_or]
      symm
      rw [decide_eq_true_eq]
      omega
    · have hge : ¬ a.toNat < b.toNat := fun h => hlt (UInt8.lt_iff_toNat_lt.2 h)
      by_cases heq : a = b
      · subst heq
        simp [hlt]
      · have hne : a.toNat ≠ b.toNat := fun h => heq (UInt8.toNat_inj.1 h)
        have h3 : (b.toNat - 48 + 1) * 10 ^ l.length ≤ (a.toNat - 48) * 10 ^ l.length := Nat.mul_le_mul_right _ (by omega)
        rw [Nat.add_mul, Nat.one_mul] at h3
        simp only [hlt, heq, decide_false, Bool.false_or, beq_eq_false_iff_ne.2 heq, Bool.false_and]
        symm
        rw [decide_eq_false_iff_not]
        omega

theorem len_val {l r : List UInt8} (h1 : Can l) (h2 : Can r) (h : l.length < r.length) : valL l < valL r := by
  have g1 := valL_lt l h1.1
  rcases can_lb h2 with h3 | h3
  · have := can_pos h1; omega
  · have : 10 ^ l.length ≤ 10 ^ (r.length - 1) := Nat.pow_le_pow_right (by omega) (by omega)
    omega

section
variable {T : Tab} (hb : T.body = bodies.get)
include hb
set_option maxRecDepth 10000

def gdSmall := dec1 fun n => if n ≤ 18446744073709551615 then .tup [.int .u64 n, .bool true] else .tup [.int .u64 0, .bool false]

theorem gParseUint_dec {s : ByteArray} {n : Nat} (h : decV s = some n) : gParseUint [.str s, .int .i64 10, .int .i64 64] = if n ≤ 18446744073709551615 then some (.tup [.int .u64 n, .nilI]) else some (.tup [.un, .anyI]) := by
  have hsz : Nat.ble s.size 20000 = true := Nat.ble_eq_true_of_le (decV_some h).2.2.1
  simp only [gParseUint, hsz, cond_true, intV_dec h]
  by_cases h1 : n ≤ 18446744073709551615
  · rw [if_pos (by omega), if_pos (by omega), if_pos h1]
  · rw [if_pos (by omega), if_neg (by omega), if_neg h1]

theorem dSmall_ok (h1 : T.pure 240 = some gParseUint) : ∀ args r, gdSmall args = some r → ∃ L d n, evPure T L d n 216 args = some r := by
  intro args r hg
  obtain ⟨s, n, rfl, hs, rfl⟩ := dec1_some hg
  have hB : T.body 216 = some s216 := by rw [hb]; rfl
  have hp := gParseUint_dec hb hs
  by_cases hn : n ≤ 18446744073709551615
  · rw [if_pos hn] at hp ⊢
    refine pure_of (L := 1) (d := 1) (Gt_evF hB rfl fun R hR => ?_) fun _ => rfl
    simp [s216, Nat.beq, h1, hp, evNilq]
    exact hR _ _ rfl
  · rw [if_neg hn] at hp ⊢
    refine pure_of (L := 1) (d := 1) (Gt_evF hB rfl fun R hR => ?_) fun _ => rfl
    simp [s216, Nat.beq, h1, hp, evNilq]
    exact hR _ _ rfl

def gdOf : List PV → Option PV
  | [.int .u64 (.ofNat n)] => bif Nat.blt n 18446744073709551616 then some (.str (natS n)) else none
  | _ => none
theorem dOf_ok (h1 : T.pure 217 = some gFormatUint) : ∀ args r, gdOf args = some r → ∃ L d n, evPure T L d n 182 args = some r := by
  intro args r hg
  have hB : T.body 182 = some s182 := by rw [hb]; rfl
  unfold gdOf at hg
  split at hg
  · rename_i n
    cases hlt : Nat.blt n 18446744073709551616 with
    | false => rw [hlt] at hg; cases hg
    | true =>
      rw [hlt] at hg
      cases hg
      have hf : gFormatUint [.int .u64 (n : Nat), .int .i64 10] = some (.str (natS n)) := by
        show (bif Nat.blt n 18446744073709551616 then some (PV.str (natS n)) else none) = _
        rw [hlt]; rfl
      refine pure_of (L := 1) (d := 1) (Gt_evF hB rfl fun R hR => ?_) fun _ => rfl
      simp [s182, Nat.beq, h1, hf]
      exact hR _ _ rfl
  · cases hg

def gdBoth : List PV → Option PV
  | [.str a, .str b] => match decV a, decV b with
    | some m, some n => some (if a.size ≤ 18 ∧ b.size ≤ 18 then .tup [.int .u64 m, .int .u64 n, .bool true] else .tup [.int .u64 0, .int .u64 0, .bool false])
    | _, _ => none
  | _ => none

theorem dBoth_ok (h1 : T.pure 216 = some gdSmall) : ∀ args r, gdBoth args = some r → ∃ L d n, evPure T L d n 181 args = some r := by
  intro args r hg
  have hB : T.body 181 = some s181 := by rw [hb]; rfl
  unfold gdBoth at hg
  split at hg
  · rename_i a b
    split at hg
    · rename_i m n h2 h3
      cases hg
      by_cases ha : a.size ≤ 18
      · have ha' : ¬ 18 < a.size := by omega
        by_cases hbb : b.size ≤ 18
        · have hb' : ¬ 18 < b.size := by omega
          have hm := dec_small h2 ha
          have hn := dec_small h3 hbb
          have c1 : m ≤ 18446744073709551615 := by omega
          have c2 : n ≤ 18446744073709551615 := by omega
          rw [if_pos ⟨ha, hbb⟩]
          refine pure_of (L := 1) (d := 1) (Gt_evF hB rfl fun R hR => ?_) fun _ => rfl
          simp [s181, Nat.beq, h1, gdSmall, dec1, h2, h3, c1, c2, ha, ha', hbb, hb']
          exact hR _ _ rfl
        · have hb' : 18 < b.size := by omega
          rw [if_neg (fun h => hbb h.2)]
          refine pure_of (L := 1) (d := 1) (Gt_evF hB rfl fun R hR => ?_) fun _ => rfl
          simp [s181, Nat.beq, ha, ha', hb']
          exact hR _ _ rfl
      · have ha' : 18 < a.size := by omega
        rw [if_neg (fun h => ha h.1)]
        refine pure_of (L := 1) (d := 1) (Gt_evF hB rfl fun R hR => ?_) fun _ => rfl
        simp [s181, Nat.beq, ha']
        exact hR _ _ rfl
    · cases hg
  · cases hg

theorem dCompare_ok : ∀ args r, gdCompare args = some r → ∃ L d n, evPure T L d n 176 args = some r := by
  intro args r hg
  obtain ⟨a, b, m, n, rfl, ha, hbb, rfl⟩ := dec2_some hg
  have hB : T.body 176 = some s176 := by rw [hb]; rfl
  obtain ⟨a1, a2, a3, a4⟩ := decV_some ha
  obtain ⟨b1, b2, b3, b4⟩ := decV_some hbb
  refine pure_of (L := 1) (d := 1) (Gt_evF hB rfl fun R hR => ?_) fun _ => rfl
  by_cases hlt : a.size < b.size
  · have hv := len_val a1 b1 (by omega)
    rw [a2, b2] at hv
    have e1 : ¬ ((a.size : Int) = b.size) := by omega
    have e1' : ¬ (a.size = b.size) := by omega
    have w : IntKind.i64.wrap ((a.size : Int) - b.size) = (a.size : Int) - b.size := wrap_i64 (by omega) (by omega)
    have mx : max (-1) ((a.size : Int) - b.size) = -1 := by omega
    simp [s176, Nat.beq, e1, e1', w, mx]
    exact hR _ _ (cmpN_lt hv).symm
  · by_cases hgt : b.size < a.size
    · have hv := len_val b1 a1 (by omega)
      rw [a2, b2] at hv
      have e1 : ¬ ((a.size : Int) = b.size) := by omega
      have e1' : ¬ (a.size = b.size) := by omega
      have w : IntKind.i64.wrap ((a.size : Int) - b.size) = (a.size : Int) - b.size := wrap_i64 (by omega) (by omega)
      have mx : min 1 (max (-1) ((a.size : Int) - b.size)) = 1 := by omega
      simp [s176, Nat.beq, e1, e1', w, mx]
      exact hR _ _ (cmpN_gt hv).symm
    · have he : a.size = b.size := by omega
      have hl := less_val a.data.toList b.data.toList (by omega) a1.1 b1.1
      rw [a2, b2] at hl
      have heq : (a.data.toList == b.data.toList) = decide (m = n) := by
        have := dec_is (m := n) ha
        rw [← this]
        have h3 := natL_of b1
        rw [b2] at h3
        rw [h3]
      by_cases h1 : m < n
      · simp [s176, Nat.beq, he, hl, h1]
        exact hR _ _ (cmpN_lt h1).symm
      · by_cases h2 : m = n
        · subst h2
          have heq' : a.data.toList = b.data.toList := by simpa using heq
          have hlf : Op.bytesLess b.data.toList b.data.toList = false := by rw [heq'] at hl; simpa using hl
          simp [s176, Nat.beq, he, heq', hlf]
          exact hR _ _ (cmpN_eq m).symm
        · have h3 : n < m := by omega
          have hl' : Op.bytesLess a.data.toList b.data.toList = false := by rw [hl]; simpa using h1
          have heq' : ¬ a.data.toList = b.data.toList := by simpa [h2] using heq
          have heq2 : ¬ a.data = b.data := fun h => heq' (by rw [h])
          have heq3 : (a.data == b.data) = false := beq_eq_false_iff_ne.2 heq2
          simp [s176, Nat.beq, he, hl', heq', heq2, heq3, h1, h2]
          exact hR _ _ (cmpN_gt h3).symm

end

end Go.Proofs.YtkccoijckckhmaaGreatDoor.Ev

namespace Go.Proofs.YtkccoijckckhmaaGreatDoor.Ev
open Go

def numsOf (k : IntKind) : List (List PV) → Option (List Nat)
  | [] => some []
  | [.int k' (.ofNat n)] :: es => if k' = k then (numsOf k es).map (n :: ·) else none
  | _ => none

theorem numsOf_nums (k : IntKind) : ∀ l, numsOf k (nums k l) = some l
  | [] => rfl
  | n :: l => by
    have ih := numsOf_nums k l
    simp only [nums] at ih
    show (if k = k then (numsOf k (List.map (fun d : Nat => [PV.int k (d : Int)]) l)).map (n :: ·) else none) = _
    rw [if_pos rfl, ih]; rfl

theorem numsOf_some {k : IntKind} : ∀ {es : List (List PV)} {l : List Nat}, numsOf k es = some l → es = nums k l
  | [], l, h => by cases h; rfl
  | e :: es, l, h => by
    unfold numsOf at h
    split at h
    · cases ‹e :: es = []›
    · rename_i k' n es' heq
      cases heq
      split at h
      · rename_i hk
        subst hk
        cases hn : numsOf k' es with
        | none => rw [hn] at h; cases h
        | some l' => rw [hn] at h; cases h; rw [numsOf_some hn]; rfl
      · cases h
    · cases h

def tightB (ds : List Nat) : Bool := ds.all (fun d => Nat.blt d 1000000000) && (ds.isEmpty || !Nat.beq (ds[ds.length - 1]?.getD 0) 0) && Nat.ble ds.length 100000
theorem tightB_iff (ds : List Nat) : tightB ds = true ↔ (∀ d, d ∈ ds → d < 1000000000) ∧ Tight ds ∧ ds.length ≤ 100000 := by
  unfold tightB Tight
  rw [Bool.and_eq_true, Bool.and_eq_true, List.all_eq_true, Nat.ble_eq, and_assoc]
  refine and_congr ⟨fun h d hd => Nat.blt_eq ▸ h d hd, fun h d hd => Nat.blt_eq ▸ h d hd⟩ (and_congr ?_ Iff.rfl)
  rw [Bool.or_eq_true, List.isEmpty_iff]
  refine or_congr Iff.rfl ?_
  cases hh : Nat.beq (ds[ds.length - 1]?.getD 0) 0 with
  | false => simp; exact fun h => by rw [h] at hh; simp at hh
  | true => simp; exact Nat.eq_of_beq_eq_true hh

@[simp] theorem bys_getElem (l : List UInt8) (i : Nat) (h : i < (bys l).length) : (bys l)[i] = [.int .u8 (((l[i]'(by simpa using h)).toNat : Nat) : Int)] := by simp [bys]

theorem digB_false {b : UInt8} (h : b.toNat < 48 ∨ 57 < b.toNat) : digB b = false := by
  cases hd : digB b with
  | false => rfl
  | true =>
    simp only [digB, Bool.and_eq_true, Nat.ble_eq] at hd
    omega
theorem digB_true {b : UInt8} (h : ¬ b.toNat < 48) (h2 : ¬ 57 < b.toNat) : digB b = true := by
  simp only [digB, Bool.and_eq_true, Nat.ble_eq]
  omega

def gText : List PV → Option PV
  | [.sl 1 es] => match numsOf .u64 es with
    | some ds => bif tightB ds then some (.str (natS (valP ds))) else none
    | none => none
  | _ => none
def gPCompare : List PV → Option PV
  | [.sl 1 es, .sl 1 fs] => match numsOf .u64 es, numsOf .u64 fs with
    | some ds, some cs => bif tightB ds && tightB cs then some (cmpN (valP ds) (valP cs)) else none
    | _, _ => none
  | _ => none

theorem gText_of {ds : List Nat} (h1 : ∀ d, d ∈ ds → d < 1000000000) (h2 : Tight ds) (h3 : ds.length ≤ 100000) : gText [.sl 1 (nums .u64 ds)] = some (.str (natS (valP ds))) := by
  simp only [gText, numsOf_nums, (tightB_iff ds).2 ⟨h1, h2, h3⟩, cond_true]
theorem gPCompare_of {ds cs : List Nat} (h1 : ∀ d, d ∈ ds → d < 1000000000) (h2 : Tight ds) (h3 : ds.length ≤ 100000) (k1 : ∀ d, d ∈ cs → d < 1000000000) (k2 : Tight cs) (k3 : cs.length ≤ 100000) : gPCompare [.sl 1 (nums .u64 ds), .sl 1 (nums .u64 cs)] = some (cmpN (valP ds) (valP cs)) := by
  simp only [gPCompare, numsOf_nums, (tightB_iff ds).2 ⟨h1, h2, h3⟩, (tightB_iff cs).2 ⟨k1, k2, k3⟩, Bool.and_self, cond_true]

def gdCanonical : List PV → Option PV
  | [.str s] => if s.size ≤ 20000 then some (.bool (canL s.data.toList)) else none
  | _ => none
def gdCheck : List PV → Option PV
  | [.str s] => if s.size ≤ 20000 then some (.int .i64 (bif canL s.data.toList && Nat.ble s.size 400 then 0 else 2)) else none
  | _ => none

section
variable {T : Tab} (hb : T.body = bodies.get)
include hb
set_option maxRecDepth 10000

theorem text_ok : ∀ args r, gText args = some r → ∃ L d n, evPure T L d n 185 args = some r := by
  intro args r hg
  unfold gText at hg
  split at hg
  · rename_i es
    split at hg
    · rename_i ds hn
      cases ht : tightB ds with
      | false => rw [ht] at hg; cases hg
      | true =>
        rw [ht] at hg; cases hg
        rw [numsOf_some hn]
        obtain ⟨h1, h2, h3⟩ := (tightB_iff ds).1 ht
        exact pure_of ((text_ev (T := T) (L := 1100000) (d := 0) (by rw [hb]; rfl) (by rw [hb]; rfl) h1 h3 h2 (by omega)).mono fun _ _ h => h) fun _ => rfl
    · cases hg
  · cases hg

theorem pcompare_in {L d : Nat} {ds cs : List Nat} (h1 : ∀ d, d ∈ ds → d < 1000000000) (h2 : ∀ d, d ∈ cs → d < 1000000000) (h3 : Tight ds) (h4 : Tight cs) (h5 : ds.length ≤ 100000) (h6 : cs.length ≤ 100000) (hL : 1100000 < L) :
    Gt (evF T L (d + 1) 189 [.sl 1 (nums .u64 ds), .sl 1 (nums .u64 cs)] []) fun v _ => v = cmpN (valP ds) (valP cs) := by
  refine Gt_evF (by rw [hb]; rfl) rfl fun R hR => ?_
  have short : ∀ {a c : List Nat}, (∀ d, d ∈ a → d < 1000000000) → (∀ d, d ∈ c → d < 1000000000) → Tight c → a.length < c.length → valP a < valP c := by
    intro a c ha hc ht hl
    have h1 := valP_lt a ha
    have h2 := tight_lb ht (by intro h; subst h; simp at hl)
    have : 1000000000 ^ a.length ≤ 1000000000 ^ (c.length - 1) := Nat.pow_le_pow_right (by omega) (by omega)
    omega
  by_cases hlt : ds.length < cs.length
  · have hv := short h1 h2 h4 hlt
    have e1 : ¬ ((ds.length : Int) = cs.length) := by omega
    have e1' : ¬ (ds.length = cs.length) := by omega
    have w : IntKind.i64.wrap ((ds.length : Int) - cs.length) = (ds.length : Int) - cs.length := wrap_i64 (by omega) (by omega)
    have mx : max (-1) ((ds.length : Int) - cs.length) = -1 := by omega
    simp [s189, Nat.beq, e1, e1', w, mx]
    exact hR _ _ (cmpN_lt hv).symm
  · by_cases hgt : cs.length < ds.length
    · have hv := short h2 h1 h3 hgt
      have e1 : ¬ ((ds.length : Int) = cs.length) := by omega
      have e1' : ¬ (ds.length = cs.length) := by omega
      have w : IntKind.i64.wrap ((ds.length : Int) - cs.length) = (ds.length : Int) - cs.length := wrap_i64 (by omega) (by omega)
      have mx : min 1 (max (-1) ((ds.length : Int) - cs.length)) = 1 := by omega
      simp [s189, Nat.beq, e1, e1', w, mx]
      exact hR _ _ (cmpN_gt hv).symm
    · have he : ds.length = cs.length := by omega
      have w0 : IntKind.i64.wrap ((cs.length : Int) - 1) = (cs.length : Int) - 1 := wrap_i64 (by omega) (by omega)
      simp [s189, Nat.beq, he, w0]
      refine Wk_loop (fun k e ρ1 => k ≤ cs.length ∧ ρ1 = [] ∧ e 0 = .sl 1 (nums .u64 ds) ∧ e 1 = .sl 1 (nums .u64 cs) ∧ e 5 = .int .i64 ((k : Int) - 1) ∧ valP (ds.drop k) = valP (cs.drop k)) cs.length (by omega)
        ⟨Nat.le_refl _, rfl, by simp [Nat.beq], by simp [Nat.beq], by simp [Nat.beq], by rw [List.drop_of_length_le (by omega), List.drop_of_length_le (Nat.le_refl _)]⟩ ?_
      rintro k e _ ⟨hk, rfl, g0, g1, g5, gv⟩ R2 hnor hex hret
      cases k with
      | zero =>
        simp [s189_0, g5, Nat.beq]
        refine hex _ _ _ ?_
        simp [Nat.beq]
        refine hR _ _ ?_
        have : valP ds = valP cs := by simpa using gv
        rw [this, cmpN_eq]
      | succ j =>
        have e5 : ((j + 1 : Nat) : Int) - 1 = (j : Int) := by omega
        rw [e5] at g5
        have hjd : j < ds.length := by omega
        have hjc : j < cs.length := by omega
        have w1 : IntKind.i64.wrap ((j : Int) - 1) = (j : Int) - 1 := wrap_i64 (by omega) (by omega)
        have sd := valP_split ds j (by omega)
        have sc := valP_split cs j (by omega)
        rw [List.drop_eq_getElem_cons hjd] at sd
        rw [List.drop_eq_getElem_cons hjc] at sc
        have ld := valP_lt (ds.take j) fun d hd => h1 d (List.mem_of_mem_take hd)
        have lc := valP_lt (cs.take j) fun d hd => h2 d (List.mem_of_mem_take hd)
        rw [List.length_take, Nat.min_eq_left (by omega)] at ld lc
        simp only [valP] at sd sc
        obtain ⟨x, hx⟩ : ∃ x, ds[j] = x := ⟨_, rfl⟩
        obtain ⟨y, hy⟩ : ∃ y, cs[j] = y := ⟨_, rfl⟩
        rw [hx, gv] at sd
        rw [hy] at sc
        have key : ∀ {a b p q z P : Nat}, p < P → a < b → p + P * (a + 1000000000 * z) < q + P * (b + 1000000000 * z) := by
          intro a b p q z P h1 h2
          have : P * (a + 1 + 1000000000 * z) ≤ P * (b + 1000000000 * z) := Nat.mul_le_mul_left _ (by omega)
          have e : P * (a + 1 + 1000000000 * z) = P * (a + 1000000000 * z) + P := by grind
          omega
        by_cases hxy : x < y
        · have hv : valP ds < valP cs := by rw [sd, sc]; exact key ld hxy
          simp [s189_0, g0, g1, g5, Nat.beq, hjd, hjc, hx, hy, joinCells, hxy]
          refine hret _ _ ?_
          simp [Nat.beq]
          exact hR _ _ (cmpN_lt hv).symm
        · by_cases hyx : y < x
          · have hv : valP cs < valP ds := by rw [sd, sc]; exact key lc hyx
            have hxy' : ¬ ((x : Int) < y) := by omega
            simp [s189_0, g0, g1, g5, Nat.beq, hjd, hjc, hx, hy, joinCells, hxy, hyx]
            refine hret _ _ ?_
            simp [Nat.beq]
            exact hR _ _ (cmpN_gt hv).symm
          · have hxe : x = y := by omega
            subst hxe
            simp [s189_0, g0, g1, g5, Nat.beq, hjd, hjc, hx, hy, joinCells, w1]
            refine hnor j _ _ (by omega) ⟨by omega, rfl, by simp [Nat.beq, g0], by simp [Nat.beq, g1], by simp [Nat.beq], ?_⟩
            rw [List.drop_eq_getElem_cons hjd, List.drop_eq_getElem_cons hjc, hx, hy]
            simp only [valP, gv]

theorem pcompare_ok : ∀ args r, gPCompare args = some r → ∃ L d n, evPure T L d n 189 args = some r := by
  intro args r hg
  unfold gPCompare at hg
  split at hg
  · rename_i es fs
    split at hg
    · rename_i ds cs hn hm
      cases ht : tightB ds && tightB cs with
      | false => rw [ht] at hg; cases hg
      | true =>
        rw [ht] at hg; cases hg
        rw [Bool.and_eq_true] at ht
        rw [numsOf_some hn, numsOf_some hm]
        obtain ⟨h1, h2, h3⟩ := (tightB_iff ds).1 ht.1
        obtain ⟨k1, k2, k3⟩ := (tightB_iff cs).1 ht.2
        refine pure_of (pcompare_in hb (L := 1100001) (d := 0) h1 k1 h2 k2 h3 k3 (by omega)) fun _ => ?_
        unfold cmpN; rfl
    · cases hg
  · cases hg

theorem dCanonical_ok : ∀ args r, gdCanonical args = some r → ∃ L d n, evPure T L d n 200 args = some r := by
  intro args r hg
  unfold gdCanonical at hg
  split at hg
  · rename_i s
    split at hg
    · rename_i hs
      cases hg
      have hB : T.body 200 = some s200 := by rw [hb]; rfl
      refine pure_of (L := 20010) (d := 1) (Gt_evF hB rfl fun R hR => ?_) fun _ => rfl
      obtain ⟨l, hl⟩ : ∃ l, s.data.toList = l := ⟨_, rfl⟩
      have hll : l.length = s.size := by rw [← hl, Array.length_toList]; rfl
      rw [hl] at hR
      simp [s200, Nat.beq, hl]
      refine Wk_loop (fun k e ρ1 => ∃ i, k = l.length - i ∧ i ≤ l.length ∧ ρ1 = [] ∧ e 0 = .str s ∧ e 6 = .sl 1 (bys l) ∧ e 7 = .int .i64 l.length ∧ e 8 = .int .i64 (i : Nat) ∧ ∀ b, b ∈ l.take i → digB b = true) l.length (by omega)
        ⟨0, by omega, by omega, rfl, by simp [Nat.beq], by simp [Nat.beq, bys], by simp [Nat.beq], by simp [Nat.beq], by simp⟩ ?_
      rintro k e _ ⟨i, rfl, hi, rfl, g0, g6, g7, g8, gd⟩ R2 hnor hex hret
      by_cases hlt : (i : Int) < l.length
      · have hlt' : i < l.length := by omega
        have hg := bys_get l i hlt'
        have w1 : IntKind.i64.wrap ((i : Int) + 1) = ((i + 1 : Nat) : Int) := by rw [wrap_i64 (by omega) (by omega)]; omega
        have hmem : l[i] ∈ l := List.getElem_mem hlt'
        obtain ⟨b, hbe⟩ : ∃ b, l[i] = b := ⟨_, rfl⟩
        rw [hbe] at hg hmem
        have bad : digB b = false → canL l = false := by
          intro hd
          unfold canL
          rw [Bool.and_eq_false_iff]
          left
          rw [List.all_eq_false]
          exact ⟨b, hmem, by simp [hd]⟩
        by_cases h48 : b.toNat < 48
        · have h48' : (b.toNat : Int) < 48 := by omega
          simp [s200_0, g0, g6, g7, g8, Nat.beq, hlt, hlt', hg, hbe, joinCells, h48, h48']
          refine hret _ _ ?_
          simp [Nat.beq]
          refine hR _ _ ?_
          rw [bad (digB_false (.inl h48))]
        · have h48' : ¬ (b.toNat : Int) < 48 := by omega
          by_cases h57 : 57 < b.toNat
          · have h57' : (57 : Int) < b.toNat := by omega
            simp [s200_0, g0, g6, g7, g8, Nat.beq, hlt, hlt', hg, hbe, joinCells, h48, h48', h57, h57']
            refine hret _ _ ?_
            simp [Nat.beq]
            refine hR _ _ ?_
            rw [bad (digB_false (.inr h57))]
          · have h57' : ¬ (57 : Int) < b.toNat := by omega
            simp [s200_0, g0, g6, g7, g8, Nat.beq, hlt, hlt', hg, hbe, joinCells, h48, h48', h57, h57', w1]
            refine hnor _ _ _ (by omega) ⟨i + 1, rfl, by omega, rfl, by simp [Nat.beq, g0], by simp [Nat.beq, g6], by simp [Nat.beq, g7], by simp [Nat.beq], ?_⟩
            intro c hc
            rw [List.take_add_one, List.getElem?_eq_getElem hlt', hbe] at hc
            rcases List.mem_append.1 hc with h | h
            · exact gd c h
            · have : c = b := by simpa using h
              subst this
              exact digB_true h48 h57
      · have hlt' : ¬ i < l.length := by omega
        rw [List.take_of_length_le (by omega)] at gd
        have hall : l.all digB = true := List.all_eq_true.2 gd
        simp [s200_0, g7, g8, Nat.beq, hlt, hlt']
        refine hex _ _ _ ?_
        by_cases h1 : s.size = 1
        · have hc : canL l = true := by unfold canL; rw [hall, hll, h1]; rfl
          rw [hc] at hR
          simp [Nat.beq, g0, h1]
          exact hR _ _ rfl
        · by_cases h2 : 1 < s.size
          · obtain ⟨b, r, hbr⟩ : ∃ b r, l = b :: r := by
              cases l with
              | nil => simp at hll; omega
              | cons b r => exact ⟨b, r, rfl⟩
            have hs0 : s[0]? = some b := by
              have h3 : s.data[0]? = some b := by rw [← Array.getElem?_toList, hl, hbr]; rfl
              have h0 : 0 < s.size := by omega
              have h4 : s[0]? = some s[0] := getElem?_pos s 0 h0
              have h5 : s.data[0]? = some (s.data[0]'h0) := getElem?_pos s.data 0 h0
              rw [h5] at h3
              rw [h4]
              exact h3
            have hc : canL l = !(Nat.beq b.toNat 48) := by
              unfold canL
              rw [hall, hll]
              have : Nat.beq s.size 1 = false := by
                cases h : Nat.beq s.size 1 with
                | false => rfl
                | true => exact absurd (Nat.eq_of_beq_eq_true h) h1
              rw [this, hbr]; rfl
            rw [hc] at hR
            by_cases hb48 : b.toNat = 48
            · have hb48' : (b.toNat : Int) = 48 := by omega
              simp [Nat.beq, g0, h1, h2, hs0, hb48, hb48']
              refine hR _ _ ?_
              rw [hb48]; rfl
            · have hb48' : ¬ (b.toNat : Int) = 48 := by omega
              have hbq : Nat.beq b.toNat 48 = false := by
                cases h : Nat.beq b.toNat 48 with
                | false => rfl
                | true => exact absurd (Nat.eq_of_beq_eq_true h) hb48
              rw [hbq] at hR
              simp [Nat.beq, g0, h1, h2, hs0, hb48, hb48']
              exact hR _ _ rfl
          · have h0 : l = [] := by
              cases l with
              | nil => rfl
              | cons b r => simp at hll; omega
            have hc : canL l = false := by rw [h0]; rfl
            rw [hc] at hR
            simp [Nat.beq, g0, h1, h2]
            exact hR _ _ rfl
    · cases hg
  · cases hg

theorem dCheck_ok (h1 : T.pure 200 = some gdCanonical) : ∀ args r, gdCheck args = some r → ∃ L d n, evPure T L d n 158 args = some r := by
  intro args r hg
  unfold gdCheck at hg
  split at hg
  · rename_i s
    split at hg
    · rename_i hs
      cases hg
      have hB : T.body 158 = some s158 := by rw [hb]; rfl
      cases hc : canL s.data.toList with
      | false =>
        refine pure_of (L := 1) (d := 1) (Gt_evF hB rfl fun R hR => ?_) fun _ => rfl
        simp [s158, Nat.beq, h1, gdCanonical, hs, hc]
        exact hR _ _ rfl
      | true =>
        by_cases h4 : s.size ≤ 400
        · have h4' : ¬ 400 < s.size := by omega
          have hble : Nat.ble s.size 400 = true := by rw [Nat.ble_eq]; exact h4
          refine pure_of (L := 1) (d := 1) (Gt_evF hB rfl fun R hR => ?_) fun _ => rfl
          simp [s158, Nat.beq, h1, gdCanonical, hs, hc, h4']
          exact hR _ _ (by rw [hble]; rfl)
        · have h4' : 400 < s.size := by omega
          have hble : Nat.ble s.size 400 = false := by
            cases h : Nat.ble s.size 400 with
            | false => rfl
            | true => rw [Nat.ble_eq] at h; omega
          refine pure_of (L := 1) (d := 1) (Gt_evF hB rfl fun R hR => ?_) fun _ => rfl
          simp [s158, Nat.beq, h1, gdCanonical, hs, hc, h4']
          exact hR _ _ (by rw [hble]; rfl)
    · cases hg
  · cases hg

end

end Go.Proofs.YtkccoijckckhmaaGreatDoor.Ev

namespace Go.Proofs.YtkccoijckckhmaaGreatDoor.Ev
open Go

@[simp] theorem nums_take (k : IntKind) (l : List Nat) (t : Nat) : (nums k l).take t = nums k (l.take t) := by simp [nums, List.map_take]
theorem nums_snoc0 (k : IntKind) (l : List Nat) : nums k l ++ [[PV.int k 0]] = nums k (l ++ [0]) := by simp [nums]
theorem nums_zeros (k : IntKind) (l : List Nat) (n : Nat) : nums k l ++ List.replicate n [PV.int k 0] = nums k (l ++ List.replicate n 0) := by simp [nums]

theorem tight_take {ds : List Nat} {m : Nat} (hm : m ≤ ds.length) (h : m = 0 ∨ ds[m - 1]?.getD 0 ≠ 0) : Tight (ds.take m) := by
  rcases h with h | h
  · left; subst h; rfl
  · rcases Nat.eq_zero_or_pos m with h0 | h0
    · left; subst h0; rfl
    · right; rw [List.length_take, Nat.min_eq_left hm, List.getElem?_take_of_lt (by omega)]; exact h

theorem pcs_text {ds : List Nat} {m n : Nat} (hm : m ≤ ds.length) (hl : m ≤ 100000) (hd : ∀ d, d ∈ ds → d < 1000000000) (hv : valP (ds.take m) = n) (h : m = 0 ∨ ds[m - 1]?.getD 0 ≠ 0) : gText [.sl 1 (nums .u64 (ds.take m))] = some (.str (natS n)) := by
  rw [gText_of (fun d hd' => hd d (List.mem_of_mem_take hd')) (tight_take hm h) (by rw [List.length_take]; omega), hv]

theorem cut_len {s : ByteArray} {n m : Nat} {ds : List Nat} (hs : decV s = some n) (hm : m ≤ ds.length) (hd : ∀ d, d ∈ ds → d < 1000000000) (hv : valP (ds.take m) = n) (h : m = 0 ∨ ds[m - 1]?.getD 0 ≠ 0) : m ≤ 20000 := by
  obtain ⟨c1, c2, c3, c4⟩ := decV_some hs
  rcases Nat.eq_zero_or_pos m with h0 | h0
  · omega
  · have h1 := tight_lb (tight_take hm h) (by
      intro h'
      have h'' : (ds.take m).length = 0 := by rw [h']; rfl
      rw [List.length_take, Nat.min_eq_left hm] at h''
      omega)
    rw [hv, List.length_take, Nat.min_eq_left hm] at h1
    have h2 := valL_lt _ c1.1
    rw [c2, c4] at h2
    have h3 : 10 ^ (9 * (m - 1)) < 10 ^ s.size := by
      rw [show (1000000000 : Nat) = 10 ^ 9 from rfl, ← Nat.pow_mul] at h1
      omega
    have := (Nat.pow_lt_pow_iff_right (by omega : 1 < 10)).1 h3
    omega

theorem sub_end {V W U E bo m n : Nat} (h : V + 1000000000 ^ 0 * (1 * W) = U + 1000000000 ^ E * bo) (hW : W = n) (hU : U = m) (hnm : n ≤ m) (hV : V < 1000000000 ^ E) (hbo : bo ≤ 1) : V = m - n := by
  rw [Nat.pow_zero, Nat.one_mul, Nat.one_mul, hW, hU] at h
  clear hW hU
  generalize 1000000000 ^ E = X at h hV
  rcases Nat.eq_zero_or_pos bo with h0 | h0
  · subst h0
    rw [Nat.mul_zero] at h
    omega
  · have : bo = 1 := by omega
    subst this
    rw [Nat.mul_one] at h
    omega

theorem add_end {V W U E e ca m n : Nat} (h : V + 1000000000 ^ E * ca = U + 1000000000 ^ 0 * W) (hW : W = n) (hU : U = m) (hm : m < 1000000000 ^ e) (hn : n < 1000000000 ^ e) (hE : E = e + 1) (hca : ca ≤ 1) : V = m + n := by
  subst hE
  rw [Nat.pow_zero, Nat.one_mul, hW, hU, Nat.pow_succ] at h
  clear hW hU
  generalize 1000000000 ^ e = X at h hm hn
  rcases Nat.eq_zero_or_pos ca with h0 | h0
  · subst h0
    rw [Nat.mul_zero] at h
    omega
  · have : ca = 1 := by omega
    subst this
    rw [Nat.mul_one] at h
    omega

theorem val_zeros {l : List Nat} {m k n v : Nat} (hl : l.length = m) (hv : valP l = v) (hk : k = m + n) : valP ((l ++ List.replicate n 0).take k) = v := by
  rw [List.take_of_length_le (by rw [List.length_append, hl, List.length_replicate]; omega), valP_append, valP_zeros, hv, Nat.mul_zero, Nat.add_zero]

/-- The table holds what layer 1 calls. -/
structure DecT (T : Tab) : Prop where
  body : T.body = bodies.get
  both : T.pure 181 = some gdBoth
  of : T.pure 182 = some gdOf
  text : T.pure 185 = some gText
  pcompare : T.pure 189 = some gPCompare
  compare : T.pure 176 = some gdCompare

theorem gdBoth_of {a b : ByteArray} {m n : Nat} (h1 : decV a = some m) (h2 : decV b = some n) : gdBoth [.str a, .str b] = some (if a.size ≤ 18 ∧ b.size ≤ 18 then .tup [.int .u64 m, .int .u64 n, .bool true] else .tup [.int .u64 0, .int .u64 0, .bool false]) := by
  simp only [gdBoth, h1, h2]
theorem gdOf_of {n : Nat} (h : n < 18446744073709551616) : gdOf [.int .u64 n] = some (.str (natS n)) := by
  show (bif Nat.blt n 18446744073709551616 then some (PV.str (natS n)) else none) = _
  rw [blt_t h]; rfl

section
variable {T : Tab} (hT : DecT T)
include hT
set_option maxRecDepth 10000

theorem cut_evT {L d : Nat} {s : ByteArray} {n : Nat} {ρ : Store} (hs : decV s = some n) (hL : 1000000 < L) :
    Gt (evF T L (d + 2) 183 [.str s] ρ) fun v ρ' => Ext ρ ρ' ∧ Pcs ρ ρ' v n := by
  obtain ⟨c1, c2, c3, c4⟩ := decV_some hs
  have := cut_ev (T := T) (L := L) (d := d) (s := s) (ρ := ρ) (by rw [hT.body]; rfl) (by rw [hT.body]; rfl) c1.1 (by omega) (by omega)
  rwa [c2] at this

theorem trim_text {L d id n v : Nat} {ρ : Store} {xs : List Nat} (hrow : ρ[id]? = some ⟨1, nums .u64 xs, true⟩) (hn : n = xs.length) (hxl : n ≤ 20001) (xd : ∀ d, d ∈ xs → d < 1000000000) (hv : valP xs = v) (hL : 1100000 < L) :
    Gt (evF T L (d + 1) 193 [.ms id 1 0 n] ρ) fun u ρ' => ∃ tt, u = .ms id 1 0 tt ∧ ρ' = ρ ∧ tt ≤ xs.length ∧ gText [.sl 1 (nums .u64 (xs.take tt))] = some (.str (natS v)) := by
  have htx := trimN_le xs n
  have gt := pcs_text (ds := xs) (m := trimN xs n) (by omega) (by omega) xd (by rw [trimN_val xs _ (by omega), List.take_of_length_le (by omega), hv]) (trimN_top _ _)
  exact (trim_ev (T := T) (L := L) (d := d) (n := n) (ds := xs) (l := true) (by rw [hT.body]; rfl) hrow (by omega) (by omega) (by omega)).mono fun v ρ' h => ⟨_, h.1, h.2, by omega, gt⟩

theorem dAdd_ok : ∀ args r, gdAdd args = some r → ∃ L d n, evPure T L d n 149 args = some r := by
  intro args r hg
  obtain ⟨a, b, m, n, rfl, ha, hb, rfl⟩ := dec2_some hg
  have hB : T.body 149 = some s149 := by rw [hT.body]; rfl
  have hbo := gdBoth_of ha hb
  obtain ⟨L, hL⟩ : ∃ L : Nat, 1100000 < L := ⟨1100001, by omega⟩
  refine pure_of (L := L) (d := 5) (Gt_evF hB rfl fun R hR => ?_) fun _ => rfl
  by_cases hc : a.size ≤ 18 ∧ b.size ≤ 18
  · rw [if_pos hc] at hbo
    have hm := dec_small ha hc.1
    have hn := dec_small hb hc.2
    have w : IntKind.u64.wrap ((m : Int) + (n : Int)) = ((m + n : Nat) : Int) := by rw [wrap_u64 (by omega) (by omega)]; omega
    have ho := gdOf_of (n := m + n) (by omega)
    obtain ⟨mn, hmn⟩ : ∃ y, m + n = y := ⟨_, rfl⟩
    rw [hmn] at w ho hR
    simp [s149, Nat.beq, hT.both, hbo, w, hT.of, ho]
    exact hR _ _ rfl
  · rw [if_neg hc] at hbo
    simp [s149, Nat.beq, hT.both, hbo]
    refine stepV_gt (cut_evT hT (d := 2) ha (by omega)) ?_
    rintro v ρ1 ⟨ext1, id1, m1, ds1, rfl, r1, r1l, hm1, hd1, hds1, hv1, ht1⟩
    simp [Nat.beq]
    refine stepV_gt (cut_evT hT (d := 2) hb (by omega)) ?_
    rintro v ρ2 ⟨ext2, id2, m2, ds2, rfl, r2, r2l, hm2, hd2, hds2, hv2, ht2⟩
    have r1' := ext2.get r1
    have hid : id1 < ρ1.length := Rds.lt r1
    have l1 := cut_len ha hm1 hds1 hv1 ht1
    have l2 := cut_len hb hm2 hds2 hv2 ht2
    clear r1 ext1 r1l
    by_cases hlt : m1 < m2
    · skip
      have hle : m1 ≤ m2 := by omega
      have hne : id2 ≠ id1 := by omega
      have rp := r2
      have rq := r1'
      have c1 : m2 ≤ 1073741823 := by omega
      have w1 : IntKind.i64.wrap (m2 : Int) = m2 := wrap_i64 (by omega) (by omega)
      obtain ⟨dz, hdz⟩ : ∃ y, m2 - m1 = y := ⟨_, rfl⟩
      have w2 : IntKind.i64.wrap ((m2 : Int) - (m1 : Int)) = (dz : Int) := by rw [wrap_i64 (by omega) (by omega)]; omega
      have rq3 : ∀ t u : Tok, (ρ2.set id2 t ++ [u])[id1]? = some ⟨1, nums .u64 ds1, true⟩ := fun t u => by
        rw [List.getElem?_append_left (by rw [List.length_set]; exact Rds.lt rq), List.getElem?_set_ne hne]; exact rq
      have c3 : m1 + dz ≤ 1073741824 := by omega
      have c4 : (dz : Int) ≤ 1073741824 := by omega
      have call0 : (List.replicate dz [PV.int .u64 0]).all (fun cs => cs.all one) = true := List.all_eq_true.2 fun x hx => by rw [(List.mem_replicate.1 hx).2]; rfl
      simp [Nat.beq, hlt, fillElems, nCells, appElems, appTo, rp, hm2, c1, w1, w2, rq3, hm1, c3, c4, call0, nums_snoc0, nums_zeros]
      have hpl : id2 < ρ2.length := Rds.lt rp
      have hql : id1 < ρ2.length := Rds.lt rq
      have hpt : (ds2.take m2).length = m2 := by rw [List.length_take]; omega
      have hqt : (ds1.take m1).length = m1 := by rw [List.length_take]; omega
      refine stepV_gt (back_ev (d := 3) (ida := ρ2.length) (idb := ρ2.length + 1) (la := m2 + 1) (n := m1 + dz) (at_ := 0) (as := ds2.take m2 ++ [0]) (bs := ds1.take m1 ++ List.replicate dz 0) (l := true) (by rw [hT.body]; rfl) (by
          rw [List.getElem?_append_left (by simp), List.getElem?_set_ne (by omega), List.getElem?_append_right (by simp)]; simp)
        (by rw [List.getElem?_append_right (by simp)]; simp) (by omega) (by rw [List.length_append, hpt]; simp) (by rw [List.length_append, hqt]; simp) (by omega) (by rw [List.length_append, hpt]; simp; omega)
        (fun d hd => by
          rcases List.mem_append.1 hd with h | h
          · exact hds2 d (List.mem_of_mem_take h)
          · rw [List.mem_singleton.1 h]; omega)
        (fun d hd => by
          rcases List.mem_append.1 (List.mem_of_mem_take hd) with h | h
          · exact hds1 d (List.mem_of_mem_take h)
          · rw [(List.mem_replicate.1 h).2]; omega) (by omega)) ?_
      rintro v ρ5 ⟨xs, ca, hca, rfl, hρ5, xl, xd, xv, _⟩
      have hrow : ρ5[ρ2.length]? = some ⟨1, nums .u64 xs, true⟩ := by rw [hρ5, List.getElem?_set_self (by simp; omega)]
      clear hρ5
      rw [List.length_append, hpt, List.length_singleton] at xl
      have b1 := valP_lt (ds2.take m2) fun d hd => hds2 d (List.mem_of_mem_take hd)
      have b2 := valP_lt (ds1.take m1) fun d hd => hds1 d (List.mem_of_mem_take hd)
      rw [hv2, hpt] at b1
      rw [hv1, hqt] at b2
      have b3 : 1000000000 ^ m1 ≤ 1000000000 ^ m2 := Nat.pow_le_pow_right (by omega) hle
      have hx0 := add_end xv (val_zeros hqt hv1 rfl) ((valP_zero _).trans hv2) b1 (Nat.lt_of_lt_of_le b2 b3) (by omega) hca
      clear xv b1 b2 b3
      have hx : valP xs = m + n := by
        first
          | exact hx0
          | exact hx0.trans (Nat.add_comm _ _)
      simp [Nat.beq]
      have htrim := trim_text hT (d := 3) (n := m2 + 1) hrow xl.symm (Nat.succ_le_succ l2) xd hx hL
      refine stepV_gt htrim ?_
      rintro v ρx ⟨tt, rfl, hρx, c5, gt⟩
      subst ρx
      simp [Nat.beq, hT.text, hrow, gt, c5, flat, flat1]
      exact hR _ _ rfl
    · skip
      have hle : m2 ≤ m1 := by omega
      have hne : id1 ≠ id2 := by omega
      have rp := r1'
      have rq := r2
      have c1 : m1 ≤ 1073741823 := by omega
      have w1 : IntKind.i64.wrap (m1 : Int) = m1 := wrap_i64 (by omega) (by omega)
      obtain ⟨dz, hdz⟩ : ∃ y, m1 - m2 = y := ⟨_, rfl⟩
      have w2 : IntKind.i64.wrap ((m1 : Int) - (m2 : Int)) = (dz : Int) := by rw [wrap_i64 (by omega) (by omega)]; omega
      have rq3 : ∀ t u : Tok, (ρ2.set id1 t ++ [u])[id2]? = some ⟨1, nums .u64 ds2, true⟩ := fun t u => by
        rw [List.getElem?_append_left (by rw [List.length_set]; exact Rds.lt rq), List.getElem?_set_ne hne]; exact rq
      have c3 : m2 + dz ≤ 1073741824 := by omega
      have c4 : (dz : Int) ≤ 1073741824 := by omega
      have call0 : (List.replicate dz [PV.int .u64 0]).all (fun cs => cs.all one) = true := List.all_eq_true.2 fun x hx => by rw [(List.mem_replicate.1 hx).2]; rfl
      simp [Nat.beq, hlt, fillElems, nCells, appElems, appTo, rp, hm1, c1, w1, w2, rq3, hm2, c3, c4, call0, nums_snoc0, nums_zeros]
      have hpl : id1 < ρ2.length := Rds.lt rp
      have hql : id2 < ρ2.length := Rds.lt rq
      have hpt : (ds1.take m1).length = m1 := by rw [List.length_take]; omega
      have hqt : (ds2.take m2).length = m2 := by rw [List.length_take]; omega
      refine stepV_gt (back_ev (d := 3) (ida := ρ2.length) (idb := ρ2.length + 1) (la := m1 + 1) (n := m2 + dz) (at_ := 0) (as := ds1.take m1 ++ [0]) (bs := ds2.take m2 ++ List.replicate dz 0) (l := true) (by rw [hT.body]; rfl) (by
          rw [List.getElem?_append_left (by simp), List.getElem?_set_ne (by omega), List.getElem?_append_right (by simp)]; simp)
        (by rw [List.getElem?_append_right (by simp)]; simp) (by omega) (by rw [List.length_append, hpt]; simp) (by rw [List.length_append, hqt]; simp) (by omega) (by rw [List.length_append, hpt]; simp; omega)
        (fun d hd => by
          rcases List.mem_append.1 hd with h | h
          · exact hds1 d (List.mem_of_mem_take h)
          · rw [List.mem_singleton.1 h]; omega)
        (fun d hd => by
          rcases List.mem_append.1 (List.mem_of_mem_take hd) with h | h
          · exact hds2 d (List.mem_of_mem_take h)
          · rw [(List.mem_replicate.1 h).2]; omega) (by omega)) ?_
      rintro v ρ5 ⟨xs, ca, hca, rfl, hρ5, xl, xd, xv, _⟩
      have hrow : ρ5[ρ2.length]? = some ⟨1, nums .u64 xs, true⟩ := by rw [hρ5, List.getElem?_set_self (by simp; omega)]
      clear hρ5
      rw [List.length_append, hpt, List.length_singleton] at xl
      have b1 := valP_lt (ds1.take m1) fun d hd => hds1 d (List.mem_of_mem_take hd)
      have b2 := valP_lt (ds2.take m2) fun d hd => hds2 d (List.mem_of_mem_take hd)
      rw [hv1, hpt] at b1
      rw [hv2, hqt] at b2
      have b3 : 1000000000 ^ m2 ≤ 1000000000 ^ m1 := Nat.pow_le_pow_right (by omega) hle
      have hx0 := add_end xv (val_zeros hqt hv2 rfl) ((valP_zero _).trans hv1) b1 (Nat.lt_of_lt_of_le b2 b3) (by omega) hca
      clear xv b1 b2 b3
      have hx : valP xs = m + n := by
        first
          | exact hx0
          | exact hx0.trans (Nat.add_comm _ _)
      simp [Nat.beq]
      have htrim := trim_text hT (d := 3) (n := m1 + 1) hrow xl.symm (Nat.succ_le_succ l1) xd hx hL
      refine stepV_gt htrim ?_
      rintro v ρx ⟨tt, rfl, hρx, c5, gt⟩
      subst ρx
      simp [Nat.beq, hT.text, hrow, gt, c5, flat, flat1]
      exact hR _ _ rfl

theorem dMul_ok : ∀ args r, gdMul args = some r → ∃ L d n, evPure T L d n 140 args = some r := by
  intro args r hg
  obtain ⟨a, b, m, n, rfl, ha, hb, rfl⟩ := dec2_some hg
  have hB : T.body 140 = some s140 := by rw [hT.body]; rfl
  have hbo := gdBoth_of ha hb
  obtain ⟨a1, a2, a3, a4⟩ := decV_some ha
  obtain ⟨b1, b2, b3, b4⟩ := decV_some hb
  obtain ⟨L, hL⟩ : ∃ L : Nat, 1100000 < L := ⟨1100001, by omega⟩
  refine pure_of (L := L) (d := 5) (Gt_evF hB rfl fun R hR => ?_) fun _ => rfl
  obtain ⟨sz, hsz⟩ : ∃ y, a.size + b.size = y := ⟨_, rfl⟩
  have w0 : IntKind.i64.wrap ((a.size : Int) + (b.size : Int)) = (sz : Int) := by rw [wrap_i64 (by omega) (by omega)]; omega
  by_cases hc : sz ≤ 18
  · rw [if_pos ⟨by omega, by omega⟩] at hbo
    have hm := valL_lt _ a1.1
    have hn := valL_lt _ b1.1
    rw [a2, a4] at hm
    rw [b2, b4] at hn
    have hmn : m * n < 10 ^ 18 := by
      have h1 : m * n ≤ 10 ^ a.size * n := Nat.mul_le_mul_right _ (by omega)
      have h2 : 10 ^ a.size * n < 10 ^ a.size * 10 ^ b.size := Nat.mul_lt_mul_of_pos_left hn (Nat.pow_pos (by omega))
      rw [← Nat.pow_add] at h2
      have h3 : 10 ^ (a.size + b.size) ≤ 10 ^ 18 := Nat.pow_le_pow_right (by omega) (by omega)
      omega
    obtain ⟨mn, hmn2⟩ : ∃ y, m * n = y := ⟨_, rfl⟩
    have w : IntKind.u64.wrap ((m : Int) * (n : Int)) = (mn : Int) := by rw [← hmn2, ← Int.natCast_mul, wrap_u64 (by omega) (by omega)]
    rw [hmn2] at hmn hR
    have ho := gdOf_of (n := mn) (by omega)
    simp [s140, Nat.beq, w0, hc, hT.both, hbo, w, hT.of, ho]
    exact hR _ _ rfl
  · simp [s140, Nat.beq, w0, hc]
    refine stepV_gt (cut_evT hT (d := 2) ha (by omega)) ?_
    rintro v ρ1 ⟨ext1, id1, m1, ds1, rfl, r1, r1l, hm1, hd1, hds1, hv1, ht1⟩
    simp [Nat.beq]
    refine stepV_gt (cut_evT hT (d := 2) hb (by omega)) ?_
    rintro v ρ2 ⟨ext2, id2, m2, ds2, rfl, r2, r2l, hm2, hd2, hds2, hv2, ht2⟩
    have r1' := ext2.get r1
    have l1 := cut_len ha hm1 hds1 hv1 ht1
    have l2 := cut_len hb hm2 hds2 hv2 ht2
    have hpt : (ds1.take m1).length = m1 := by rw [List.length_take]; omega
    have hqt : (ds2.take m2).length = m2 := by rw [List.length_take]; omega
    simp [Nat.beq]
    have ht := times_ev (T := T) (L := L) (d := 2) (ρ := ρ2) (pv := .ms id1 1 0 m1) (qv := .ms id2 1 0 m2) (ps := ds1.take m1) (qs := ds2.take m2) (by rw [hT.body]; rfl) (by rw [hT.body]; rfl) (.inr ⟨id1, m1, ds1, true, rfl, r1', hm1, rfl⟩) (.inr ⟨id2, m2, ds2, true, rfl, r2, hm2, rfl⟩) (fun d hd => hds1 d (List.mem_of_mem_take hd)) (fun d hd => hds2 d (List.mem_of_mem_take hd)) (by omega) (by omega)
    rw [hv1, hv2] at ht
    refine stepV_gt ht ?_
    rintro v ρ3 ⟨ext3, id3, m3, ds3, rfl, r3, r3l, hm3, hd3, hds3, hv3, ht3⟩
    have gt := pcs_text hm3 (by omega) hds3 hv3 ht3
    simp [Nat.beq, hT.text, r3, gt, hm3, flat, flat1]
    exact hR _ _ rfl

omit hT in
theorem bytes_nil : (bytes [] : ByteArray) = ⟨#[]⟩ := rfl

theorem dSub_ok : ∀ args r, gdSub args = some r → ∃ L d n, evPure T L d n 150 args = some r := by
  intro args r hg
  obtain ⟨a, b, m, n, rfl, ha, hb, rfl⟩ := dec2_some hg
  have hB : T.body 150 = some s150 := by rw [hT.body]; rfl
  have hbo := gdBoth_of ha hb
  have hcm : gdCompare [.str a, .str b] = some (cmpN m n) := by simp only [gdCompare, dec2, ha, hb]
  by_cases hlt : m < n
  · rw [blt_t hlt, cond_true]
    rw [cmpN_lt hlt] at hcm
    obtain ⟨L, hL⟩ : ∃ L : Nat, 1100000 < L := ⟨1100001, by omega⟩
    refine pure_of (L := L) (d := 5) (Gt_evF hB rfl fun R hR => ?_) fun _ => rfl
    simp [s150, Nat.beq, hT.compare, hcm]
    exact hR _ _ rfl
  · rw [blt_f hlt, cond_false]
    obtain ⟨L, hL⟩ : ∃ L : Nat, 1100000 < L := ⟨1100001, by omega⟩
    refine pure_of (L := L) (d := 5) (Gt_evF hB rfl fun R hR => ?_) fun _ => rfl
    obtain ⟨cv, hcv, hcv0⟩ : ∃ cv : Int, gdCompare [.str a, .str b] = some (.int .i64 cv) ∧ ¬ cv < 0 := by
      rcases Nat.lt_or_ge n m with h | h
      · exact ⟨1, by rw [hcm, cmpN_gt h], by omega⟩
      · have : m = n := by omega
        subst this
        exact ⟨0, by rw [hcm, cmpN_eq], by omega⟩
    by_cases hc : a.size ≤ 18 ∧ b.size ≤ 18
    · rw [if_pos hc] at hbo
      have hm := dec_small ha hc.1
      have w : IntKind.u64.wrap ((m : Int) - (n : Int)) = ((m - n : Nat) : Int) := by rw [wrap_u64 (by omega) (by omega)]; omega
      have ho := gdOf_of (n := m - n) (by omega)
      obtain ⟨mn, hmn⟩ : ∃ y, m - n = y := ⟨_, rfl⟩
      rw [hmn] at w ho hR
      simp [s150, Nat.beq, hT.compare, hcv, hcv0, hT.both, hbo, w, hT.of, ho]
      exact hR _ _ rfl
    · rw [if_neg hc] at hbo
      simp [s150, Nat.beq, hT.compare, hcv, hcv0, hT.both, hbo]
      refine stepV_gt (cut_evT hT (d := 2) ha (by omega)) ?_
      rintro v ρ1 ⟨ext1, id1, m1, ds1, rfl, r1, r1l, hm1, hd1, hds1, hv1, ht1⟩
      have l1 := cut_len ha hm1 hds1 hv1 ht1
      have c1 : m1 ≤ 1073741823 := by omega
      have hid1 := Rds.lt r1
      simp [Nat.beq, fillElems, nCells, appElems, appTo, r1, hm1, c1, nums_snoc0]
      obtain ⟨ρ2, hρ2⟩ : ∃ st : Store, st = ρ1.set id1 ⟨1, [], false⟩ ++ [⟨1, nums .u64 (ds1.take m1 ++ [0]), true⟩] := ⟨_, rfl⟩
      have rp2 : ρ2[ρ1.length]? = some ⟨1, nums .u64 (ds1.take m1 ++ [0]), true⟩ := by rw [hρ2, List.getElem?_append_right (by simp)]; simp
      rw [← hρ2]
      clear hρ2
      refine stepV_gt (cut_evT hT (d := 2) hb (by omega)) ?_
      rintro v ρ3 ⟨ext3, id2, m2, ds2, rfl, r2, r2l, hm2, hd2, hds2, hv2, ht2⟩
      have l2 := cut_len hb hm2 hds2 hv2 ht2
      have w1 : IntKind.i64.wrap (m1 : Int) = m1 := wrap_i64 (by omega) (by omega)
      simp [Nat.beq, w1]
      refine stepV_gt (cut_evT hT (d := 2) hb (by omega)) ?_
      rintro v ρ4 ⟨ext4, id3, m3, ds3, rfl, r3, r3l, hm3, hd3, hds3, hv3, ht3⟩
      have hpt : (ds1.take m1).length = m1 := by rw [List.length_take]; omega
      have hqt : (ds2.take m2).length = m2 := by rw [List.length_take]; omega
      have hst : (ds3.take m3).length = m3 := by rw [List.length_take]; omega
      -- the lengths
      have lens : ∀ {v : Nat} {xs ys : List Nat}, (∀ d, d ∈ xs → d < 1000000000) → Tight ys → valP ys ≤ valP xs → ys.length ≤ xs.length := by
        intro v xs ys h1 h2 h3
        rcases Nat.eq_zero_or_pos ys.length with h | h
        · omega
        · have h4 := tight_lb h2 (List.length_pos_iff.1 h)
          have h5 := valP_lt xs h1
          have := (Nat.pow_lt_pow_iff_right (by omega : 1 < 1000000000)).1 (Nat.lt_of_le_of_lt (Nat.le_trans h4 h3) h5)
          omega
      have hm31 : m3 ≤ m1 := by
        have := lens (v := 0) (xs := ds1.take m1) (ys := ds3.take m3) (fun d hd => hds1 d (List.mem_of_mem_take hd)) (tight_take hm3 ht3) (by rw [hv3, hv1]; omega)
        omega
      have hm32 : m3 = m2 := by
        have h1 := lens (v := 0) (xs := ds2.take m2) (ys := ds3.take m3) (fun d hd => hds2 d (List.mem_of_mem_take hd)) (tight_take hm3 ht3) (by rw [hv3, hv2]; omega)
        have h2 := lens (v := 0) (xs := ds3.take m3) (ys := ds2.take m2) (fun d hd => hds3 d (List.mem_of_mem_take hd)) (tight_take hm2 ht2) (by rw [hv3, hv2]; omega)
        omega
      subst hm32
      have rp := ext4.get (ext3.get rp2)
      have rq := ext4.get r2
      have hpl := Rds.lt rp
      have hql := Rds.lt rq
      have hlen2 : ρ1.length < ρ2.length := Rds.lt rp2
      have hne : id2 ≠ ρ1.length := by omega
      obtain ⟨dz, hdz⟩ : ∃ y, m1 - m3 = y := ⟨_, rfl⟩
      have w2 : IntKind.i64.wrap ((m1 : Int) - (m3 : Int)) = (dz : Int) := by rw [wrap_i64 (by omega) (by omega)]; omega
      have c3 : m3 + dz ≤ 1073741824 := by omega
      have c4 : (dz : Int) ≤ 1073741824 := by omega
      have call0 : (List.replicate dz [PV.int .u64 0]).all (fun cs => cs.all one) = true := List.all_eq_true.2 fun x hx => by rw [(List.mem_replicate.1 hx).2]; rfl
      simp [Nat.beq, w2, appTo, rq, hm2, c3, c4, call0, nums_zeros]
      refine stepV_gt (take_ev (d := 3) (ida := ρ1.length) (idb := ρ4.length) (la := m1 + 1) (n := m3 + dz) (at_ := 0) (g := 1) (as := ds1.take m1 ++ [0]) (bs := ds2.take m3 ++ List.replicate dz 0) (l := true) (by rw [hT.body]; rfl) (by
          rw [List.getElem?_append_left (by simpa using hpl), List.getElem?_set_ne hne]; exact rp)
        (by rw [List.getElem?_append_right (by simp)]; simp) (by omega) (by rw [List.length_append, hpt]; simp) (by rw [List.length_append, hqt]; simp) (by omega) (by rw [List.length_append, hpt]; simp; omega) (by omega)
        (fun d hd => by
          rcases List.mem_append.1 hd with h | h
          · exact hds1 d (List.mem_of_mem_take h)
          · rw [List.mem_singleton.1 h]; omega)
        (fun d hd => by
          rcases List.mem_append.1 (List.mem_of_mem_take hd) with h | h
          · exact hds2 d (List.mem_of_mem_take h)
          · rw [(List.mem_replicate.1 h).2]; omega) (by omega)) ?_
      rintro v ρ5 ⟨xs, bo, hbo, rfl, hρ5, xl, xd, xv, _⟩
      have hrow : ρ5[ρ1.length]? = some ⟨1, nums .u64 xs, true⟩ := by rw [hρ5, List.getElem?_set_self (by simp; omega)]
      clear hρ5
      rw [List.length_append, hpt, List.length_singleton] at xl
      have bx := valP_lt xs xd
      rw [xl] at bx
      have hx := sub_end xv (val_zeros hqt hv2 rfl) ((valP_zero _).trans hv1) (Nat.le_of_not_lt hlt) (by rw [show 0 + (m3 + dz) + 1 = m1 + 1 from by omega]; exact bx) hbo
      clear xv bx
      simp [Nat.beq]
      have htrim := trim_text hT (d := 3) (n := m1 + 1) hrow xl.symm (Nat.succ_le_succ l1) xd hx hL
      refine stepV_gt htrim ?_
      rintro v ρx ⟨tt, rfl, hρx, c5, gt⟩
      subst ρx
      simp [Nat.beq, hT.text, hrow, gt, c5, flat, flat1]
      exact hR _ _ rfl

end

end Go.Proofs.YtkccoijckckhmaaGreatDoor.Ev

namespace Go.Proofs.YtkccoijckckhmaaGreatDoor.Ev
open Go

theorem natL_mono {a b : Nat} (h : a ≤ b) : (natL a).length ≤ (natL b).length := by
  have h1 := valL_lt (natL b) (natL_val b).2
  rw [(natL_val b).1] at h1
  exact natL_len_le a _ (Nat.lt_of_le_of_lt h h1) (can_pos (natL_can b))

theorem decV_le {s : ByteArray} {n k : Nat} (h : decV s = some n) (hk : k ≤ n) : decV (natS k) = some k := by
  obtain ⟨h1, h2, h3, h4⟩ := decV_some h
  apply decV_natS
  have h5 := natL_of h1
  rw [h2] at h5
  have h6 := natL_mono hk
  rw [← h5, h4] at h6
  omega

theorem decV_str {s : ByteArray} {n : Nat} (h : decV s = some n) : s = natS n := by
  obtain ⟨h1, h2, h3, h4⟩ := decV_some h
  have := natS_of h1
  rwa [h2] at this

theorem natS_zero : natS 0 = bytes [48] := rfl
theorem natS_one : natS 1 = bytes [49] := rfl

theorem gdDivMod_of {a b : ByteArray} {m n : Nat} (h1 : decV a = some m) (h2 : decV b = some n) (h0 : n ≠ 0) : gdDivMod [.str a, .str b] = some (.tup [.str (natS (m / n)), .str (natS (m % n)), .int .i64 0]) := by
  have hb : Nat.beq n 0 = false := by
    cases h : Nat.beq n 0 with
    | false => rfl
    | true => exact absurd (Nat.eq_of_beq_eq_true h) h0
  simp only [gdDivMod, dec2, h1, h2, hb, cond_false, eOK]

section
variable {T : Tab} (hT : DecT T)
include hT
set_option maxRecDepth 10000

theorem dDivMod_ok : ∀ args r, gdDivMod args = some r → ∃ L d n, evPure T L d n 148 args = some r := by
  intro args r hg
  obtain ⟨a, b, m, n, rfl, ha, hb, rfl⟩ := dec2_some hg
  have hB : T.body 148 = some s148 := by rw [hT.body]; rfl
  have hz := dec_is0 hb
  obtain ⟨L, hL⟩ : ∃ L : Nat, 1100000 < L := ⟨1100001, by omega⟩
  by_cases h0 : n = 0
  · subst h0
    have hz' : (b.data.toList == [48]) = true := by rw [hz]; rfl
    refine pure_of (L := L) (d := 6) (Gt_evF hB rfl fun R hR => ?_) fun _ => rfl
    simp [s148, Nat.beq, hz']
    exact hR _ _ rfl
  · have hz' : (b.data.toList == [48]) = false := by rw [hz]; simpa using h0
    have hbq : Nat.beq n 0 = false := by
      cases h : Nat.beq n 0 with
      | false => rfl
      | true => exact absurd (Nat.eq_of_beq_eq_true h) h0
    rw [hbq, cond_false]
    have hbo := gdBoth_of ha hb
    refine pure_of (L := L) (d := 6) (Gt_evF hB rfl fun R hR => ?_) fun _ => rfl
    obtain ⟨qv, hqv⟩ : ∃ y, m / n = y := ⟨_, rfl⟩
    obtain ⟨rv, hrv⟩ : ∃ y, m % n = y := ⟨_, rfl⟩
    have hqm : qv ≤ m := by rw [← hqv]; exact Nat.div_le_self _ _
    have hrm : rv < n := by rw [← hrv]; exact Nat.mod_lt _ (by omega)
    rw [hqv, hrv] at hR
    by_cases hc : a.size ≤ 18 ∧ b.size ≤ 18
    · rw [if_pos hc] at hbo
      have hm := dec_small ha hc.1
      have hn := dec_small hb hc.2
      have w1 : (m : Int).tdiv n = (qv : Int) := by rw [Int.tdiv_eq_ediv_of_nonneg (by omega), ← hqv]; rfl
      have w2 : (m : Int).tmod n = (rv : Int) := by rw [Int.tmod_eq_emod_of_nonneg (by omega), ← hrv]; rfl
      have w3 : IntKind.u64.wrap (qv : Int) = qv := wrap_u64 (by omega) (by omega)
      have n0 : ¬ (n : Int) = 0 := by omega
      have ho1 := gdOf_of (n := qv) (by omega)
      have ho2 := gdOf_of (n := rv) (by omega)
      simp [s148, Nat.beq, hz', hT.both, hbo, w1, w2, w3, n0, h0, hT.of, ho1, ho2]
      exact hR _ _ rfl
    · rw [if_neg hc] at hbo
      simp [s148, Nat.beq, hz', hT.both, hbo]
      refine stepV_gt (cut_evT hT (d := 3) ha (by omega)) ?_
      rintro v ρ1 ⟨ext1, id1, m1, ds1, rfl, r1, r1l, hm1, hd1, hds1, hv1, ht1⟩
      simp [Nat.beq]
      refine stepV_gt (cut_evT hT (d := 3) hb (by omega)) ?_
      rintro v ρ2 ⟨ext2, id2, m2, ds2, rfl, r2, r2l, hm2, hd2, hds2, hv2, ht2⟩
      have r1' := ext2.get r1
      have l1 := cut_len ha hm1 hds1 hv1 ht1
      have l2 := cut_len hb hm2 hds2 hv2 ht2
      have hpt : (ds1.take m1).length = m1 := by rw [List.length_take]; omega
      have hqt : (ds2.take m2).length = m2 := by rw [List.length_take]; omega
      have hd1' : ∀ d, d ∈ ds1.take m1 → d < 1000000000 := fun d hd => hds1 d (List.mem_of_mem_take hd)
      have hd2' : ∀ d, d ∈ ds2.take m2 → d < 1000000000 := fun d hd => hds2 d (List.mem_of_mem_take hd)
      have hcm := gPCompare_of hd1' (tight_take hm1 ht1) (by omega) hd2' (tight_take hm2 ht2) (by omega)
      rw [hv1, hv2] at hcm
      by_cases hlt : m < n
      · rw [cmpN_lt hlt] at hcm
        have hq0 : qv = 0 := by rw [← hqv]; exact Nat.div_eq_of_lt hlt
        have hr0 : rv = m := by rw [← hrv]; exact Nat.mod_eq_of_lt hlt
        simp [Nat.beq, hT.pcompare, r1', r2, hm1, hm2, hcm, flat, flat1]
        exact hR _ _ (by rw [hq0, hr0, natS_zero, ← decV_str ha]; rfl)
      · obtain ⟨cv, hcv, hcv0⟩ : ∃ cv : Int, cmpN m n = .int .i64 cv ∧ ¬ cv < 0 := by
          rcases Nat.lt_or_ge n m with h | h
          · exact ⟨1, cmpN_gt h, by omega⟩
          · have : m = n := by omega
            subst this
            exact ⟨0, cmpN_eq _, by omega⟩
        rw [hcv] at hcm
        have hm20 : m2 ≠ 0 := by
          intro h
          subst h
          rw [List.take_zero] at hv2
          exact h0 hv2.symm
        by_cases h21 : m2 = 1
        · subst h21
          obtain ⟨x, xs, hxs⟩ : ∃ x xs, ds2 = x :: xs := by
            cases ds2 with
            | nil => simp at hm2
            | cons x xs => exact ⟨x, xs, rfl⟩
          subst hxs
          have hxn : x = n := by simpa [valP] using hv2
          subst hxn
          have hxB : x < 1000000000 := hds2 x (List.mem_cons_self ..)
          have hsm := small_ev (T := T) (L := L) (d := 3) (n := x) (ps := ds1.take m1) (by rw [hT.body]; rfl) (by rw [hT.body]; rfl) r1' (by rw [hpt]) hd1' (by omega) (by omega) (by omega) (by omega)
          rw [hpt, hv1, hqv, hrv] at hsm
          have hcm' : gPCompare [.sl 1 (nums .u64 (ds1.take m1)), .sl 1 (nums .u64 [x])] = some (.int .i64 cv) := hcm
          have hn0 : (nums .u64 (x :: xs))[0]? = some [PV.int .u64 x] := rfl
          simp [Nat.beq, hT.pcompare, r1', r2, hm1, hcm', hn0, hcv0, flat, flat1, joinCells]
          refine stepV_gt hsm ?_
          rintro v ρ3 ⟨ext3, v1, rfl, id3, m3, ds3, rfl, r3, r3l, hm3, hd3, hds3, hv3, ht3⟩
          have gt := pcs_text hm3 (by omega) hds3 hv3 ht3
          have ho2 := gdOf_of (n := rv) (by omega)
          simp [Nat.beq, hT.text, hT.of, r3, gt, hm3, flat, flat1, ho2]
          exact hR _ _ rfl
        · have hdv := divide_ev (T := T) (L := L) (d := 1) (ps := ds1.take m1) (qs := ds2.take m2) (by rw [hT.body]; rfl) (by rw [hT.body]; rfl) (by rw [hT.body]; rfl) (by rw [hT.body]; rfl) (by rw [hT.body]; rfl) (by rw [hT.body]; rfl) (by rw [hT.body]; rfl) r1' (by rw [hpt]) r2 (by rw [hqt]) hd1' hd2' (tight_take hm1 ht1) (tight_take hm2 ht2) (by omega) (by rw [hv1, hv2]; omega) (by omega) (by omega)
          rw [hpt, hqt, hv1, hv2, hqv, hrv] at hdv
          simp [Nat.beq, hT.pcompare, r1', r2, hm1, hm2, hcm, hcv0, h21, flat, flat1]
          refine stepV_gt hdv ?_
          rintro v ρ3 ⟨ext3, v1, v2, rfl, ⟨id3, m3, ds3, rfl, r3, r3l, hm3, hd3, hds3, hv3, ht3⟩, id4, m4, ds4, rfl, r4, r4l, hm4, hd4, hds4, hv4, ht4⟩
          have gt := pcs_text hm3 (by omega) hds3 hv3 ht3
          have gt4 := pcs_text hm4 (by omega) hds4 hv4 ht4
          simp [Nat.beq, hT.text, r3, r4, gt, gt4, hm3, hm4, flat, flat1]
          exact hR _ _ rfl

theorem dGcd_ok (h1 : T.pure 148 = some gdDivMod) : ∀ args r, gdGcd args = some r → ∃ L d n, evPure T L d n 160 args = some r := by
  intro args r hg
  obtain ⟨a, b, m, n, rfl, ha, hb, rfl⟩ := dec2_some hg
  have hB : T.body 160 = some s160 := by rw [hT.body]; rfl
  obtain ⟨L, hL⟩ : ∃ L : Nat, n < L := ⟨n + 1, by omega⟩
  refine pure_of (L := L) (d := 1) (Gt_evF hB rfl fun R hR => ?_) fun _ => rfl
  simp [s160, Nat.beq]
  refine Wk_loop (fun k e ρ1 => ∃ (x y : ByteArray) (p : Nat), decV x = some p ∧ decV y = some k ∧ e 0 = .str x ∧ e 1 = .str y ∧ Nat.gcd p k = Nat.gcd m n ∧ ρ1 = []) n hL
    ⟨a, b, m, ha, hb, by simp [Nat.beq], by simp [Nat.beq], rfl, rfl⟩ ?_
  rintro k e ρ1 ⟨x, y, p, hx, hy, g0, g1, gg, rfl⟩ R2 hnor hex hret
  have hz := dec_is0 hy
  by_cases h0 : k = 0
  · subst h0
    have hz' : (y.data.toList == [48]) = true := by rw [hz]; rfl
    have hz2 : y.data.toList = [48] := by simpa using hz'
    simp [s160_0, g0, g1, Nat.beq, hz', hz2]
    refine hex _ _ _ ?_
    simp [Nat.beq, g0]
    refine hR _ _ ?_
    rw [decV_str hx, ← gg, Nat.gcd_zero_right]
  · have hz' : (y.data.toList == [48]) = false := by rw [hz]; simpa using h0
    have hz2 : ¬ y.data.toList = [48] := by simpa using hz'
    have hd := gdDivMod_of hx hy h0
    have hlt : p % k < k := Nat.mod_lt _ (by omega)
    simp [s160_0, g0, g1, Nat.beq, hz', hz2, h1, hd]
    refine hnor (p % k) _ _ hlt ⟨y, natS (p % k), k, hy, decV_le hy (by omega), by simp [Nat.beq], by simp [Nat.beq], ?_, rfl⟩
    rw [← gg, Nat.gcd_comm p k, Nat.gcd_rec k p, Nat.gcd_comm]

theorem dLcm_ok (h1 : T.pure 148 = some gdDivMod) (h2 : T.pure 160 = some gdGcd) (h3 : T.pure 140 = some gdMul) : ∀ args r, gdLcm args = some r → ∃ L d n, evPure T L d n 147 args = some r := by
  intro args r hg
  obtain ⟨a, b, m, n, rfl, ha, hb, rfl⟩ := dec2_some hg
  have hB : T.body 147 = some s147 := by rw [hT.body]; rfl
  refine pure_of (L := 1) (d := 1) (Gt_evF hB rfl fun R hR => ?_) fun _ => rfl
  have hza := dec_is0 ha
  have hzb := dec_is0 hb
  by_cases hm : m = 0
  · have hz' : (a.data.toList == [48]) = true := by rw [hza]; simpa using hm
    have hz2 : a.data.toList = [48] := by simpa using hz'
    simp [s147, Nat.beq, hz', hz2]
    exact hR _ _ (by rw [hm, Nat.lcm_zero_left, natS_zero])
  · have hz' : (a.data.toList == [48]) = false := by rw [hza]; simpa using hm
    have hz2 : ¬ a.data.toList = [48] := by simpa using hz'
    by_cases hn : n = 0
    · have hzb' : (b.data.toList == [48]) = true := by rw [hzb]; simpa using hn
      have hzb2 : b.data.toList = [48] := by simpa using hzb'
      simp [s147, Nat.beq, hz', hz2, hzb', hzb2]
      exact hR _ _ (by rw [hn, Nat.lcm_zero_right, natS_zero])
    · have hzb' : (b.data.toList == [48]) = false := by rw [hzb]; simpa using hn
      have hzb2 : ¬ b.data.toList = [48] := by simpa using hzb'
      have hgp : 0 < Nat.gcd m n := Nat.gcd_pos_of_pos_left _ (by omega)
      have hgm : Nat.gcd m n ∣ m := Nat.gcd_dvd_left _ _
      obtain ⟨g, hge⟩ : ∃ g, Nat.gcd m n = g := ⟨_, rfl⟩
      rw [hge] at hgp hgm
      have e1 : gdGcd [.str a, .str b] = some (.str (natS g)) := by simp only [gdGcd, dec2, ha, hb, hge]
      have hgle : g ≤ m := Nat.le_of_dvd (by omega) hgm
      have e2 := gdDivMod_of ha (decV_le ha hgle) (by omega)
      have hq := decV_le ha (Nat.div_le_self m g)
      have e3 : gdMul [.str (natS (m / g)), .str b] = some (.str (natS (m / g * n))) := by simp only [gdMul, dec2, hq, hb]
      simp [s147, Nat.beq, hz', hz2, hzb', hzb2, h1, h2, h3, e1, e2, e3]
      refine hR _ _ ?_
      have : m / g * n = Nat.lcm m n := by
        unfold Nat.lcm
        rw [hge]
        exact Nat.div_mul_right_comm hgm n
      rw [this]

end

end Go.Proofs.YtkccoijckckhmaaGreatDoor.Ev

namespace Go.Proofs.YtkccoijckckhmaaGreatDoor.Ev
open Go

def gSplit : List PV → Option PV
  | [.str s] => if s.size ≤ 20000 then some (match s.data.toList with
      | 45 :: l => .tup [.bool true, .str ⟨l.toArray⟩]
      | _ => .tup [.bool false, .str s]) else none
  | _ => none

def okInt (l : List UInt8) : Bool := match l with
  | 45 :: l => canL l && Nat.ble l.length 400 && !(l == [48])
  | l => canL l && Nat.ble l.length 400
def gwCheck : List PV → Option PV
  | [.str s] => if s.size ≤ 20000 then some (.int .i64 (bif okInt s.data.toList then 0 else 2)) else none
  | _ => none
def gLittle : List PV → Option PV
  | [.str s, .int .i64 (.ofNat k)] => match intW s with
    | some m => if k ≤ 18 then some (if s.size ≤ k then .tup [.int .i64 m, .bool true] else .tup [.int .i64 0, .bool false]) else none
    | none => none
  | _ => none
def gwOf : List PV → Option PV
  | [.int .i64 n] => bif i64B n then some (.str (intS n)) else none
  | _ => none
def ggcd : List PV → Option PV
  | [.int .i64 (.ofNat a), .int .i64 (.ofNat b)] => if a < 9223372036854775808 ∧ b < 9223372036854775808 then some (.int .i64 (Nat.gcd a b : Nat)) else none
  | _ => none
def gfCheck : List PV → Option PV
  | [.agg [.str a, .str b]] => if a.size ≤ 20000 ∧ b.size ≤ 20000 then some (.int .i64 (bif okInt a.data.toList && okInt b.data.toList && (match intV a, intV b with
      | some m, some n => decide (0 < n) && Nat.beq (Int.gcd m n) 1
      | _, _ => false) then 0 else 2)) else none
  | _ => none
def gfSign' : List PV → Option PV
  | [.agg [.str a, .str _]] => (intW a).map fun m => .int .i64 m.sign
  | _ => none

theorem ba_ext {a b : ByteArray} (h : a.data.toList = b.data.toList) : a = b := by
  cases a; cases b
  simp only at h
  rw [Array.toList_inj.1 h]

theorem tail_str {s : ByteArray} {c : UInt8} {l : List UInt8} (h : s.data.toList = c :: l) : s.extract 1 s.size = ⟨l.toArray⟩ := by
  apply ba_ext
  rw [extract_list, h]
  have : s.size = (c :: l).length := by rw [← h, Array.length_toList]; rfl
  rw [this]
  simp

theorem head_str {s : ByteArray} {c : UInt8} {l : List UInt8} (h : s.data.toList = c :: l) : s[0]? = some c := by
  have h3 : s.data[0]? = some c := by rw [← Array.getElem?_toList, h]; rfl
  have h0 : 0 < s.size := by
    have : s.size = (c :: l).length := by rw [← h, Array.length_toList]; rfl
    rw [this]; simp
  have h4 : s[0]? = some s[0] := getElem?_pos s 0 h0
  have h5 : s.data[0]? = some (s.data[0]'h0) := getElem?_pos s.data 0 h0
  rw [h5] at h3
  rw [h4]
  exact h3

theorem head_get {s : ByteArray} {c : UInt8} {l : List UInt8} (h : s.data.toList = c :: l) (h0 : 0 < s.size) : s[0] = c := by
  have h4 : s[0]? = some s[0] := getElem?_pos s 0 h0
  rw [head_str h] at h4
  exact (Option.some.inj h4).symm

theorem size_list (s : ByteArray) : s.size = s.data.toList.length := by rw [Array.length_toList]; rfl

/-- The two kinds of canonical integers. -/
theorem intW_some {s : ByteArray} {m : Int} (h : intW s = some m) : s.size ≤ 20000 ∧ ((∃ n : Nat, m = n ∧ decV s = some n ∧ ∃ c l, s.data.toList = c :: l ∧ c ≠ 45) ∨ ∃ (n : Nat) (l : List UInt8), m = -(n : Int) ∧ 0 < n ∧ s.data.toList = 45 :: l ∧ decV ⟨l.toArray⟩ = some n) := by
  unfold intW at h
  split at h
  · rename_i hs
    refine ⟨hs, ?_⟩
    unfold intV at h
    split at h
    · rename_i l heq
      split at h
      · rename_i hc
        cases h
        refine .inr ⟨valL l, l, rfl, by omega, heq, ?_⟩
        have hlen : l.length ≤ 20000 := by
          have := size_list s
          rw [heq, List.length_cons] at this
          omega
        have hl : (⟨l.toArray⟩ : ByteArray).data.toList = l := by simp
        have := decV_of (s := ⟨l.toArray⟩) (by rw [hl]; exact (canL_iff _).1 hc.1) (by rw [size_list, hl]; exact hlen)
        rwa [hl] at this
      · cases h
    · rename_i l hne
      split at h
      · rename_i hc
        cases h
        have hcan := (canL_iff _).1 hc
        refine .inl ⟨_, rfl, decV_of hcan hs, ?_⟩
        obtain ⟨b, r, hb, hd⟩ := can_head hcan
        exact ⟨b, r, hb, fun h => by subst h; simp [digB] at hd⟩
      · cases h
  · cases h

theorem intW_dec {s : ByteArray} {n : Nat} (h : decV s = some n) : intW s = some (n : Int) := by
  unfold intW
  rw [if_pos (decV_some h).2.2.1, intV_dec h]

theorem natS_abs {l : List UInt8} {n : Nat} (h : decV ⟨l.toArray⟩ = some n) : (⟨l.toArray⟩ : ByteArray) = natS n := decV_str h

section
variable {T : Tab} (hb : T.body = bodies.get)
include hb
set_option maxRecDepth 10000

theorem split_ok : ∀ args r, gSplit args = some r → ∃ L d n, evPure T L d n 121 args = some r := by
  intro args r hg
  have hB : T.body 121 = some s121 := by rw [hb]; rfl
  unfold gSplit at hg
  split at hg
  · rename_i s
    split at hg
    · rename_i hs
      cases hl : s.data.toList with
      | nil =>
        rw [hl] at hg; cases hg
        have h0 : s.size = 0 := by rw [size_list, hl]; rfl
        refine pure_of (L := 1) (d := 1) (Gt_evF hB rfl fun R hR => ?_) fun _ => rfl
        simp [s121, Nat.beq, h0]
        exact hR _ _ rfl
      | cons c l =>
        have hpos : 0 < s.size := by rw [size_list, hl]; simp
        have h1 : 1 ≤ s.size := hpos
        have h2 : (1 : Int) ≤ s.size := by omega
        have h3 : (0 : Int) < s.size := by omega
        have hh := head_str hl
        have hg0 := head_get hl hpos
        by_cases hc : c = 45
        · subst hc
          rw [hl] at hg; cases hg
          have ht := tail_str hl
          refine pure_of (L := 1) (d := 1) (Gt_evF hB rfl fun R hR => ?_) fun _ => rfl
          simp [s121, Nat.beq, hpos, h1, h2, h3, hh, hg0, ht]
          exact hR _ _ rfl
        · have hg2 : r = .tup [.bool false, .str s] := by
            rw [hl] at hg
            split at hg
            · rename_i heq; cases heq; exact absurd rfl hc
            · cases hg; rfl
          subst hg2
          have hc2 : ¬ (c.toNat : Int) = 45 := by
            intro h
            have : c.toNat = 45 := by omega
            exact hc (UInt8.toNat_inj.1 this)
          have hc3 : ¬ c.toNat = 45 := by omega
          refine pure_of (L := 1) (d := 1) (Gt_evF hB rfl fun R hR => ?_) fun _ => rfl
          simp [s121, Nat.beq, hpos, h3, hh, hg0, hc2, hc3]
          exact hR _ _ rfl
    · cases hg
  · cases hg

theorem wSign_ok : ∀ args r, gwSign args = some r → ∃ L d n, evPure T L d n 114 args = some r := by
  intro args r hg
  obtain ⟨s, m, rfl, hs, rfl⟩ := int1_some hg
  have hB : T.body 114 = some s114 := by rw [hb]; rfl
  refine pure_of (L := 1) (d := 1) (Gt_evF hB rfl fun R hR => ?_) fun _ => rfl
  obtain ⟨_, ⟨n, rfl, hn, c, l, hl, hc⟩ | ⟨n, l, rfl, hn0, hl, hn⟩⟩ := intW_some hs
  · have hz := dec_is0 hn
    by_cases h0 : n = 0
    · subst h0
      have hz' : (s.data.toList == [48]) = true := by rw [hz]; rfl
      have hz2 : s.data.toList = [48] := by simpa using hz'
      simp [s114, Nat.beq, hz2]
      exact hR _ _ rfl
    · have hz' : (s.data.toList == [48]) = false := by rw [hz]; simpa using h0
      have hz2 : ¬ s.data.toList = [48] := by simpa using hz'
      have hh := head_str hl
      have hc2 : ¬ (c.toNat : Int) = 45 := by
        intro h
        have : c.toNat = 45 := by omega
        exact hc (UInt8.toNat_inj.1 this)
      have hc3 : ¬ c.toNat = 45 := by omega
      simp [s114, Nat.beq, hz2, hz', hh, hc2, hc3]
      exact hR _ _ (by rw [Int.sign_eq_one_of_pos (by omega)])
  · have hz2 : ¬ s.data.toList = [48] := by rw [hl]; simp
    have hz' : (s.data.toList == [48]) = false := beq_eq_false_iff_ne.2 hz2
    have hh := head_str hl
    simp [s114, Nat.beq, hz2, hz', hh]
    exact hR _ _ (by rw [Int.sign_eq_neg_one_of_neg (by omega)])

theorem gSplit_pos {s : ByteArray} {c : UInt8} {l : List UInt8} (hs : s.size ≤ 20000) (hl : s.data.toList = c :: l) (hc : c ≠ 45) : gSplit [.str s] = some (.tup [.bool false, .str s]) := by
  simp only [gSplit, if_pos hs]
  rw [hl]
  split
  · rename_i heq; cases heq; exact absurd rfl hc
  · rfl
theorem gSplit_neg {s : ByteArray} {l : List UInt8} (hs : s.size ≤ 20000) (hl : s.data.toList = 45 :: l) : gSplit [.str s] = some (.tup [.bool true, .str ⟨l.toArray⟩]) := by
  simp only [gSplit, if_pos hs]
  rw [hl]
  rfl

theorem wAbs_ok (h1 : T.pure 121 = some gSplit) : ∀ args r, gwAbs args = some r → ∃ L d n, evPure T L d n 80 args = some r := by
  intro args r hg
  obtain ⟨s, m, rfl, hs, rfl⟩ := int1_some hg
  have hB : T.body 80 = some s80 := by rw [hb]; rfl
  refine pure_of (L := 1) (d := 1) (Gt_evF hB rfl fun R hR => ?_) fun _ => rfl
  obtain ⟨hsz, ⟨n, rfl, hn, c, l, hl, hc⟩ | ⟨n, l, rfl, hn0, hl, hn⟩⟩ := intW_some hs
  · have hsp := gSplit_pos hb hsz hl hc
    simp [s80, Nat.beq, h1, hsp]
    exact hR _ _ (by rw [decV_str hn]; rfl)
  · have hsp := gSplit_neg hb hsz hl
    simp [s80, Nat.beq, h1, hsp]
    exact hR _ _ (by rw [natS_abs hn, Int.natAbs_neg]; rfl)

theorem wCheck_ok (h1 : T.pure 121 = some gSplit) (h2 : T.pure 158 = some gdCheck) : ∀ args r, gwCheck args = some r → ∃ L d n, evPure T L d n 119 args = some r := by
  intro args r hg
  have hB : T.body 119 = some s119 := by rw [hb]; rfl
  unfold gwCheck at hg
  split at hg
  · rename_i s
    split at hg
    · rename_i hs
      cases hg
      refine pure_of (L := 1) (d := 1) (Gt_evF hB rfl fun R hR => ?_) fun _ => rfl
      have plain : (∀ l, s.data.toList ≠ 45 :: l) → gSplit [.str s] = some (.tup [.bool false, .str s]) ∧ okInt s.data.toList = (canL s.data.toList && Nat.ble s.data.toList.length 400) := by
        intro hne
        constructor
        · simp only [gSplit, if_pos hs]
        · unfold okInt
          split
          · rename_i l heq; exact absurd heq (hne l)
          · rfl
      by_cases hneg : ∃ l, s.data.toList = 45 :: l
      · obtain ⟨l, hl⟩ := hneg
        have hsp := gSplit_neg hb hs hl
        have hll : (⟨l.toArray⟩ : ByteArray).data.toList = l := by simp
        have hlen : (⟨l.toArray⟩ : ByteArray).size = l.length := by rw [size_list, hll]
        have hlsz : l.length ≤ 20000 := by
          have := size_list s
          rw [hl, List.length_cons] at this
          omega
        have hok : okInt s.data.toList = (canL l && Nat.ble l.length 400 && !(l == [48])) := by rw [hl]; rfl
        have hdc : gdCheck [.str ⟨l.toArray⟩] = some (.int .i64 (bif canL l && Nat.ble l.length 400 then 0 else 2)) := by
          simp only [gdCheck, hlen, if_pos hlsz, hll]
        rw [hok] at hR
        by_cases h48 : l = [48]
        · subst h48
          simp [s119, Nat.beq, h1, hsp]
          exact hR _ _ rfl
        · have h48' : (l == [48]) = false := beq_eq_false_iff_ne.2 h48
          cases hcc : (canL l && Nat.ble l.length 400) with
          | true =>
            rw [hcc] at hdc hR
            simp only [cond_true] at hdc
            simp [s119, Nat.beq, h1, h2, hsp, h48, h48', hdc]
            exact hR _ _ (by rw [h48']; rfl)
          | false =>
            rw [hcc] at hdc hR
            simp only [cond_false] at hdc
            simp [s119, Nat.beq, h1, h2, hsp, h48, h48', hdc]
            exact hR _ _ rfl
      · obtain ⟨hsp, hok⟩ := plain fun l h => hneg ⟨l, h⟩
        have hdc : gdCheck [.str s] = some (.int .i64 (bif canL s.data.toList && Nat.ble s.size 400 then 0 else 2)) := by
          simp only [gdCheck, if_pos hs]
        rw [hok] at hR
        rw [size_list] at hdc
        cases hcc : (canL s.data.toList && Nat.ble s.data.toList.length 400) with
        | true =>
          rw [hcc] at hdc hR
          simp only [cond_true] at hdc
          simp [s119, Nat.beq, h1, h2, hsp, hdc]
          exact hR _ _ rfl
        | false =>
          rw [hcc] at hdc hR
          simp only [cond_false] at hdc
          simp [s119, Nat.beq, h1, h2, hsp, hdc]
          exact hR _ _ rfl
    · cases hg
  · cases hg

theorem wOf_ok (h1 : T.pure 161 = some gItoa) : ∀ args r, gwOf args = some r → ∃ L d n, evPure T L d n 123 args = some r := by
  intro args r hg
  have hB : T.body 123 = some s123 := by rw [hb]; rfl
  unfold gwOf at hg
  split at hg
  · rename_i n
    cases hi : i64B n with
    | false => rw [hi] at hg; cases hg
    | true =>
      rw [hi] at hg
      cases hg
      have hf : gItoa [.int .i64 n] = some (.str (intS n)) := by
        show (bif i64B n then some (PV.str (intS n)) else none) = _
        rw [hi]; rfl
      refine pure_of (L := 1) (d := 1) (Gt_evF hB rfl fun R hR => ?_) fun _ => rfl
      simp [s123, Nat.beq, h1, hf]
      exact hR _ _ rfl
  · cases hg

theorem gcd_ok : ∀ args r, ggcd args = some r → ∃ L d n, evPure T L d n 159 args = some r := by
  intro args r hg
  have hB : T.body 159 = some s159 := by rw [hb]; rfl
  unfold ggcd at hg
  split at hg
  · rename_i a b
    split at hg
    · rename_i hab
      cases hg
      obtain ⟨L, hL⟩ : ∃ L : Nat, b < L := ⟨b + 1, by omega⟩
      refine pure_of (L := L) (d := 1) (Gt_evF hB rfl fun R hR => ?_) fun _ => rfl
      simp [s159, Nat.beq]
      refine Wk_loop (fun k e ρ1 => ∃ p : Nat, e 0 = .int .i64 (p : Nat) ∧ e 1 = .int .i64 (k : Nat) ∧ Nat.gcd p k = Nat.gcd a b ∧ ρ1 = []) b hL
        ⟨a, by simp [Nat.beq], by simp [Nat.beq], rfl, rfl⟩ ?_
      rintro k e ρ1 ⟨p, g0, g1, gg, rfl⟩ R2 hnor hex hret
      by_cases h0 : k = 0
      · subst h0
        simp [s159_0, g0, g1, Nat.beq]
        refine hex _ _ _ ?_
        simp [Nat.beq, g0]
        refine hR _ _ ?_
        rw [← gg, Nat.gcd_zero_right]
      · have h0' : ¬ (k : Int) = 0 := by omega
        have q : (p : Int).tmod k = ((p % k : Nat) : Int) := by rw [Int.tmod_eq_emod_of_nonneg (by omega)]; rfl
        obtain ⟨pk, hpk⟩ : ∃ y, p % k = y := ⟨_, rfl⟩
        rw [hpk] at q
        have hlt : pk < k := by rw [← hpk]; exact Nat.mod_lt _ (by omega)
        simp [s159_0, g0, g1, Nat.beq, h0, h0', q]
        refine hnor pk _ _ hlt ⟨k, by simp [Nat.beq], by simp [Nat.beq], ?_, rfl⟩
        rw [← gg, ← hpk, Nat.gcd_comm p k, Nat.gcd_rec k p, Nat.gcd_comm]
    · cases hg
  · cases hg

theorem gAtoi_of {s : ByteArray} {m : Int} (h : intW s = some m) (hs : s.size ≤ 18) : gAtoi [.str s] = some (.tup [.int .i64 m, .nilI]) ∧ -1000000000000000000 < m ∧ m < 1000000000000000000 := by
  have hb : -1000000000000000000 < m ∧ m < 1000000000000000000 := by
    obtain ⟨hsz, ⟨n, rfl, hn, c, l, hl, hc⟩ | ⟨n, l, rfl, hn0, hl, hn⟩⟩ := intW_some h
    · have := dec_small hn hs; omega
    · have hll : (⟨l.toArray⟩ : ByteArray).size = l.length := by rw [size_list]
      have := dec_small hn (by
        have := size_list s
        rw [hl, List.length_cons] at this
        omega)
      omega
  refine ⟨?_, hb⟩
  have hv : intV s = some m := by
    unfold intW at h
    split at h
    · exact h
    · cases h
  have hsz : Nat.ble s.size 20000 = true := Nat.ble_eq_true_of_le (by omega)
  simp only [gAtoi, hsz, cond_true, hv]
  rw [if_pos (by omega)]

theorem little_ok (h1 : T.pure 180 = some gAtoi) : ∀ args r, gLittle args = some r → ∃ L d n, evPure T L d n 138 args = some r := by
  intro args r hg
  have hB : T.body 138 = some s138 := by rw [hb]; rfl
  unfold gLittle at hg
  split at hg
  · rename_i s k
    split at hg
    · rename_i m hm
      split at hg
      · rename_i hk
        cases hg
        by_cases hs : s.size ≤ k
        · rw [if_pos hs]
          have hs' : ¬ k < s.size := by omega
          obtain ⟨ha, _⟩ := gAtoi_of hb hm (by omega)
          refine pure_of (L := 1) (d := 1) (Gt_evF hB rfl fun R hR => ?_) fun _ => rfl
          simp [s138, Nat.beq, h1, hs, hs', ha, evNilq]
          exact hR _ _ rfl
        · rw [if_neg hs]
          have hs' : k < s.size := by omega
          refine pure_of (L := 1) (d := 1) (Gt_evF hB rfl fun R hR => ?_) fun _ => rfl
          simp [s138, Nat.beq, hs']
          exact hR _ _ rfl
      · cases hg
    · cases hg
  · cases hg

theorem wGcd_ok (h1 : T.pure 80 = some gwAbs) (h2 : T.pure 138 = some gLittle) (h3 : T.pure 159 = some ggcd) (h4 : T.pure 123 = some gwOf) (h5 : T.pure 160 = some gdGcd) : ∀ args r, gwGcd args = some r → ∃ L d n, evPure T L d n 120 args = some r := by
  intro args r hg
  obtain ⟨a, b, m, n, rfl, ha, hbb, rfl⟩ := int2_some hg
  have hB : T.body 120 = some s120 := by rw [hb]; rfl
  refine pure_of (L := 1) (d := 1) (Gt_evF hB rfl fun R hR => ?_) fun _ => rfl
  have absd : ∀ {s : ByteArray} {m : Int}, intW s = some m → decV (natS m.natAbs) = some m.natAbs := by
    intro s m h
    obtain ⟨hsz, ⟨n, rfl, hn, c, l, hl, hc⟩ | ⟨n, l, rfl, hn0, hl, hn⟩⟩ := intW_some h
    · exact decV_le hn (by omega)
    · exact decV_le hn (by omega)
  have a1 : gwAbs [.str a] = some (.str (natS m.natAbs)) := by simp only [gwAbs, int1, ha, Option.map_some]
  have b1 : gwAbs [.str b] = some (.str (natS n.natAbs)) := by simp only [gwAbs, int1, hbb, Option.map_some]
  have da := absd ha
  have db := absd hbb
  obtain ⟨x, hx⟩ : ∃ x, m.natAbs = x := ⟨_, rfl⟩
  obtain ⟨y, hy⟩ : ∃ y, n.natAbs = y := ⟨_, rfl⟩
  have hgcd : Int.gcd m n = Nat.gcd x y := by rw [← hx, ← hy]; rfl
  rw [hgcd] at hR
  rw [hx] at a1 da
  rw [hy] at b1 db
  have wa := intW_dec da
  have wb := intW_dec db
  have e5 : gdGcd [.str (natS x), .str (natS y)] = some (.str (natS (Nat.gcd x y))) := by simp only [gdGcd, dec2, da, db]
  have la : gLittle [.str (natS x), .int .i64 18] = some (if (natS x).size ≤ 18 then .tup [.int .i64 x, .bool true] else .tup [.int .i64 0, .bool false]) := by
    show (match intW (natS x) with | some m => if 18 ≤ 18 then some (if (natS x).size ≤ 18 then PV.tup [.int .i64 m, .bool true] else .tup [.int .i64 0, .bool false]) else none | none => none) = _
    rw [wa]; rfl
  have lb : gLittle [.str (natS y), .int .i64 18] = some (if (natS y).size ≤ 18 then .tup [.int .i64 y, .bool true] else .tup [.int .i64 0, .bool false]) := by
    show (match intW (natS y) with | some m => if 18 ≤ 18 then some (if (natS y).size ≤ 18 then PV.tup [.int .i64 m, .bool true] else .tup [.int .i64 0, .bool false]) else none | none => none) = _
    rw [wb]; rfl
  by_cases hsa : (natS x).size ≤ 18
  · rw [if_pos hsa] at la
    have hxs := dec_small da hsa
    by_cases hsb : (natS y).size ≤ 18
    · rw [if_pos hsb] at lb
      have hys := dec_small db hsb
      have eg : ggcd [.int .i64 x, .int .i64 y] = some (.int .i64 (Nat.gcd x y : Nat)) := by
        show (if x < 9223372036854775808 ∧ y < 9223372036854775808 then some (PV.int .i64 (Nat.gcd x y : Nat)) else none) = _
        rw [if_pos ⟨by omega, by omega⟩]
      have hgx : Nat.gcd x y ≤ 9223372036854775807 := by
        rcases Nat.eq_zero_or_pos x with h | h
        · rw [h, Nat.gcd_zero_left]; omega
        · have := Nat.gcd_le_left y h; omega
      have eo : gwOf [.int .i64 (Nat.gcd x y : Nat)] = some (.str (natS (Nat.gcd x y))) := by
        show (bif Nat.ble (Nat.gcd x y) 9223372036854775807 then some (PV.str (natS (Nat.gcd x y))) else none) = _
        rw [show Nat.ble (Nat.gcd x y) 9223372036854775807 = true from Nat.ble_eq_true_of_le hgx]; rfl
      obtain ⟨g, hg2⟩ : ∃ g, Nat.gcd x y = g := ⟨_, rfl⟩
      rw [hg2] at eg eo hR
      simp [s120, Nat.beq, h1, h2, h3, h4, a1, b1, la, lb, eg, eo]
      exact hR _ _ rfl
    · rw [if_neg hsb] at lb
      simp [s120, Nat.beq, h1, h2, h5, a1, b1, la, lb, e5]
      exact hR _ _ rfl
  · rw [if_neg hsa] at la
    simp [s120, Nat.beq, h1, h2, h5, a1, b1, la, e5]
    exact hR _ _ rfl

end

end Go.Proofs.YtkccoijckckhmaaGreatDoor.Ev

namespace Go.Proofs.YtkccoijckckhmaaGreatDoor.Ev
open Go

theorem okInt_some {s : ByteArray} (h : okInt s.data.toList = true) : ∃ m, intW s = some m ∧ intV s = some m ∧ s.size ≤ 401 := by
  have key : ∀ m, intV s = some m → s.size ≤ 401 → ∃ m, intW s = some m ∧ intV s = some m ∧ s.size ≤ 401 := by
    intro m h1 h2
    refine ⟨m, ?_, h1, h2⟩
    unfold intW
    rw [if_pos (by omega), h1]
  have hsz := size_list s
  unfold okInt at h
  split at h
  · rename_i l heq
    rw [Bool.and_eq_true, Bool.and_eq_true, Nat.ble_eq] at h
    obtain ⟨⟨h1, h2⟩, h3⟩ := h
    rw [heq, List.length_cons] at hsz
    have hne : valL l ≠ 0 := by
      intro h0
      have := can_unique ((canL_iff _).1 h1) (natL_can 0) (by rw [h0]; rfl)
      rw [this] at h3
      simp [natL_zero] at h3
    refine key (-(valL l : Int)) ?_ (by omega)
    unfold intV
    rw [heq]
    simp only
    rw [if_pos ⟨h1, hne⟩]
  · rename_i l hne
    rw [Bool.and_eq_true, Nat.ble_eq] at h
    obtain ⟨h1, h2⟩ := h
    exact key _ (intV_can ((canL_iff _).1 h1)) (by omega)

section
variable {T : Tab} (hb : T.body = bodies.get)
include hb
set_option maxRecDepth 10000

theorem fSign_ok (h1 : T.pure 114 = some gwSign) : ∀ args r, gfSign' args = some r → ∃ L d n, evPure T L d n 79 args = some r := by
  intro args r hg
  have hB : T.body 79 = some s79 := by rw [hb]; rfl
  unfold gfSign' at hg
  split at hg
  · rename_i a b
    cases hm : intW a with
    | none => rw [hm] at hg; cases hg
    | some m =>
      rw [hm] at hg; cases hg
      have hs : gwSign [.str a] = some (.int .i64 m.sign) := by simp only [gwSign, int1, hm, Option.map_some]
      refine pure_of (L := 1) (d := 1) (Gt_evF hB rfl fun R hR => ?_) fun _ => rfl
      simp [s79, Nat.beq, nCells, joinCells, h1, hs]
      exact hR _ _ rfl
  · cases hg

theorem fCheck_ok (h1 : T.pure 119 = some gwCheck) (h2 : T.pure 114 = some gwSign) (h3 : T.pure 120 = some gwGcd) : ∀ args r, gfCheck args = some r → ∃ L d n, evPure T L d n 78 args = some r := by
  intro args r hg
  have hB : T.body 78 = some s78 := by rw [hb]; rfl
  unfold gfCheck at hg
  split at hg
  · rename_i a b
    split at hg
    · rename_i hab
      obtain ⟨hsa, hsb⟩ := hab
      cases hg
      have ca : gwCheck [.str a] = some (.int .i64 (bif okInt a.data.toList then 0 else 2)) := by simp only [gwCheck, if_pos hsa]
      have cb : gwCheck [.str b] = some (.int .i64 (bif okInt b.data.toList then 0 else 2)) := by simp only [gwCheck, if_pos hsb]
      refine pure_of (L := 1) (d := 1) (Gt_evF hB rfl fun R hR => ?_) fun _ => rfl
      cases oa : okInt a.data.toList with
      | false =>
        rw [oa] at ca hR
        simp only [cond_false] at ca
        simp [s78, Nat.beq, nCells, joinCells, h1, ca]
        exact hR _ _ rfl
      | true =>
        rw [oa] at ca hR
        simp only [cond_true] at ca
        cases ob : okInt b.data.toList with
        | false =>
          rw [ob] at cb hR
          simp only [cond_false] at cb
          simp [s78, Nat.beq, nCells, joinCells, h1, ca, cb]
          exact hR _ _ rfl
        | true =>
          rw [ob] at cb hR
          simp only [cond_true] at cb
          obtain ⟨m, wm, vm, _⟩ := okInt_some oa
          obtain ⟨n, wn, vn, _⟩ := okInt_some ob
          rw [vm, vn] at hR
          have sn : gwSign [.str b] = some (.int .i64 n.sign) := by simp only [gwSign, int1, wn, Option.map_some]
          have gg : gwGcd [.str a, .str b] = some (.str (natS (Int.gcd m n))) := by simp only [gwGcd, int2, wm, wn]
          by_cases hn : 0 < n
          · have hsg : n.sign = 1 := Int.sign_eq_one_of_pos hn
            rw [hsg] at sn
            have hdn : decide (0 < n) = true := decide_eq_true hn
            by_cases h1g : Int.gcd m n = 1
            · have hbq : Nat.beq (Int.gcd m n) 1 = true := by rw [h1g]; rfl
              rw [h1g] at gg
              have hq : (natS 1).data.toList = [49] := rfl
              simp [s78, Nat.beq, nCells, joinCells, h1, h2, h3, ca, cb, sn, gg, hq]
              exact hR _ _ (by simp only [hdn, hbq]; rfl)
            · have hbq : Nat.beq (Int.gcd m n) 1 = false := by
                cases h : Nat.beq (Int.gcd m n) 1 with
                | false => rfl
                | true => exact absurd (Nat.eq_of_beq_eq_true h) h1g
              have hq : ¬ (natS (Int.gcd m n)).data.toList = [49] := by
                intro h
                apply h1g
                rw [natS_list] at h
                have := (natL_val (Int.gcd m n)).1
                rw [h] at this
                rw [← this]; rfl
              have hq2 : ((natS (Int.gcd m n)).data.toList == [49]) = false := beq_eq_false_iff_ne.2 hq
              obtain ⟨g, hge⟩ : ∃ g, natS (Int.gcd m n) = g := ⟨_, rfl⟩
              rw [hge] at gg hq hq2
              simp [s78, Nat.beq, nCells, joinCells, h1, h2, h3, ca, cb, sn, gg, hq, hq2]
              exact hR _ _ (by simp only [hdn, hbq]; rfl)
          · have hdn : decide (0 < n) = false := decide_eq_false hn
            have hle : n.sign ≤ 0 := by
              rcases Int.lt_or_le 0 n with h | h
              · exact absurd h hn
              · rcases Int.lt_or_eq_of_le h with h | h
                · rw [Int.sign_eq_neg_one_of_neg h]; decide
                · rw [h]; decide
            obtain ⟨sg, hsg⟩ : ∃ sg, n.sign = sg := ⟨_, rfl⟩
            rw [hsg] at sn hle
            simp [s78, Nat.beq, nCells, joinCells, h1, h2, ca, cb, sn, hle]
            exact hR _ _ (by simp only [hdn]; rfl)
    · cases hg
  · cases hg

end

end Go.Proofs.YtkccoijckckhmaaGreatDoor.Ev
