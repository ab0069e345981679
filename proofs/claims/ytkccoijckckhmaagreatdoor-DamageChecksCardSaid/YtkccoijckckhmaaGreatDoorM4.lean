/-
  Layer 1 (decimal): pieces of nine digits.
  Layer 1 (decimal): numbers as pieces; cut.
  Layer 1 (decimal): digits cut into pieces of nine.
  Canonical digits: one text for each number.
  What the arithmetic of layers 1 to 3 computes, on plain values.
  Layer 1 (decimal): bytes turned round.
  Layer 1 (decimal): the text of pieces.
  Layer 1 (decimal): products of pieces.
  Layer 1 (decimal): pieces taken away and put back; sums in place.
  Layer 1 (decimal): pieces times and divided by a small number.
  Layer 1 (decimal): long division of pieces.
  Layer 1 (decimal): long division of pieces, digit by digit.
  Layer 1 (decimal): quotient and rest of pieces.
-/
import Derived.Test.YtkccoijckckhmaaGreatDoorM3
set_option linter.all false

namespace Go.Proofs.YtkccoijckckhmaaGreatDoor.Ev
open Go

/-- The pieces without the zeros at the end: how many. -/
def trimN (ds : List Nat) : Nat → Nat
  | 0 => 0
  | n + 1 => if ds[n]?.getD 0 = 0 then trimN ds n else n + 1

set_option maxRecDepth 10000
theorem trim_ev {T : Tab} (hT : T.body 193 = some s193) {L d id n : Nat} {ρ : Store} {l : Bool} {ds : List Nat} (hk : ρ[id]? = some ⟨1, nums .u64 ds, l⟩) (hn : n ≤ ds.length) (hL : n < L) (hm : n ≤ 1000000) :
    Gt (evF T L (d + 1) 193 [.ms id 1 0 n] ρ) fun v ρ' => v = .ms id 1 0 (trimN ds n) ∧ ρ' = ρ := by
  refine Gt_evF hT rfl fun R hR => ?_
  simp [s193, Nat.beq]
  refine Wk_loop (fun k e ρ' => k ≤ n ∧ ρ' = ρ ∧ e 0 = .ms id 1 0 k ∧ trimN ds k = trimN ds n) n hL ⟨Nat.le_refl _, rfl, by simp [Nat.beq], rfl⟩ ?_
  rintro k e _ ⟨hkn, rfl, he, ht⟩ R2 hnor hex hret
  cases k with
  | zero =>
    simp [s193_0, he, Nat.beq]
    refine hex _ _ _ ?_
    simp [he, Nat.beq]
    exact hR _ _ ⟨by rw [← ht]; rfl, rfl⟩
  | succ k =>
    have hlt : k < ds.length := by omega
    have hw : IntKind.i64.wrap (k : Int) = k := wrap_i64 (by omega) (by omega)
    have hg := nums_get .u64 ds k hlt
    have hkk : (k : Int) < k + 1 := by omega
    have hkk2 : (k : Int) ≤ k + 1 := by omega
    by_cases h0 : ds[k] = 0
    · have : trimN ds (k + 1) = trimN ds k := by simp [trimN, hlt, h0]
      simp [s193_0, he, Nat.beq, hk, hg, joinCells, h0, hw, hkk, hkk2]
      exact hnor k _ _ (by omega) ⟨by omega, rfl, by simp [Nat.beq], by omega⟩
    · have : trimN ds (k + 1) = k + 1 := by simp [trimN, hlt, h0]
      have hz : ((ds[k] : Nat) : Int) ≠ 0 := by omega
      simp [s193_0, he, Nat.beq, hk, hg, joinCells, h0, hw, hkk, hkk2]
      refine hex _ _ _ ?_
      simp [he, Nat.beq]
      exact hR _ _ ⟨by rw [← ht, this], rfl⟩

end Go.Proofs.YtkccoijckckhmaaGreatDoor.Ev

namespace Go.Proofs.YtkccoijckckhmaaGreatDoor.Ev
open Go

def valP : List Nat → Nat
  | [] => 0
  | d :: ds => d + 1000000000 * valP ds

theorem valP_append : ∀ (a b : List Nat), valP (a ++ b) = valP a + 1000000000 ^ a.length * valP b
  | [], b => by simp [valP]
  | d :: a, b => by
    simp only [List.cons_append, valP, valP_append a b, List.length_cons, Nat.pow_succ, Nat.mul_add]
    rw [Nat.mul_comm (1000000000 ^ a.length) 1000000000, Nat.mul_assoc]
    omega

theorem valP_lt : ∀ (a : List Nat), (∀ d, d ∈ a → d < 1000000000) → valP a < 1000000000 ^ a.length
  | [], _ => by simp [valP]
  | d :: a, h => by
    have h1 := valP_lt a fun x hx => h x (List.mem_cons_of_mem _ hx)
    have h2 := h d (List.mem_cons_self ..)
    simp only [valP, List.length_cons, Nat.pow_succ]
    omega

theorem trimN_le (ds : List Nat) : ∀ n, trimN ds n ≤ n
  | 0 => Nat.le_refl _
  | n + 1 => by
    simp only [trimN]
    split
    · have := trimN_le ds n; omega
    · exact Nat.le_refl _

theorem trimN_val (ds : List Nat) : ∀ n, n ≤ ds.length → valP (ds.take (trimN ds n)) = valP (ds.take n)
  | 0, _ => rfl
  | n + 1, h => by
    simp only [trimN]
    split
    · rename_i h0
      rw [trimN_val ds n (by omega), List.take_add_one, List.getElem?_eq_getElem (by omega)]
      rw [List.getElem?_eq_getElem (by omega)] at h0
      simp only [Option.getD_some] at h0
      simp [valP_append, h0, valP]
    · rfl

theorem trimN_top (ds : List Nat) : ∀ n, trimN ds n = 0 ∨ ds[trimN ds n - 1]?.getD 0 ≠ 0
  | 0 => .inl rfl
  | n + 1 => by
    simp only [trimN]
    split
    · exact trimN_top ds n
    · rename_i h; exact .inr h

theorem valL_append (a b : List UInt8) : valL (a ++ b) = valL a * 10 ^ b.length + valL b := by
  unfold valL
  rw [List.foldl_append]
  have : ∀ (l : List UInt8) (x : Nat), l.foldl (fun a b => 10 * a + (b.toNat - 48)) x = x * 10 ^ l.length + l.foldl (fun a b => 10 * a + (b.toNat - 48)) 0 := by
    intro l
    induction l with
    | nil => intro x; simp
    | cons c l ih =>
      intro x
      simp only [List.foldl_cons, List.length_cons]
      rw [ih, ih (10 * 0 + _), Nat.pow_succ, Nat.add_mul, Nat.add_mul]
      simp only [Nat.mul_zero, Nat.zero_mul, Nat.zero_add]
      rw [Nat.mul_comm 10 x, Nat.mul_assoc, Nat.mul_comm 10 (10 ^ l.length)]
      omega
  exact this b _

theorem valL_cons (c : UInt8) (l : List UInt8) : valL (c :: l) = (c.toNat - 48) * 10 ^ l.length + valL l := by
  have := valL_append [c] l
  simpa [valL] using this

theorem valL_lt : ∀ (l : List UInt8), (∀ b, b ∈ l → digB b = true) → valL l < 10 ^ l.length
  | [], _ => by simp [valL]
  | c :: l, h => by
    have h1 := valL_lt l fun b hb => h b (List.mem_cons_of_mem _ hb)
    have h2 := h c (List.mem_cons_self ..)
    simp only [digB, Bool.and_eq_true, Nat.ble_eq] at h2
    rw [valL_cons, List.length_cons, Nat.pow_succ]
    have : (c.toNat - 48) * 10 ^ l.length ≤ 9 * 10 ^ l.length := Nat.mul_le_mul_right _ (by omega)
    omega

/-- What lay in the store still does; rows may have come. -/
def Ext (ρ ρ' : Store) : Prop := ρ.length ≤ ρ'.length ∧ ∀ i, i < ρ.length → ρ'[i]? = ρ[i]?

theorem Ext.refl (ρ : Store) : Ext ρ ρ := ⟨Nat.le_refl _, fun _ _ => rfl⟩
theorem Ext.trans {a b c : Store} (h1 : Ext a b) (h2 : Ext b c) : Ext a c := ⟨Nat.le_trans h1.1 h2.1, fun i hi => (h2.2 i (by have := h1.1; omega)).trans (h1.2 i hi)⟩
theorem Ext.push (ρ : Store) (k : Tok) : Ext ρ (ρ ++ [k]) := ⟨by simp, fun i hi => List.getElem?_append_left hi⟩
/-- A row of one's own is given up, and another one comes. -/
theorem Ext.app {ρ0 ρ : Store} (h : Ext ρ0 ρ) {id : Nat} (hid : ρ0.length ≤ id) (a b : Tok) : Ext ρ0 (ρ.set id a ++ [b]) := by
  refine ⟨by have := h.1; simp; omega, fun i hi => ?_⟩
  rw [List.getElem?_append_left (by have := h.1; simp; omega), List.getElem?_set_ne (by omega)]
  exact h.2 i hi
theorem Ext.set {ρ0 ρ : Store} (h : Ext ρ0 ρ) {id : Nat} (hid : ρ0.length ≤ id) (a : Tok) : Ext ρ0 (ρ.set id a) := by
  refine ⟨by have := h.1; simpa using this, fun i hi => ?_⟩
  rw [List.getElem?_set_ne (by omega)]
  exact h.2 i hi
theorem Ext.get {ρ ρ' : Store} (h : Ext ρ ρ') {id : Nat} {k : Tok} (hk : ρ[id]? = some k) : ρ'[id]? = some k := by
  have : id < ρ.length := by
    rcases Nat.lt_or_ge id ρ.length with h' | h'
    · exact h'
    · rw [List.getElem?_eq_none h'] at hk; cases hk
  rw [h.2 id this]; exact hk

end Go.Proofs.YtkccoijckckhmaaGreatDoor.Ev

namespace Go.Proofs.YtkccoijckckhmaaGreatDoor.Ev
open Go

/-- A value is a row of its own with the pieces of a number, without zeros at the end. -/
def Pcs (ρ0 ρ : Store) (v : PV) (n : Nat) : Prop := ∃ id m ds, v = .ms id 1 0 m ∧ ρ[id]? = some ⟨1, nums .u64 ds, true⟩ ∧ ρ0.length ≤ id ∧ m ≤ ds.length ∧ ds.length ≤ 100000 ∧ (∀ d, d ∈ ds → d < 1000000000) ∧ valP (ds.take m) = n ∧ (m = 0 ∨ ds[m - 1]?.getD 0 ≠ 0)

theorem nums_append (k : IntKind) (a b : List Nat) : nums k (a ++ b) = nums k a ++ nums k b := by simp [nums]

theorem valL_snoc (l : List UInt8) (i : Nat) (h : i < l.length) : valL (l.take (i + 1)) = 10 * valL (l.take i) + (l[i].toNat - 48) := by
  rw [List.take_add_one, List.getElem?_eq_getElem h, valL_append]
  simp [valL]
  omega

set_option maxRecDepth 10000
theorem cut_in {T : Tab} {call} {L : Nat} {ks : List K} {Q : Post} {ch : List UInt8} (hd : ∀ b, b ∈ ch → digB b = true) (hl : ch.length ≤ 9) (hL : 10 < L) {e : Env} {ρ : Store}
    (h25 : e 25 = .sl 1 (ch.map fun b => [.int .u8 b.toNat])) (h26 : e 26 = .int .i64 ch.length) (h27 : e 27 = .int .i64 0) (h5 : e 5 = .int .u64 0)
    (hQ : ∀ e' : Env, e' 0 = e 0 → e' 3 = e 3 → e' 4 = e 4 → e' 5 = .int .u64 (valL ch : Nat) → jmp T call L (.ex 2) ks e' ρ Q) : Wk T call L (.code (.loop s183_1) :: ks) e ρ Q := by
  refine Wk_loop (fun k e' ρ' => ∃ i, k = ch.length - i ∧ i ≤ ch.length ∧ ρ' = ρ ∧ e' 0 = e 0 ∧ e' 3 = e 3 ∧ e' 4 = e 4 ∧ e' 25 = .sl 1 (ch.map fun b => [.int .u8 b.toNat]) ∧ e' 26 = .int .i64 ch.length ∧ e' 27 = .int .i64 (i : Nat) ∧ e' 5 = .int .u64 (valL (ch.take i) : Nat)) ch.length (by omega)
    ⟨0, by omega, by omega, rfl, rfl, rfl, rfl, h25, h26, h27, by simpa [valL] using h5⟩ ?_
  rintro k e' _ ⟨i, rfl, hi, rfl, g0, g3, g4, g25, g26, g27, g5⟩ R hnor hex hret
  by_cases hlt : i < ch.length
  · have hlt' : (i : Int) < ch.length := by omega
    have hg : (ch.map fun b => [PV.int .u8 (b.toNat : Int)])[i]? = some [.int .u8 (ch[i].toNat : Int)] := by simp [hlt]
    have hb := hd ch[i] (List.getElem_mem hlt)
    simp only [digB, Bool.and_eq_true, Nat.ble_eq] at hb
    have hv := valL_lt (ch.take i) fun b hb => hd b (List.mem_of_mem_take hb)
    have hp : 10 ^ (ch.take i).length ≤ 10 ^ 8 := Nat.pow_le_pow_right (by omega) (by simp; omega)
    have w1 : IntKind.u64.wrap (10 * (valL (ch.take i) : Int)) = 10 * (valL (ch.take i) : Int) := wrap_u64 (by omega) (by omega)
    have w2 : IntKind.u8.wrap ((ch[i].toNat : Int) - 48) = (ch[i].toNat : Int) - 48 := wrap_u8 (by omega) (by omega)
    have w3 : IntKind.u64.wrap ((ch[i].toNat : Int) - 48) = (ch[i].toNat : Int) - 48 := wrap_u64 (by omega) (by omega)
    have w4 : IntKind.u64.wrap (10 * (valL (ch.take i) : Int) + ((ch[i].toNat : Int) - 48)) = (valL (ch.take (i + 1)) : Nat) := by rw [wrap_u64 (by omega) (by omega), valL_snoc ch i hlt]; omega
    have w5 : IntKind.i64.wrap ((i : Int) + 1) = ((i + 1 : Nat) : Int) := by rw [wrap_i64 (by omega) (by omega)]; omega
    simp [s183_1, g25, g26, g27, g5, Nat.beq, hlt', hg, joinCells, w1, w2, w3, w4, w5]
    exact hnor _ _ _ (by omega) ⟨i + 1, rfl, by omega, rfl, by simpa [Nat.beq] using g0, by simpa [Nat.beq] using g3, by simpa [Nat.beq] using g4, by simpa [Nat.beq] using g25, by simpa [Nat.beq] using g26, by simp [Nat.beq], by simp [Nat.beq]⟩
  · have hlt' : ¬ ((i : Int) < ch.length) := by omega
    simp [s183_1, g25, g26, g27, g5, Nat.beq, hlt']
    refine hex _ _ _ (hQ _ ?_ ?_ ?_ ?_)
    · simpa [Nat.beq] using g0
    · simpa [Nat.beq] using g3
    · simpa [Nat.beq] using g4
    · simp [Nat.beq, g5, List.take_of_length_le (show ch.length ≤ i by omega)]

theorem extract_list (s : ByteArray) (a b : Nat) : (s.extract a b).data.toList = (s.data.toList.drop a).take (b - a) := by
  rw [ByteArray.data_extract]
  simp [List.take_drop]

theorem cut_ev {T : Tab} (hC : T.body 183 = some s183) (hT : T.body 193 = some s193) {L d : Nat} {s : ByteArray} {ρ : Store} (hd : ∀ b, b ∈ s.data.toList → digB b = true) (hs : s.size ≤ 100000) (hL : 100010 < L) :
    Gt (evF T L (d + 2) 183 [.str s] ρ) fun v ρ' => Ext ρ ρ' ∧ Pcs ρ ρ' v (valL s.data.toList) := by
  refine Gt_evF hC rfl fun R hR => ?_
  have hsl : s.data.toList.length = s.size := by rw [Array.length_toList]; rfl
  obtain ⟨n9, q0, q9⟩ : ∃ n : Nat, (s.size : Int).tdiv 9 = n ∧ n ≤ 100000 := ⟨s.size / 9, by rw [Int.tdiv_eq_ediv_of_nonneg (by omega)]; omega, by omega⟩
  have q1 : IntKind.i64.wrap (n9 : Int) = n9 := wrap_i64 (by omega) (by omega)
  have q2 : IntKind.i64.wrap ((n9 : Int) + 1) = (n9 : Int) + 1 := wrap_i64 (by omega) (by omega)
  have q3 : 0 ≤ (n9 : Int) + 1 := by omega
  have q4 : (n9 : Int) + 1 ≤ 1073741824 := by omega
  simp [s183, Nat.beq, q0, q1, q2, q3, q4]
  refine Wk_loop (fun k e ρ1 => ∃ (z : Int) (id : Nat) (ds : List Nat), k = z.toNat ∧ 9 * (ds.length : Int) + z = s.size ∧ -9 ≤ z ∧ e 0 = .str s ∧ e 4 = .int .i64 z ∧ e 3 = .ms id 1 0 ds.length ∧ ρ1[id]? = some ⟨1, nums .u64 ds, true⟩ ∧ ρ.length ≤ id ∧ Ext ρ ρ1 ∧ (∀ d, d ∈ ds → d < 1000000000) ∧ valP ds + 1000000000 ^ ds.length * valL (s.data.toList.take z.toNat) = valL s.data.toList) s.size (by omega)
    ⟨s.size, ρ.length, [], by omega, by simp, by omega, by simp [Nat.beq], by simp [Nat.beq], by simp [Nat.beq], by simp [nums], Nat.le_refl _, Ext.push _ _, by simp, by rw [Int.toNat_natCast, List.take_of_length_le (by omega)]; simp [valP]⟩ ?_
  rintro k e ρ1 ⟨z, id, ds, rfl, hz1, hz2, h0, h4, h3, hid, hid2, hext, hds, hval⟩ R2 hnor hex hret
  by_cases hz : 0 < z
  · obtain ⟨aN, ha⟩ : ∃ a, a = (z - 9).toNat := ⟨_, rfl⟩
    obtain ⟨zN, hzN⟩ : ∃ a : Nat, z = a := ⟨z.toNat, by omega⟩
    subst hzN
    have m1 : max 0 ((zN : Int) - 9) = (aN : Int) := by omega
    have w1 : IntKind.i64.wrap ((zN : Int) - 9) = (zN : Int) - 9 := wrap_i64 (by omega) (by omega)
    have c1 : aN ≤ zN := by omega
    have hz' : 0 < zN := by omega
    have c2 : zN ≤ s.size := by omega
    obtain ⟨sub, hE⟩ : ∃ sub, s.extract aN zN = sub := ⟨_, rfl⟩
    have hch : sub.data.toList = (s.data.toList.drop aN).take (zN - aN) := by rw [← hE]; exact extract_list s aN zN
    have hlen : sub.data.toList.length = zN - aN := by rw [hch, List.length_take, List.length_drop, hsl]; omega
    have hdc : ∀ b, b ∈ sub.data.toList → digB b = true := fun b hb => hd b (by rw [hch] at hb; exact List.mem_of_mem_drop (List.mem_of_mem_take hb))
    simp [s183_0, h0, h4, Nat.beq, hz', m1, w1, c1, c2, hE]
    refine cut_in (ch := sub.data.toList) hdc (by omega) (by omega) (by simp [Nat.beq]) (by simp [Nat.beq]) (by simp [Nat.beq]) (by simp [Nat.beq]) ?_
    intro e' f0 f3 f4 f5
    simp [Nat.beq, h3, h0, h4] at f0 f3 f4
    have hone : ∀ n : Int, one (PV.int .u64 n) = true := fun _ => rfl
    have hle : ds.length ≤ 1073741823 := by omega
    have htk : List.take ds.length (nums .u64 ds) = nums .u64 ds := List.take_of_length_le (by simp)
    simp [Nat.beq, f0, f3, f4, f5, nCells, fillElems, appElems, appTo, hid, hone, hle, htk, w1]
    have hsub : valL sub.data.toList < 1000000000 := by
      have h1 := valL_lt _ hdc
      have h2 : 10 ^ sub.data.toList.length ≤ 10 ^ 9 := Nat.pow_le_pow_right (by omega) (by omega)
      omega
    have hsplit : valL (s.data.toList.take zN) = valL (s.data.toList.take aN) * 10 ^ (zN - aN) + valL sub.data.toList := by
      rw [← hlen, hch, ← valL_append]
      congr 1
      rw [show zN = aN + (zN - aN) from by omega, List.take_add]
      congr 2
      omega
    refine hnor (((zN : Int) - 9).toNat) _ _ (by omega) ⟨(zN : Int) - 9, ρ1.length, ds ++ [valL sub.data.toList], rfl, by simp; omega, by omega, by simp [Nat.beq, f0], by simp [Nat.beq], by simp [Nat.beq], ?_, by have := hext.1; omega, hext.app hid2 _ _, ?_, ?_⟩
    · rw [List.getElem?_append_right (by simp)]
      simp [nums]
    · intro d hdm
      rcases List.mem_append.1 hdm with h | h
      · exact hds d h
      · rw [List.mem_singleton.1 h]; exact hsub
    · rw [← ha, valP_append, ← hval, List.length_append, List.length_singleton, Nat.pow_succ, Int.toNat_natCast, hsplit]
      simp only [valP, Nat.mul_zero, Nat.add_zero]
      by_cases h9 : 9 ≤ zN
      · rw [show zN - aN = 9 from by omega, Nat.mul_add, Nat.mul_comm (valL (s.data.toList.take aN)) (10 ^ 9), show (10 : Nat) ^ 9 = 1000000000 from rfl, Nat.mul_assoc]
        omega
      · have : aN = 0 := by omega
        subst this
        simp [valL]
  · simp [s183_0, h4, Nat.beq, hz]
    refine hex _ _ _ ?_
    simp [h3, Nat.beq]
    refine stepV_gt (trim_ev hT hid (n := ds.length) (Nat.le_refl _) (by omega) (by omega)) ?_
    rintro v ρ2 ⟨rfl, rfl⟩
    simp [Nat.beq]
    refine hR _ _ ⟨hext, id, trimN ds ds.length, ds, rfl, hid, hid2, trimN_le _ _, by omega, hds, ?_, trimN_top _ _⟩
    rw [trimN_val _ _ (Nat.le_refl _), ← hval]
    have : z.toNat = 0 := by omega
    simp [this, valL]

end Go.Proofs.YtkccoijckckhmaaGreatDoor.Ev

namespace Go.Proofs.YtkccoijckckhmaaGreatDoor.Ev
open Go

theorem digB_of (n : Nat) (h : n < 10) : digB (UInt8.ofNat (48 + n)) = true ∧ (UInt8.ofNat (48 + n)).toNat = 48 + n := by
  have : (UInt8.ofNat (48 + n)).toNat = 48 + n := by
    rw [UInt8.toNat_ofNat']
    omega
  refine ⟨?_, this⟩
  simp only [digB, this, Bool.and_eq_true, Nat.ble_eq]
  omega

/-- Value of digits, the least significant one first. -/
def valR : List UInt8 → Nat
  | [] => 0
  | b :: l => (b.toNat - 48) + 10 * valR l

theorem valL_reverse : ∀ l : List UInt8, valL l.reverse = valR l
  | [] => rfl
  | b :: l => by
    rw [List.reverse_cons, valL_append, valL_reverse l]
    simp [valL, valR]
    omega

theorem digsR_spec : ∀ (k n : Nat), n < 2 ^ k → valR (digsR k n) = n ∧ (∀ b, b ∈ digsR k n → digB b = true) ∧ digsR k n ≠ [] ∨ k = 0
  | 0, n, _ => .inr rfl
  | k + 1, n, h => by
    left
    simp only [digsR]
    by_cases hn : n < 10
    · have hb : Nat.blt n 10 = true := by simpa [Nat.blt_eq] using hn
      rw [hb, cond_true]
      obtain ⟨h1, h2⟩ := digB_of n hn
      simp only [valR, h2, List.mem_singleton, forall_eq, h1, ne_eq, List.cons_ne_nil, not_false_eq_true, and_true]
      omega
    · have hb : Nat.blt n 10 = false := by
        cases hh : Nat.blt n 10 with
        | false => rfl
        | true => rw [Nat.blt_eq] at hh; omega
      rw [hb, cond_false]
      obtain ⟨h1, h2⟩ := digB_of (n % 10) (by omega)
      have hp : n / 10 < 2 ^ k := by
        rw [Nat.pow_succ] at h
        omega
      rcases digsR_spec k (n / 10) hp with ⟨h3, h4, h5⟩ | h3
      · refine ⟨?_, ?_, by simp⟩
        · simp only [valR, h2, h3]
          omega
        · intro b hm
          rcases List.mem_cons.1 hm with rfl | hm
          · exact h1
          · exact h4 b hm
      · subst h3; simp at hp; omega

theorem digsR_last : ∀ (k n : Nat), n < 2 ^ k → 0 < n → ∃ l b, digsR k n = l ++ [b] ∧ b.toNat ≠ 48
  | 0, n, h, h0 => by simp at h; omega
  | k + 1, n, h, h0 => by
    simp only [digsR]
    by_cases hn : n < 10
    · have hb : Nat.blt n 10 = true := by simpa [Nat.blt_eq] using hn
      rw [hb, cond_true]
      refine ⟨[], _, rfl, ?_⟩
      rw [(digB_of n hn).2]; omega
    · have hb : Nat.blt n 10 = false := by
        cases hh : Nat.blt n 10 with
        | false => rfl
        | true => rw [Nat.blt_eq] at hh; omega
      rw [hb, cond_false]
      have hp : n / 10 < 2 ^ k := by
        rw [Nat.pow_succ] at h
        omega
      obtain ⟨l, b, h1, h2⟩ := digsR_last k (n / 10) hp (by omega)
      exact ⟨UInt8.ofNat (48 + n % 10) :: l, b, by rw [h1]; rfl, h2⟩

theorem natL_val (n : Nat) : valL (natL n) = n ∧ ∀ b, b ∈ natL n → digB b = true := by
  unfold natL
  have hlt : n < 2 ^ (Nat.log2 n + 1) := Nat.lt_log2_self
  rcases digsR_spec (Nat.log2 n + 1) n hlt with ⟨h1, h2, h3⟩ | h
  · exact ⟨by rw [valL_reverse, h1], fun b hb => h2 b (by simpa using hb)⟩
  · omega

/-- Canonical digits. -/
def Can (l : List UInt8) : Prop := (∀ b, b ∈ l → digB b = true) ∧ (l.length = 1 ∨ ∃ b r, l = b :: r ∧ b.toNat ≠ 48)

theorem canL_iff (l : List UInt8) : canL l = true ↔ Can l := by
  unfold canL Can
  rw [Bool.and_eq_true, List.all_eq_true, Bool.or_eq_true]
  refine and_congr Iff.rfl (or_congr (by simp) ?_)
  cases l with
  | nil => simp
  | cons b r =>
    simp only [Bool.not_eq_true', List.cons.injEq]
    constructor
    · intro h
      refine ⟨b, r, ⟨rfl, rfl⟩, fun hb => ?_⟩
      rw [hb] at h
      simp at h
    · rintro ⟨b', r', ⟨rfl, rfl⟩, hb⟩
      cases hh : Nat.beq b.toNat 48 with
      | false => rfl
      | true => exact absurd (Nat.eq_of_beq_eq_true hh) hb

theorem natL_can (n : Nat) : Can (natL n) := by
  refine ⟨(natL_val n).2, ?_⟩
  rcases Nat.eq_zero_or_pos n with rfl | h0
  · left; rfl
  · right
    obtain ⟨l, b, h1, h2⟩ := digsR_last (Nat.log2 n + 1) n Nat.lt_log2_self h0
    exact ⟨b, l.reverse, by unfold natL; rw [h1]; simp, h2⟩

theorem val_same : ∀ (l r : List UInt8), l.length = r.length → (∀ b, b ∈ l → digB b = true) → (∀ b, b ∈ r → digB b = true) → valL l = valL r → l = r
  | [], [], _, _, _, _ => rfl
  | [], _ :: _, h, _, _, _ => by simp at h
  | _ :: _, [], h, _, _, _ => by simp at h
  | a :: l, b :: r, h, h1, h2, hv => by
    simp only [List.length_cons, Nat.add_right_cancel_iff] at h
    rw [valL_cons, valL_cons, h] at hv
    have g1 := valL_lt l fun x hx => h1 x (List.mem_cons_of_mem _ hx)
    have g2 := valL_lt r fun x hx => h2 x (List.mem_cons_of_mem _ hx)
    rw [h] at g1
    have ha := h1 a (List.mem_cons_self ..)
    have hb := h2 b (List.mem_cons_self ..)
    simp only [digB, Bool.and_eq_true, Nat.ble_eq] at ha hb
    have e1 : a.toNat - 48 = b.toNat - 48 := by
      have q1 : ((a.toNat - 48) * 10 ^ r.length + valL l) / 10 ^ r.length = a.toNat - 48 := by
        rw [Nat.add_comm, Nat.add_mul_div_right _ _ (Nat.pow_pos (by omega)), Nat.div_eq_of_lt g1, Nat.zero_add]
      have q2 : ((b.toNat - 48) * 10 ^ r.length + valL r) / 10 ^ r.length = b.toNat - 48 := by
        rw [Nat.add_comm, Nat.add_mul_div_right _ _ (Nat.pow_pos (by omega)), Nat.div_eq_of_lt g2, Nat.zero_add]
      rw [← q1, hv, q2]
    have e2 : a = b := UInt8.toNat_inj.1 (by omega)
    have e3 : valL l = valL r := by rw [e1] at hv; omega
    rw [e2, val_same l r h (fun x hx => h1 x (List.mem_cons_of_mem _ hx)) (fun x hx => h2 x (List.mem_cons_of_mem _ hx)) e3]

theorem can_lb {l : List UInt8} (h : Can l) : l.length = 1 ∨ 10 ^ (l.length - 1) ≤ valL l := by
  rcases h.2 with h1 | ⟨b, r, rfl, hb⟩
  · exact .inl h1
  · right
    have := h.1 b (List.mem_cons_self ..)
    simp only [digB, Bool.and_eq_true, Nat.ble_eq] at this
    rw [valL_cons]
    simp only [List.length_cons, Nat.add_sub_cancel]
    have : 1 * 10 ^ r.length ≤ (b.toNat - 48) * 10 ^ r.length := Nat.mul_le_mul_right _ (by omega)
    omega

theorem can_pos {l : List UInt8} (h : Can l) : 1 ≤ l.length := by
  rcases h.2 with h1 | ⟨b, r, rfl, hb⟩
  · omega
  · simp

theorem can_unique {l r : List UInt8} (h1 : Can l) (h2 : Can r) (hv : valL l = valL r) : l = r := by
  refine val_same l r ?_ h1.1 h2.1 hv
  have key : ∀ {l r : List UInt8}, Can l → Can r → valL l = valL r → l.length ≤ r.length := by
    intro l r h1 h2 hv
    rcases can_lb h1 with h | h
    · have := can_pos h2; omega
    · have h3 := valL_lt r h2.1
      rw [hv] at h
      have : 10 ^ (l.length - 1) < 10 ^ r.length := by omega
      have := (Nat.pow_lt_pow_iff_right (by omega : 1 < 10)).1 this
      omega
  exact Nat.le_antisymm (key h1 h2 hv) (key h2 h1 hv.symm)

theorem natL_of {l : List UInt8} (h : Can l) : l = natL (valL l) := can_unique h (natL_can _) (natL_val _).1.symm

end Go.Proofs.YtkccoijckckhmaaGreatDoor.Ev

namespace Go.Proofs.YtkccoijckckhmaaGreatDoor.Ev
open Go

/-- A natural number in canonical digits, not too long. -/
def decV (s : ByteArray) : Option Nat := if canL s.data.toList = true ∧ s.size ≤ 20000 then some (valL s.data.toList) else none
/-- An integer in its canonical text, not too long. -/
def intW (s : ByteArray) : Option Int := if s.size ≤ 20000 then intV s else none

def eOK : PV := .int .i64 0
def emptyS : PV := .str ⟨#[]⟩

def dec1 (f : Nat → PV) : List PV → Option PV
  | [.str a] => (decV a).map f
  | _ => none
def dec2 (f : Nat → Nat → PV) : List PV → Option PV
  | [.str a, .str b] => match decV a, decV b with
    | some m, some n => some (f m n)
    | _, _ => none
  | _ => none
def int1 (f : Int → PV) : List PV → Option PV
  | [.str a] => (intW a).map f
  | _ => none
def int2 (f : Int → Int → PV) : List PV → Option PV
  | [.str a, .str b] => match intW a, intW b with
    | some m, some n => some (f m n)
    | _, _ => none
  | _ => none

def cmpN (m n : Nat) : PV := .int .i64 (bif Nat.blt m n then -1 else bif Nat.blt n m then 1 else 0)
def cmpI (m n : Int) : PV := .int .i64 (if m < n then -1 else if n < m then 1 else 0)

def gdAdd := dec2 fun m n => .str (natS (m + n))
def gdSub := dec2 fun m n => bif Nat.blt m n then .tup [emptyS, .int .i64 3] else .tup [.str (natS (m - n)), eOK]
def gdMul := dec2 fun m n => .str (natS (m * n))
def gdDivMod := dec2 fun m n => bif Nat.beq n 0 then .tup [emptyS, emptyS, .int .i64 17] else .tup [.str (natS (m / n)), .str (natS (m % n)), eOK]
def gdGcd := dec2 fun m n => .str (natS (Nat.gcd m n))
def gdLcm := dec2 fun m n => .str (natS (Nat.lcm m n))
def gdCompare := dec2 cmpN

def gwAdd := int2 fun m n => .str (intS (m + n))
def gwSub := int2 fun m n => .str (intS (m - n))
def gwMul := int2 fun m n => .str (intS (m * n))
def gwNeg := int1 fun m => .str (intS (-m))
def gwAbs := int1 fun m => .str (natS m.natAbs)
def gwSign := int1 fun m => .int .i64 m.sign
def gwCompare := int2 cmpI
def gwDivMod := int2 fun m n => if n = 0 then .tup [emptyS, emptyS, .int .i64 17] else .tup [.str (intS (m.fdiv n)), .str (intS (m.fmod n)), eOK]
def gwGcd := int2 fun m n => .str (natS (Int.gcd m n))
def gwLcm := int2 fun m n => .str (natS (Int.lcm m n))

/-- A fraction: numerator, and denominator greater than 0. -/
def fracV (v : PV) : Option (Int × Nat) := match v with
  | .agg [.str a, .str b] => match intW a, decV b with
    | some m, some n => if n = 0 then none else some (m, n)
    | _, _ => none
  | _ => none
def low (m : Int) (n : Nat) : PV :=
  let g := Nat.gcd m.natAbs n
  .agg [.str (intS (m / (g : Int))), .str (natS (n / g))]
def frac1 (f : Int → Nat → PV) : List PV → Option PV
  | [a] => match fracV a with
    | some (m, n) => some (f m n)
    | none => none
  | _ => none
def frac2 (f : Int → Nat → Int → Nat → PV) : List PV → Option PV
  | [a, b] => match fracV a, fracV b with
    | some (m, n), some (k, l) => some (f m n k l)
    | _, _ => none
  | _ => none
def gfAdd := frac2 fun m n k l => low (m * l + k * n) (n * l)
def gfSub := frac2 fun m n k l => low (m * l - k * n) (n * l)
def gfMul := frac2 fun m n k l => low (m * k) (n * l)
def gfDiv := frac2 fun m n k l => if k = 0 then .tup [.agg [emptyS, emptyS], .int .i64 17] else .tup [low (m * l * k.sign) (n * k.natAbs), eOK]
def gfNeg := frac1 fun m n => .agg [.str (intS (-m)), .str (natS n)]
def gfAbs := frac1 fun m n => .agg [.str (natS m.natAbs), .str (natS n)]
def gfSign := frac1 fun m _ => .int .i64 m.sign
def gfCompare := frac2 fun m n k l => cmpI (m * l) (k * n)

end Go.Proofs.YtkccoijckckhmaaGreatDoor.Ev

namespace Go.Proofs.YtkccoijckckhmaaGreatDoor.Ev
open Go

def bys (l : List UInt8) : List (List PV) := l.map fun b => [PV.int .u8 (b.toNat : Int)]
@[simp] theorem bys_length (l : List UInt8) : (bys l).length = l.length := by simp [bys]
theorem bys_get (l : List UInt8) (i : Nat) (h : i < l.length) : (bys l)[i]? = some [PV.int .u8 (l[i].toNat : Int)] := by simp [bys, h]
theorem bys_set (l : List UInt8) (i : Nat) (b : UInt8) : (bys l).set i [PV.int .u8 (b.toNat : Int)] = bys (l.set i b) := by simp [bys, List.map_set]
theorem bys_append (a b : List UInt8) : bys (a ++ b) = bys a ++ bys b := by simp [bys]
@[simp] theorem one_int (k : IntKind) (n : Int) : one (.int k n) = true := rfl

set_option maxRecDepth 10000
theorem rev_ev {T : Tab} (hT : T.body 218 = some s218) {L d id : Nat} {ρ : Store} {l : List UInt8} (hk : ρ[id]? = some ⟨1, bys l, true⟩) (hL : l.length < L) (hm : l.length ≤ 1000000) :
    Gt (evF T L (d + 1) 218 [.ms id 1 0 l.length] ρ) fun v ρ' => v = .tup [] ∧ ρ' = ρ.set id ⟨1, bys l.reverse, true⟩ := by
  refine Gt_evF hT rfl fun R hR => ?_
  have hid : id < ρ.length := by
    rcases Nat.lt_or_ge id ρ.length with h' | h'
    · exact h'
    · rw [List.getElem?_eq_none h'] at hk; cases hk
  have w0 : IntKind.i64.wrap ((l.length : Int) - 1) = (l.length : Int) - 1 := wrap_i64 (by omega) (by omega)
  simp [s218, Nat.beq, w0]
  refine Wk_loop (fun k e ρ1 => ∃ (i : Nat) (l1 : List UInt8), k = l.length - i ∧ 2 * i ≤ l.length + 1 ∧ i ≤ l.length ∧ e 0 = .ms id 1 0 l.length ∧ e 2 = .int .i64 (i : Nat) ∧ e 3 = .int .i64 ((l.length : Int) - 1 - i) ∧ ρ1 = ρ.set id ⟨1, bys l1, true⟩ ∧ l1.length = l.length ∧ ∀ p, p < l.length → l1[p]? = if p < i ∨ l.length ≤ p + i then l[l.length - 1 - p]? else l[p]?) l.length hL
    ⟨0, l, by omega, by omega, by omega, by simp [Nat.beq], by simp [Nat.beq], by simp [Nat.beq], ?_, rfl, fun p hp => by rw [if_neg (by omega)]⟩ ?_
  · apply List.ext_getElem?
    intro q
    rw [List.getElem?_set]
    split
    · rename_i h; subst h; simpa [hid] using hk
    · rfl
  rintro k e _ ⟨i, l1, rfl, hi, hi2, g0, g2, g3, rfl, hl1, hget⟩ R2 hnor hex hret
  by_cases hlt : (i : Int) < (l.length : Int) - 1 - i
  · obtain ⟨j, hj⟩ : ∃ j : Nat, (l.length : Int) - 1 - i = j := ⟨l.length - 1 - i, by omega⟩
    rw [hj] at g3 hlt
    have hij : i < j := by omega
    have hi1 : i < l1.length := by omega
    have hj1 : j < l1.length := by omega
    have hi3 : i < l.length := by omega
    have hj3 : j < l.length := by omega
    have b1 := bys_get l1 i hi1
    have b2 := bys_get l1 j hj1
    have b3 : (bys (l1.set i l1[j]))[j]? = some [PV.int .u8 (l1[j].toNat : Int)] := by rw [bys_get _ _ (by simpa using hj1)]; simp [List.getElem_set]
    have w1 : IntKind.i64.wrap ((i : Int) + 1) = ((i + 1 : Nat) : Int) := by rw [wrap_i64 (by omega) (by omega)]; omega
    have w2 : IntKind.i64.wrap ((j : Int) - 1) = (l.length : Int) - 1 - ((i + 1 : Nat) : Int) := by rw [wrap_i64 (by omega) (by omega)]; omega
    simp [s218_0, g0, g2, g3, Nat.beq, hij, hid, hi3, hj3, b1, b2, b3, joinCells, nCells, spliceAt, bys_set, w1, w2]
    refine hnor (l.length - (i + 1)) _ _ (by omega) ⟨i + 1, (l1.set i l1[j]).set j l1[i], rfl, by omega, by omega, by simp [Nat.beq, g0], by simp [Nat.beq], by simp [Nat.beq], rfl, by simpa using hl1, ?_⟩
    intro p hp
    rw [List.getElem?_set, List.getElem?_set]
    by_cases h1 : j = p
    · subst h1
      have := hget i hi3
      rw [if_neg (by omega), List.getElem?_eq_getElem hi1] at this
      rw [if_pos rfl, if_pos (by simpa using hj1), if_pos (by omega), this]
      congr 1; omega
    · rw [if_neg h1]
      by_cases h2 : i = p
      · subst h2
        have := hget j hj3
        rw [if_neg (by omega), List.getElem?_eq_getElem hj1] at this
        rw [if_pos rfl, if_pos hi1, if_pos (by omega), this]
        congr 1; omega
      · rw [if_neg h2, hget p hp]
        by_cases h3 : p < i ∨ l.length ≤ p + i
        · rw [if_pos h3, if_pos (by omega)]
        · rw [if_neg h3, if_neg (by omega)]
  · have hlt' : ¬ ((i : Int) < (l.length : Int) - 1 - i) := hlt
    simp [s218_0, g2, g3, Nat.beq, hlt']
    refine hex _ _ _ ?_
    simp
    refine hR _ _ ⟨rfl, ?_⟩
    congr 3
    apply List.ext_getElem?
    intro p
    rcases Nat.lt_or_ge p l.length with hp | hp
    · rw [hget p hp, List.getElem?_reverse hp]
      by_cases h3 : p < i ∨ l.length ≤ p + i
      · rw [if_pos h3]
      · rw [if_neg h3]; congr 1; omega
    · rw [List.getElem?_eq_none (by omega), List.getElem?_eq_none (by simpa using hp)]

end Go.Proofs.YtkccoijckckhmaaGreatDoor.Ev

namespace Go.Proofs.YtkccoijckckhmaaGreatDoor.Ev
open Go

theorem valR_append : ∀ (a b : List UInt8), valR (a ++ b) = valR a + 10 ^ a.length * valR b
  | [], b => by simp [valR]
  | x :: a, b => by
    simp only [List.cons_append, valR, valR_append a b, List.length_cons, Nat.pow_succ, Nat.mul_add]
    rw [Nat.mul_comm (10 ^ a.length) 10, Nat.mul_assoc]
    omega

set_option maxRecDepth 10000
theorem text_in {T : Tab} {call} {L : Nat} {ks : List K} {Q : Post} {ds : List Nat} {i n0 id : Nat} {bs : List UInt8} {e : Env} {ρ0 ρ : Store} (hL : 10 < L)
    (h0 : e 0 = .sl 1 (nums .u64 ds)) (h4 : e 4 = .int .i64 (i : Nat)) (h5 : e 5 = .int .u64 (n0 : Nat)) (h6 : e 6 = .int .i64 0) (h3 : e 3 = .ms id 1 0 bs.length) (hid : ρ[id]? = some ⟨1, bys bs, true⟩) (hid0 : ρ0.length ≤ id) (hext : Ext ρ0 ρ)
    (hbs : ∀ b, b ∈ bs → digB b = true) (hn0 : n0 < 1000000000) (hi : i < ds.length) (hdl : ds.length ≤ 100000) (hbl : bs.length = 9 * i) (hlast : i + 1 = ds.length → 0 < n0)
    (hQ : ∀ (e' : Env) (ρ' : Store) (id' : Nat) (bs' : List UInt8), e' 0 = e 0 → e' 14 = e 14 → e' 15 = e 15 → e' 16 = e 16 → e' 3 = .ms id' 1 0 bs'.length → ρ'[id']? = some ⟨1, bys bs', true⟩ → ρ0.length ≤ id' → Ext ρ0 ρ' → (∀ b, b ∈ bs' → digB b = true) →
      valR bs' = valR bs + 10 ^ bs.length * n0 → (i + 1 < ds.length → bs'.length = 9 * (i + 1)) → bs'.length ≤ 9 * (i + 1) → (i + 1 = ds.length → ∃ r b, bs' = r ++ [b] ∧ b.toNat ≠ 48) → jmp T call L (.ex 2) ks e' ρ' Q) :
    Wk T call L (.code (.loop s185_1) :: ks) e ρ Q := by
  refine Wk_loop (fun m e' ρ' => ∃ (k nk id' : Nat) (bs' : List UInt8), m = 9 - k ∧ k ≤ 9 ∧ e' 0 = e 0 ∧ e' 4 = e 4 ∧ e' 14 = e 14 ∧ e' 15 = e 15 ∧ e' 16 = e 16 ∧ e' 5 = .int .u64 (nk : Nat) ∧ e' 6 = .int .i64 (k : Nat) ∧ e' 3 = .ms id' 1 0 bs'.length ∧ ρ'[id']? = some ⟨1, bys bs', true⟩ ∧ ρ0.length ≤ id' ∧ Ext ρ0 ρ' ∧ (∀ b, b ∈ bs' → digB b = true) ∧
      valR bs' + 10 ^ bs'.length * nk = valR bs + 10 ^ bs.length * n0 ∧ bs'.length = 9 * i + k ∧ nk < 10 ^ (9 - k) ∧ (k = 0 ∧ nk = n0 ∨ ∃ r b, bs' = r ++ [b] ∧ (i + 1 = ds.length → nk = 0 → b.toNat ≠ 48))) 9 (by omega)
    ⟨0, n0, id, bs, rfl, by omega, rfl, rfl, rfl, rfl, rfl, h5, h6, h3, hid, hid0, hext, hbs, rfl, by omega, by simpa using hn0, .inl ⟨rfl, rfl⟩⟩ ?_
  rintro m e1 ρ1 ⟨k, nk, id1, bs1, rfl, hk9, g0, g4, g14, g15, g16, g5, g6, g3, gid, gid0, gext, gbs, gval, glen, gnk, glast⟩ R hnor hex hret
  rw [h0] at g0
  rw [h4] at g4
  have w0 : IntKind.i64.wrap ((i : Int) + 1) = (i : Int) + 1 := wrap_i64 (by omega) (by omega)
  by_cases hk : (k : Int) < 9
  · have hk' : k < 9 := by omega
    have hpow : 10 ^ (9 - k) = 10 * 10 ^ (9 - (k + 1)) := by rw [show 9 - k = (9 - (k + 1)) + 1 from by omega, Nat.pow_succ, Nat.mul_comm]
    have hp9 : 10 ^ (9 - k) ≤ 10 ^ 9 := Nat.pow_le_pow_right (by omega) (by omega)
    obtain ⟨hd1, hd2⟩ := digB_of (nk % 10) (by omega)
    obtain ⟨c, hc⟩ : ∃ c, c = UInt8.ofNat (48 + nk % 10) := ⟨_, rfl⟩
    rw [← hc] at hd1 hd2
    have q1 : (nk : Int).tmod 10 = ((nk % 10 : Nat) : Int) := by rw [Int.tmod_eq_emod_of_nonneg (by omega)]; omega
    have q2 : (nk : Int).tdiv 10 = ((nk / 10 : Nat) : Int) := by rw [Int.tdiv_eq_ediv_of_nonneg (by omega)]; omega
    obtain ⟨dg, hdg⟩ : ∃ dg, nk % 10 = dg := ⟨_, rfl⟩
    obtain ⟨nq, hnq⟩ : ∃ nq, nk / 10 = nq := ⟨_, rfl⟩
    rw [hdg] at q1 hd2
    rw [hnq] at q2
    have w1 : IntKind.u64.wrap (48 + (dg : Int)) = 48 + (dg : Int) := wrap_u64 (by omega) (by omega)
    have w2 : IntKind.u8.wrap (48 + (dg : Int)) = (c.toNat : Int) := by rw [wrap_u8 (by omega) (by omega), hd2]; omega
    have w3 : IntKind.u64.wrap (nq : Int) = nq := wrap_u64 (by omega) (by omega)
    have w4 : IntKind.i64.wrap ((k : Int) + 1) = ((k + 1 : Nat) : Int) := by rw [wrap_i64 (by omega) (by omega)]; omega
    have hle : bs1.length ≤ 1073741823 := by omega
    have htk : List.take bs1.length (bys bs1) = bys bs1 := List.take_of_length_le (by simp)
    have step : (i + 1 < ds.length ∨ 0 < nk) → ∀ e2 ρ2, e2 0 = .sl 1 (nums .u64 ds) → e2 4 = .int .i64 (i : Nat) → e2 14 = e 14 → e2 15 = e 15 → e2 16 = e 16 → e2 5 = .int .u64 (nq : Nat) → e2 6 = .int .i64 ((k + 1 : Nat) : Int) → e2 3 = .ms ρ1.length 1 0 (bs1.length + 1) →
        ρ2 = (ρ1.set id1 ⟨1, [], false⟩) ++ [⟨1, bys bs1 ++ [[.int .u8 (c.toNat : Int)]], true⟩] → R .nor e2 ρ2 := by
      rintro hc2 e2 ρ2 j0 j4 j14 j15 j16 j5 j6 j3 rfl
      refine hnor (9 - (k + 1)) _ _ (by omega) ⟨k + 1, nq, ρ1.length, bs1 ++ [c], rfl, by omega, by rw [j0, h0], by rw [j4, h4], j14, j15, j16, j5, j6, by rw [j3]; simp, ?_, by have := gext.1; omega, gext.app gid0 _ _, ?_, ?_, by simp; omega, by omega, .inr ⟨bs1, c, rfl, fun h1 h2 => by omega⟩⟩
      · rw [List.getElem?_append_right (by simp)]
        simp [bys]
      · intro b hb
        rcases List.mem_append.1 hb with h | h
        · exact gbs b h
        · rw [List.mem_singleton.1 h]; exact hd1
      · rw [valR_append, List.length_append, List.length_singleton, Nat.pow_succ, ← gval]
        simp only [valR, Nat.mul_zero, Nat.add_zero]
        have e1 : nk = 10 * nq + dg := by omega
        rw [e1, hd2, show 48 + dg - 48 = dg from by omega, Nat.mul_add, Nat.mul_assoc]
        omega
    by_cases hi1 : (i : Int) + 1 < ds.length
    · have hi1' : i + 1 < ds.length := by omega
      simp [s185_1, g0, g3, g4, g5, g6, Nat.beq, hk, hk', w0, hi1, q1, q2, w1, w2, w3, w4, nCells, fillElems, appElems, appTo, gid, hle, htk]
      exact step (.inl hi1') _ _ (by simp [Nat.beq, g0]) (by simp [Nat.beq, g4]) (by simp [Nat.beq, g14]) (by simp [Nat.beq, g15]) (by simp [Nat.beq, g16]) (by simp [Nat.beq]) (by simp [Nat.beq]) (by simp [Nat.beq]) rfl
    · by_cases hnk : 0 < nk
      · simp [s185_1, g0, g3, g4, g5, g6, Nat.beq, hk, hk', w0, hi1, hnk, q1, q2, w1, w2, w3, w4, nCells, fillElems, appElems, appTo, gid, hle, htk]
        exact step (.inr hnk) _ _ (by simp [Nat.beq, g0]) (by simp [Nat.beq, g4]) (by simp [Nat.beq, g14]) (by simp [Nat.beq, g15]) (by simp [Nat.beq, g16]) (by simp [Nat.beq]) (by simp [Nat.beq]) (by simp [Nat.beq]) rfl
      · have hz : nk = 0 := by omega
        subst hz
        simp [s185_1, g0, g3, g4, g5, g6, Nat.beq, hk, hk', w0, hi1]
        refine hex _ _ _ (hQ _ _ id1 bs1 (by simp [Nat.beq, g0, h0]) (by simp [Nat.beq, g14]) (by simp [Nat.beq, g15]) (by simp [Nat.beq, g16]) (by simp [Nat.beq, g3]) gid gid0 gext gbs (by simpa using gval) (fun h => by omega) (by omega) fun h => ?_)
        rcases glast with ⟨rfl, h2⟩ | ⟨r, b, h1, h2⟩
        · have := hlast h; omega
        · exact ⟨r, b, h1, h2 h rfl⟩
  · have hk' : ¬ k < 9 := by omega
    have : k = 9 := by omega
    subst this
    have hz : nk = 0 := by simpa using gnk
    subst hz
    simp [s185_1, g0, g3, g4, g5, g6, Nat.beq, hk, hk']
    refine hex _ _ _ (hQ _ _ id1 bs1 (by simp [Nat.beq, g0, h0]) (by simp [Nat.beq, g14]) (by simp [Nat.beq, g15]) (by simp [Nat.beq, g16]) (by simp [Nat.beq, g3]) gid gid0 gext gbs (by simpa using gval) (fun h => by omega) (by omega) fun h => ?_)
    rcases glast with ⟨h1, h2⟩ | ⟨r, b, h1, h2⟩
    · omega
    · exact ⟨r, b, h1, h2 h rfl⟩

theorem bytes_bys : ∀ l : List UInt8, bytesOfEs (bys l) = some l
  | [] => rfl
  | b :: l => by
    have h : (0 : Int) ≤ (b.toNat : Int) ∧ (b.toNat : Int) < 256 := by have := b.toNat_lt; omega
    have ih := bytes_bys l
    simp only [bys, List.map_cons] at ih ⊢
    simp only [bytesOfEs, if_pos h, ih, Option.map_some]
    simp

theorem pow9 (i : Nat) : 10 ^ (9 * i) = 1000000000 ^ i := by rw [Nat.pow_mul]

/-- Pieces without zeros at the end. -/
def Tight (ds : List Nat) : Prop := ds = [] ∨ ds[ds.length - 1]?.getD 0 ≠ 0

theorem text_ev {T : Tab} (hX : T.body 185 = some s185) (hV : T.body 218 = some s218) {L d : Nat} {ds : List Nat} {ρ : Store} (hds : ∀ d, d ∈ ds → d < 1000000000) (hl : ds.length ≤ 100000) (ht : Tight ds) (hL : 1000000 < L) :
    Gt (evF T L (d + 2) 185 [.sl 1 (nums .u64 ds)] ρ) fun v ρ' => v = .str (natS (valP ds)) := by
  refine Gt_evF hX rfl fun R hR => ?_
  by_cases h0 : ds = []
  · subst h0
    simp [s185, Nat.beq]
    exact hR _ _ rfl
  · have hpos : 0 < ds.length := List.length_pos_iff.2 h0
    have hne : ¬ ((ds.length : Int) = 0) := by omega
    have w1 : IntKind.i64.wrap (9 * (ds.length : Int)) = 9 * (ds.length : Int) := wrap_i64 (by omega) (by omega)
    have c1 : 0 ≤ 9 * (ds.length : Int) := by omega
    have c2 : 9 * (ds.length : Int) ≤ 1073741824 := by omega
    simp [s185, Nat.beq, hne, h0, w1, c1, c2]
    refine Wk_loop (fun k e ρ1 => ∃ (i id : Nat) (bs : List UInt8), k = ds.length - i ∧ i ≤ ds.length ∧ e 0 = .sl 1 (nums .u64 ds) ∧ e 14 = .sl 1 (nums .u64 ds) ∧ e 15 = .int .i64 (ds.length : Nat) ∧ e 16 = .int .i64 (i : Nat) ∧ e 3 = .ms id 1 0 bs.length ∧ ρ1[id]? = some ⟨1, bys bs, true⟩ ∧ ρ.length ≤ id ∧ Ext ρ ρ1 ∧ (∀ b, b ∈ bs → digB b = true) ∧ valR bs = valP (ds.take i) ∧ bs.length ≤ 9 * i ∧ (i < ds.length → bs.length = 9 * i) ∧ (i = ds.length → ∃ r b, bs = r ++ [b] ∧ b.toNat ≠ 48)) ds.length (by omega)
      ⟨0, ρ.length, [], by omega, by omega, by simp [Nat.beq], by simp [Nat.beq], by simp [Nat.beq], by simp [Nat.beq], by simp [Nat.beq], by simp [bys], Nat.le_refl _, Ext.push _ _, by simp, by simp [valR, valP], by simp, by simp, fun h => by omega⟩ ?_
    rintro k e ρ1 ⟨i, id, bs, rfl, hi, g0, g14, g15, g16, g3, gid, gid0, gext, gbs, gval, gle, glen, glast⟩ R2 hnor hex hret
    by_cases hlt : (i : Int) < ds.length
    · have hlt' : i < ds.length := by omega
      have hg := nums_get .u64 ds i hlt'
      have w2 : IntKind.i64.wrap ((i : Int) + 1) = ((i + 1 : Nat) : Int) := by rw [wrap_i64 (by omega) (by omega)]; omega
      simp [s185_0, g0, g14, g15, g16, g3, Nat.beq, hlt, hlt', hg, joinCells]
      refine text_in (ρ0 := ρ) (ds := ds) (i := i) (n0 := ds[i]) (id := id) (bs := bs) (by omega) (by simp [Nat.beq, g0]) (by simp [Nat.beq]) (by simp [Nat.beq]) (by simp [Nat.beq]) (by simp [Nat.beq, g3]) gid gid0 gext gbs (hds _ (List.getElem_mem hlt')) hlt' hl (glen hlt') (fun h => ?_) ?_
      · rcases ht with h1 | h1
        · exact absurd h1 h0
        · rw [show ds.length - 1 = i from by omega, List.getElem?_eq_getElem hlt'] at h1
          simp at h1; omega
      · intro e' ρ' id' bs' f0 f14 f15 f16 f3 fid fid0 fext fbs fval f1 f2 f4
        simp [Nat.beq, g0, g14, g15, g16] at f0 f14 f15 f16
        simp [Nat.beq, f16, w2]
        refine hnor (ds.length - (i + 1)) _ _ (by omega) ⟨i + 1, id', bs', rfl, by omega, by simp [Nat.beq, f0], by simp [Nat.beq, f14], by simp [Nat.beq, f15], by simp [Nat.beq], by simp [Nat.beq, f3], fid, fid0, fext, fbs, ?_, f2, f1, f4⟩
        rw [fval, gval, List.take_add_one, List.getElem?_eq_getElem hlt', glen hlt', pow9]
        simp only [Option.toList_some, valP_append, List.length_take, valP, Nat.mul_zero, Nat.add_zero]
        rw [Nat.min_eq_left hi]
    · have hlt' : ¬ i < ds.length := by omega
      have hie : i = ds.length := by omega
      obtain ⟨r, b, hb1, hb2⟩ := glast hie
      simp [s185_0, g15, g16, Nat.beq, hlt, hlt']
      refine hex _ _ _ ?_
      simp [g3, Nat.beq]
      refine stepV_gt (rev_ev hV gid (by omega) (by omega)) ?_
      rintro v ρ2 ⟨rfl, rfl⟩
      have hidl : id < ρ1.length := by
        rcases Nat.lt_or_ge id ρ1.length with h' | h'
        · exact h'
        · rw [List.getElem?_eq_none h'] at gid; cases gid
      have htk : List.take bs.length (bys bs.reverse) = bys bs.reverse := List.take_of_length_le (by simp)
      simp [Nat.beq, g3, hidl, htk, bytes_bys]
      refine hR _ _ ?_
      have hcan : Can bs.reverse := ⟨fun x hx => gbs x (by simpa using hx), .inr ⟨b, r.reverse, by rw [hb1]; simp, hb2⟩⟩
      have hv : valL bs.reverse = valP ds := by rw [valL_reverse, gval, hie, List.take_length]
      rw [natL_of hcan, hv]
      rfl

end Go.Proofs.YtkccoijckckhmaaGreatDoor.Ev

namespace Go.Proofs.YtkccoijckckhmaaGreatDoor.Ev
open Go

theorem valP_set : ∀ (l : List Nat) (j x : Nat), j < l.length → valP (l.set j x) + 1000000000 ^ j * (l[j]?.getD 0) = valP l + 1000000000 ^ j * x
  | [], j, x, h => by simp at h
  | d :: l, 0, x, _ => by simp [valP]; omega
  | d :: l, j + 1, x, h => by
    have ih := valP_set l j x (by simpa using h)
    simp only [List.set_cons_succ, valP, List.getElem?_cons_succ, Nat.pow_succ]
    have e1 : 1000000000 ^ j * 1000000000 * (l[j]?.getD 0) = 1000000000 * (1000000000 ^ j * (l[j]?.getD 0)) := by rw [Nat.mul_comm (1000000000 ^ j) 1000000000, Nat.mul_assoc]
    have e2 : 1000000000 ^ j * 1000000000 * x = 1000000000 * (1000000000 ^ j * x) := by rw [Nat.mul_comm (1000000000 ^ j) 1000000000, Nat.mul_assoc]
    rw [e1, e2]
    omega

theorem nums_set (k : IntKind) (l : List Nat) (i : Nat) (x : Nat) : (nums k l).set i [PV.int k (x : Int)] = nums k (l.set i x) := by simp [nums, List.map_set]

theorem valP_take_succ (l : List Nat) (i : Nat) (h : i < l.length) : valP (l.take (i + 1)) = valP (l.take i) + 1000000000 ^ i * l[i] := by
  rw [List.take_add_one, List.getElem?_eq_getElem h]
  simp only [Option.toList_some, valP_append, List.length_take, valP, Nat.mul_zero, Nat.add_zero]
  rw [Nat.min_eq_left (by omega)]

/-- A value that reads as pieces, and no row that is written. -/
def Reads (ρ0 : Store) (ido : Nat) (v : PV) (ds : List Nat) : Prop := v = .sl 1 (nums .u64 ds) ∨ ∃ id m es l, v = .ms id 1 0 m ∧ ρ0[id]? = some ⟨1, nums .u64 es, l⟩ ∧ m ≤ es.length ∧ ds = es.take m ∧ id ≠ ido

set_option maxRecDepth 10000
theorem times_in {T : Tab} {call} {L : Nat} {ks : List K} {Q : Post} {qs outs0 : List Nat} {qv : PV} {ρ0 : Store} {ido i a : Nat} (hido : ido < ρ0.length) (hq : Reads ρ0 ido qv qs) (hqs : ∀ d, d ∈ qs → d < 1000000000) (ha : a < 1000000000) (ho0 : ∀ d, d ∈ outs0 → d < 1000000000) (hin : i + qs.length < outs0.length) (hsz : outs0.length ≤ 1000000) (hL : 1000000 < L)
    {e : Env} (h5 : e 5 = .ms ido 1 0 outs0.length) (h6 : e 6 = .int .i64 (i : Nat)) (h7 : e 7 = .int .u64 (a : Nat)) (h8 : e 8 = .int .u64 0) (h24 : e 24 = qv) (h25 : e 25 = .int .i64 (qs.length : Nat)) (h26 : e 26 = .int .i64 0)
    (hQ : ∀ (e' : Env) (outs : List Nat) (carry : Nat), e' 0 = e 0 → e' 1 = e 1 → e' 5 = e 5 → e' 6 = e 6 → e' 17 = e 17 → e' 18 = e 18 → e' 19 = e 19 → e' 8 = .int .u64 (carry : Nat) → carry < 1000000000 → outs.length = outs0.length → (∀ d, d ∈ outs → d < 1000000000) →
      valP outs + 1000000000 ^ (i + qs.length) * carry = valP outs0 + 1000000000 ^ i * (a * valP qs) → (∀ p, i + qs.length ≤ p → outs[p]? = outs0[p]?) → jmp T call L (.ex 2) ks e' (ρ0.set ido ⟨1, nums .u64 outs, true⟩) Q) :
    Wk T call L (.code (.loop s184_1) :: ks) e (ρ0.set ido ⟨1, nums .u64 outs0, true⟩) Q := by
  refine Wk_loop (fun m e' ρ' => ∃ (k carry : Nat) (outs : List Nat), m = qs.length - k ∧ k ≤ qs.length ∧ ρ' = ρ0.set ido ⟨1, nums .u64 outs, true⟩ ∧ e' 0 = e 0 ∧ e' 1 = e 1 ∧ e' 5 = e 5 ∧ e' 6 = e 6 ∧ e' 7 = e 7 ∧ e' 17 = e 17 ∧ e' 18 = e 18 ∧ e' 19 = e 19 ∧ e' 24 = e 24 ∧ e' 25 = e 25 ∧ e' 8 = .int .u64 (carry : Nat) ∧ e' 26 = .int .i64 (k : Nat) ∧ carry < 1000000000 ∧ outs.length = outs0.length ∧ (∀ d, d ∈ outs → d < 1000000000) ∧
      valP outs + 1000000000 ^ (i + k) * carry = valP outs0 + 1000000000 ^ i * (a * valP (qs.take k)) ∧ ∀ p, i + qs.length ≤ p → outs[p]? = outs0[p]?) qs.length (by omega)
    ⟨0, 0, outs0, rfl, Nat.zero_le _, rfl, rfl, rfl, rfl, rfl, rfl, rfl, rfl, rfl, rfl, rfl, h8, h26, by omega, rfl, ho0, by simp [valP], fun _ _ => rfl⟩ ?_
  rintro m e1 _ ⟨k, carry, outs, rfl, hk, rfl, g0, g1, g5, g6, g7, g17, g18, g19, g24, g25, g8, g26, gc, gl, gd, gv, gt⟩ R hnor hex hret
  by_cases hlt : (k : Int) < qs.length
  · have hlt' : k < qs.length := by omega
    have hb : qs[k] < 1000000000 := hqs _ (List.getElem_mem hlt')
    have hik : i + k < outs.length := by omega
    have hx : outs[i + k] < 1000000000 := gd _ (List.getElem_mem hik)
    have hab : a * qs[k] ≤ 999999999 * 999999999 := Nat.mul_le_mul (by omega) (by omega)
    obtain ⟨x, hxe⟩ : ∃ x, outs[i + k] = x := ⟨_, rfl⟩
    obtain ⟨b, hbe⟩ : ∃ b, qs[k] = b := ⟨_, rfl⟩
    obtain ⟨ab, habe⟩ : ∃ y, a * b = y := ⟨_, rfl⟩
    rw [hbe, habe] at hab
    rw [hxe] at hx
    obtain ⟨c, hce⟩ : ∃ c, carry + (x + ab) = c := ⟨_, rfl⟩
    obtain ⟨r, hr⟩ : ∃ r, c % 1000000000 = r := ⟨_, rfl⟩
    obtain ⟨q, hq2⟩ : ∃ q, c / 1000000000 = q := ⟨_, rfl⟩
    have hi63 : i + k < 1000000 := by omega
    have w1 : IntKind.i64.wrap ((i : Int) + (k : Int)) = ((i + k : Nat) : Int) := by rw [wrap_i64 (by omega) (by omega)]; omega
    have w2 : IntKind.u64.wrap ((a : Int) * (b : Int)) = (ab : Int) := by rw [← habe, ← Int.natCast_mul, wrap_u64 (by omega) (by omega)]
    have w3 : IntKind.u64.wrap ((x : Int) + (ab : Int)) = ((x + ab : Nat) : Int) := by rw [wrap_u64 (by omega) (by omega)]; omega
    obtain ⟨xab, hxab⟩ : ∃ y, x + ab = y := ⟨_, rfl⟩
    rw [hxab] at w3 hce
    have w4 : IntKind.u64.wrap ((carry : Int) + (xab : Int)) = (c : Int) := by rw [wrap_u64 (by omega) (by omega)]; omega
    have q1 : (c : Int).tmod 1000000000 = (r : Int) := by rw [Int.tmod_eq_emod_of_nonneg (by omega)]; omega
    have q2 : (c : Int).tdiv 1000000000 = (q : Int) := by rw [Int.tdiv_eq_ediv_of_nonneg (by omega)]; omega
    have w5 : IntKind.u64.wrap (q : Int) = q := wrap_u64 (by omega) (by omega)
    have w6 : IntKind.i64.wrap ((k : Int) + 1) = ((k + 1 : Nat) : Int) := by rw [wrap_i64 (by omega) (by omega)]; omega
    obtain ⟨ik, hike⟩ : ∃ y, i + k = y := ⟨_, rfl⟩
    rw [hike] at w1
    have hikl : ik < outs.length := by omega
    have hikl0 : ik < outs0.length := by omega
    have hxe2 : outs[ik] = x := by rw [← hxe]; congr 1; omega
    have done : ∀ e2 : Env, e2 0 = e 0 → e2 1 = e 1 → e2 5 = e 5 → e2 6 = e 6 → e2 7 = e 7 → e2 17 = e 17 → e2 18 = e 18 → e2 19 = e 19 → e2 24 = e 24 → e2 25 = e 25 → e2 8 = .int .u64 (q : Nat) → e2 26 = .int .i64 ((k + 1 : Nat) : Int) → R .nor e2 (ρ0.set ido ⟨1, nums .u64 (outs.set ik r), true⟩) := by
      intro e2 j0 j1 j5 j6 j7 j17 j18 j19 j24 j25 j8 j26
      refine hnor (qs.length - (k + 1)) _ _ (by omega) ⟨k + 1, q, outs.set ik r, rfl, hlt', rfl, j0, j1, j5, j6, j7, j17, j18, j19, j24, j25, j8, j26, by omega, by simpa using gl, ?_, ?_, ?_⟩
      · intro d hd
        rcases List.mem_or_eq_of_mem_set hd with h | h
        · exact gd d h
        · omega
      · have h1 := valP_set outs ik r hikl
        rw [List.getElem?_eq_getElem hikl, Option.getD_some, hxe2] at h1
        have h2 := valP_take_succ qs k hlt'
        rw [hbe] at h2
        rw [h2, ← Nat.add_assoc, hike, Nat.pow_succ]
        rw [hike] at gv
        have hX : 1000000000 ^ ik = 1000000000 ^ i * 1000000000 ^ k := by rw [← hike, Nat.pow_add]
        have hc : c = 1000000000 * q + r := by omega
        generalize 1000000000 ^ ik = X at *
        generalize 1000000000 ^ i = Y at *
        generalize 1000000000 ^ k = Z at *
        generalize valP (outs.set ik r) = V' at *
        generalize valP outs = V at *
        generalize valP outs0 = V0 at *
        generalize valP (qs.take k) = W at *
        clear hr hq2 w1 w2 w3 w4 w5 w6 q1 q2 hQ hnor hex hret
        grind
      · intro p hp
        rw [List.getElem?_set_ne (by omega)]
        exact gt p hp
    have hset : ∀ t : Tok, (ρ0.set ido t)[ido]? = some t := fun t => by simp [hido]
    rcases hq with rfl | ⟨id, mm, es, l, rfl, hes, hmm, hqe, hne⟩
    · simp [s184_1, g0, g1, g5, g6, g7, g8, g24, g25, g26, h5, h6, h7, h24, h25, Nat.beq, hlt, hlt', hbe, joinCells, hset, hido, w1, w2, w3, w4, w5, w6, q1, q2, hikl, hikl0, hxe2, hxab, nCells, spliceAt, nums_set]
      exact done _ (by simp [Nat.beq, g0]) (by simp [Nat.beq, g1]) (by simp [Nat.beq, g5, h5]) (by simp [Nat.beq, g6, h6]) (by simp [Nat.beq, g7, h7]) (by simp [Nat.beq, g17]) (by simp [Nat.beq, g18]) (by simp [Nat.beq, g19]) (by simp [Nat.beq, g24, h24]) (by simp [Nat.beq, g25, h25]) (by simp [Nat.beq]) (by simp [Nat.beq])
    · have hqid : ∀ t : Tok, (ρ0.set ido t)[id]? = some ⟨1, nums .u64 es, l⟩ := fun t => by rw [List.getElem?_set_ne (Ne.symm hne)]; exact hes
      have hkm : k < mm := by rw [hqe] at hlt'; simp at hlt'; omega
      have hkm' : (k : Int) < mm := by omega
      have hke : k < es.length := by omega
      have hbe2 : es[k] = b := by rw [← hbe]; simp [hqe]
      simp [s184_1, g0, g1, g5, g6, g7, g8, g24, g25, g26, h5, h6, h7, h24, h25, Nat.beq, hlt, hlt', hkm, hkm', hke, hqid, hbe2, joinCells, hset, hido, w1, w2, w3, w4, w5, w6, q1, q2, hikl, hikl0, hxe2, hxab, nCells, spliceAt, nums_set]
      exact done _ (by simp [Nat.beq, g0]) (by simp [Nat.beq, g1]) (by simp [Nat.beq, g5, h5]) (by simp [Nat.beq, g6, h6]) (by simp [Nat.beq, g7, h7]) (by simp [Nat.beq, g17]) (by simp [Nat.beq, g18]) (by simp [Nat.beq, g19]) (by simp [Nat.beq, g24, h24]) (by simp [Nat.beq, g25, h25]) (by simp [Nat.beq]) (by simp [Nat.beq])
  · have hlt' : ¬ k < qs.length := by omega
    have hke : k = qs.length := by omega
    simp [s184_1, g25, g26, h25, Nat.beq, hlt, hlt']
    subst hke
    rw [List.take_length] at gv
    exact hex _ _ _ (hQ _ outs carry (by simp [Nat.beq, g0]) (by simp [Nat.beq, g1]) (by simp [Nat.beq, g5]) (by simp [Nat.beq, g6]) (by simp [Nat.beq, g17]) (by simp [Nat.beq, g18]) (by simp [Nat.beq, g19]) (by simp [Nat.beq, g8]) gc gl gd gv gt)

/-- A value that reads as pieces. -/
def Rds (ρ : Store) (v : PV) (ds : List Nat) : Prop := v = .sl 1 (nums .u64 ds) ∨ ∃ id m es l, v = .ms id 1 0 m ∧ ρ[id]? = some ⟨1, nums .u64 es, l⟩ ∧ m ≤ es.length ∧ ds = es.take m

theorem Rds.lt {ρ : Store} {id : Nat} {k : Tok} (h : ρ[id]? = some k) : id < ρ.length := by
  rcases Nat.lt_or_ge id ρ.length with h' | h'
  · exact h'
  · rw [List.getElem?_eq_none h'] at h; cases h

theorem Rds.push {ρ : Store} {v : PV} {ds : List Nat} (h : Rds ρ v ds) (t : Tok) : Reads (ρ ++ [t]) ρ.length v ds := by
  rcases h with h | ⟨id, m, es, l, h1, h2, h3, h4⟩
  · exact .inl h
  · have := Rds.lt h2
    exact .inr ⟨id, m, es, l, h1, by rw [List.getElem?_append_left this]; exact h2, h3, h4, by omega⟩

theorem Rds.ext {ρ ρ' : Store} {v : PV} {ds : List Nat} (h : Rds ρ v ds) (he : Ext ρ ρ') : Rds ρ' v ds := by
  rcases h with h | ⟨id, m, es, l, h1, h2, h3, h4⟩
  · exact .inl h
  · exact .inr ⟨id, m, es, l, h1, he.get h2, h3, h4⟩

theorem set_last (ρ : Store) (t u : Tok) : (ρ ++ [t]).set ρ.length u = ρ ++ [u] := by
  rw [List.set_append_right _ _ (Nat.le_refl _)]
  simp

theorem replicate_nums (k : IntKind) (n : Nat) : List.replicate n [PV.int k 0] = nums k (List.replicate n 0) := by simp [nums]

theorem valP_zeros : ∀ n, valP (List.replicate n 0) = 0
  | 0 => rfl
  | n + 1 => by simp [List.replicate_succ, valP, valP_zeros n]

theorem times_ev {T : Tab} (hX : T.body 184 = some s184) (hT : T.body 193 = some s193) {L d : Nat} {ρ : Store} {pv qv : PV} {ps qs : List Nat} (hp : Rds ρ pv ps) (hq : Rds ρ qv qs) (hps : ∀ d, d ∈ ps → d < 1000000000) (hqs : ∀ d, d ∈ qs → d < 1000000000)
    (hl : ps.length + qs.length ≤ 100000) (hL : 1000000 < L) : Gt (evF T L (d + 2) 184 [pv, qv] ρ) fun v ρ' => Ext ρ ρ' ∧ Pcs ρ ρ' v (valP ps * valP qs) := by
  refine Gt_evF hX rfl fun R hR => ?_
  have w1 : IntKind.i64.wrap ((ps.length : Int) + (qs.length : Int)) = ((ps.length + qs.length : Nat) : Int) := by rw [wrap_i64 (by omega) (by omega)]; omega
  obtain ⟨N, hN⟩ : ∃ N, ps.length + qs.length = N := ⟨_, rfl⟩
  rw [hN] at w1
  have c1 : (N : Int) ≤ 1073741824 := by omega
  have start : ∀ e : Env, e 0 = pv → e 1 = qv → e 5 = .ms ρ.length 1 0 N → e 17 = pv → e 18 = .int .i64 (ps.length : Nat) → e 19 = .int .i64 0 → ∀ ks Q, (∀ (e' : Env) (outs : List Nat), e' 5 = e 5 → outs.length = N → (∀ d, d ∈ outs → d < 1000000000) → valP outs = valP ps * valP qs → jmp T (evF T L (d + 1)) L (.ex 0) ks e' (ρ ++ [⟨1, nums .u64 outs, true⟩]) Q) →
      Wk T (evF T L (d + 1)) L (.code (.loop s184_0) :: ks) e (ρ ++ [⟨1, List.replicate N [.int .u64 0], true⟩]) Q := by
    intro e h0 h1 h5 h17 h18 h19 ks Q hQ
    refine Wk_loop (fun k e' ρ1 => ∃ (i : Nat) (outs : List Nat), k = ps.length - i ∧ i ≤ ps.length ∧ ρ1 = ρ ++ [⟨1, nums .u64 outs, true⟩] ∧ e' 0 = pv ∧ e' 1 = qv ∧ e' 5 = .ms ρ.length 1 0 N ∧ e' 17 = pv ∧ e' 18 = .int .i64 (ps.length : Nat) ∧ e' 19 = .int .i64 (i : Nat) ∧ outs.length = N ∧ (∀ d, d ∈ outs → d < 1000000000) ∧ valP outs = valP (ps.take i) * valP qs ∧ ∀ p, i + qs.length ≤ p → p < N → outs[p]? = some 0) ps.length (by omega)
      ⟨0, List.replicate N 0, rfl, Nat.zero_le _, by rw [replicate_nums], h0, h1, h5, h17, h18, h19, by simp, ?_, by rw [valP_zeros, List.take_zero, show valP [] = 0 from rfl, Nat.zero_mul], ?_⟩ ?_
    · intro d hd
      rw [(List.mem_replicate.1 hd).2]; omega
    · intro p h1 h2
      simp [h2]
    rintro k e1 _ ⟨i, outs, rfl, hi, rfl, g0, g1, g5, g17, g18, g19, gl, gd, gv, gz⟩ R2 hnor hex hret
    by_cases hlt : (i : Int) < ps.length
    · have hlt' : i < ps.length := by omega
      have ha := hps _ (List.getElem_mem hlt')
      obtain ⟨a, hae⟩ : ∃ a, ps[i] = a := ⟨_, rfl⟩
      rw [hae] at ha
      have w2 : IntKind.i64.wrap ((i : Int) + 1) = ((i + 1 : Nat) : Int) := by rw [wrap_i64 (by omega) (by omega)]; omega
      have w3 : IntKind.i64.wrap ((i : Int) + (qs.length : Int)) = ((i + qs.length : Nat) : Int) := by rw [wrap_i64 (by omega) (by omega)]; omega
      -- the row
      have row : ∀ e2 : Env, e2 0 = pv → e2 1 = qv → e2 5 = .ms ρ.length 1 0 N → e2 6 = .int .i64 (i : Nat) → e2 7 = .int .u64 (a : Nat) → e2 8 = .int .u64 0 → e2 17 = pv → e2 18 = .int .i64 (ps.length : Nat) → e2 19 = .int .i64 (i : Nat) → e2 24 = qv → e2 25 = .int .i64 (qs.length : Nat) → e2 26 = .int .i64 0 → ∀ ks2 Q2,
          (∀ (e' : Env) (outs2 : List Nat) (carry : Nat), e' 0 = pv → e' 1 = qv → e' 5 = .ms ρ.length 1 0 N → e' 6 = .int .i64 (i : Nat) → e' 17 = pv → e' 18 = .int .i64 (ps.length : Nat) → e' 19 = .int .i64 (i : Nat) → e' 8 = .int .u64 (carry : Nat) → carry < 1000000000 → outs2.length = N → (∀ d, d ∈ outs2 → d < 1000000000) →
            valP outs2 + 1000000000 ^ (i + qs.length) * carry = valP outs + 1000000000 ^ i * (a * valP qs) → (∀ p, i + qs.length ≤ p → outs2[p]? = outs[p]?) → jmp T (evF T L (d + 1)) L (.ex 2) ks2 e' (ρ ++ [⟨1, nums .u64 outs2, true⟩]) Q2) →
          Wk T (evF T L (d + 1)) L (.code (.loop s184_1) :: ks2) e2 (ρ ++ [⟨1, nums .u64 outs, true⟩]) Q2 := by
        intro e2 j0 j1 j5 j6 j7 j8 j17 j18 j19 j24 j25 j26 ks2 Q2 hQ2
        have := times_in (T := T) (call := evF T L (d + 1)) (L := L) (ks := ks2) (Q := Q2) (ρ0 := ρ ++ [⟨1, nums .u64 outs, true⟩]) (ido := ρ.length) (i := i) (a := a) (outs0 := outs) (by simp) (hq.push _) hqs ha gd (by omega) (by omega) hL (e := e2) (by rw [j5, gl]) j6 j7 j8 j24 j25 j26 (by
          intro e' outs2 carry f0 f1 f5 f6 f17 f18 f19 f8 hc fl fd fv fz
          rw [set_last]
          exact hQ2 e' outs2 carry (by rw [f0, j0]) (by rw [f1, j1]) (by rw [f5, j5]) (by rw [f6, j6]) (by rw [f17, j17]) (by rw [f18, j18]) (by rw [f19, j19]) f8 hc (by rw [fl, gl]) fd fv fz)
        rwa [set_last] at this
      have done : ∀ (e' : Env) (outs2 : List Nat) (carry : Nat), e' 0 = pv → e' 1 = qv → e' 5 = .ms ρ.length 1 0 N → e' 17 = pv → e' 18 = .int .i64 (ps.length : Nat) → e' 19 = .int .i64 ((i + 1 : Nat) : Int) → carry < 1000000000 → outs2.length = N → (∀ d, d ∈ outs2 → d < 1000000000) →
          valP outs2 + 1000000000 ^ (i + qs.length) * carry = valP outs + 1000000000 ^ i * (a * valP qs) → (∀ p, i + qs.length ≤ p → outs2[p]? = outs[p]?) → R2 .nor e' (ρ ++ [⟨1, nums .u64 (outs2.set (i + qs.length) carry), true⟩]) := by
        intro e' outs2 carry j0 j1 j5 j17 j18 j19 hc jl jd jv jz
        refine hnor (ps.length - (i + 1)) _ _ (by omega) ⟨i + 1, outs2.set (i + qs.length) carry, rfl, hlt', rfl, j0, j1, j5, j17, j18, j19, by simpa using jl, ?_, ?_, ?_⟩
        · intro d hd
          rcases List.mem_or_eq_of_mem_set hd with h | h
          · exact jd d h
          · omega
        · have h1 := valP_set outs2 (i + qs.length) carry (by omega)
          rw [jz _ (Nat.le_refl _), gz _ (Nat.le_refl _) (by omega), Option.getD_some, Nat.mul_zero, Nat.add_zero] at h1
          rw [h1, jv, gv, valP_take_succ ps i hlt', hae, Nat.add_mul, Nat.mul_assoc]
        · intro p h1 h2
          rw [List.getElem?_set_ne (by omega), jz p (by omega)]
          exact gz p (by omega) h2
      have hnew : ∀ t : Tok, (ρ ++ [t])[ρ.length]? = some t := fun t => by simp
      obtain ⟨ij, hij⟩ : ∃ y, i + qs.length = y := ⟨_, rfl⟩
      rw [hij] at w3
      have c3 : (ij : Int) < N := by omega
      have c4 : ij < N := by omega
      rcases hp with rfl | ⟨id, mm, es, l, rfl, hes, hmm, hpe⟩
      · rcases hq with rfl | ⟨id2, mm2, es2, l2, rfl, hes2, hmm2, hqe⟩
        · simp [s184_0, g0, g1, g5, g17, g18, g19, Nat.beq, hlt, hlt', hae, joinCells]
          refine row _ (by simp [Nat.beq, g0]) (by simp [Nat.beq, g1]) (by simp [Nat.beq, g5]) (by simp [Nat.beq]) (by simp [Nat.beq]) (by simp [Nat.beq]) (by simp [Nat.beq, g17]) (by simp [Nat.beq, g18]) (by simp [Nat.beq, g19]) (by simp [Nat.beq]) (by simp [Nat.beq]) (by simp [Nat.beq]) _ _ ?_
          intro e' outs2 carry f0 f1 f5 f6 f17 f18 f19 f8 hc fl fd fv fz
          have c5 : ij < outs2.length := by omega
          simp [Nat.beq, f0, f1, f5, f6, f17, f18, f19, f8, w2, w3, c3, c4, c5, nCells, spliceAt, nums_set, set_last]
          rw [← hij]
          exact done _ outs2 carry (by simp [Nat.beq, f0]) (by simp [Nat.beq, f1]) (by simp [Nat.beq, f5]) (by simp [Nat.beq, f17]) (by simp [Nat.beq, f18]) (by simp [Nat.beq]) hc fl fd fv fz
        · have hql : mm2 = qs.length := by rw [hqe, List.length_take]; omega
          subst hql
          simp [s184_0, g0, g1, g5, g17, g18, g19, Nat.beq, hlt, hlt', hae, joinCells]
          refine row _ (by simp [Nat.beq, g0]) (by simp [Nat.beq, g1]) (by simp [Nat.beq, g5]) (by simp [Nat.beq]) (by simp [Nat.beq]) (by simp [Nat.beq]) (by simp [Nat.beq, g17]) (by simp [Nat.beq, g18]) (by simp [Nat.beq, g19]) (by simp [Nat.beq]) (by simp [Nat.beq]) (by simp [Nat.beq]) _ _ ?_
          intro e' outs2 carry f0 f1 f5 f6 f17 f18 f19 f8 hc fl fd fv fz
          have c5 : ij < outs2.length := by omega
          simp [Nat.beq, f0, f1, f5, f6, f17, f18, f19, f8, w2, w3, c3, c4, c5, nCells, spliceAt, nums_set, set_last]
          rw [← hij]
          exact done _ outs2 carry (by simp [Nat.beq, f0]) (by simp [Nat.beq, f1]) (by simp [Nat.beq, f5]) (by simp [Nat.beq, f17]) (by simp [Nat.beq, f18]) (by simp [Nat.beq]) hc fl fd fv fz
      · have hpl : mm = ps.length := by rw [hpe, List.length_take]; omega
        subst hpl
        have hidn : ∀ t : Tok, (ρ ++ [t])[id]? = some ⟨1, nums .u64 es, l⟩ := fun t => by rw [List.getElem?_append_left (Rds.lt hes)]; exact hes
        have hie2 : i < es.length := by omega
        have hae2 : es[i] = a := by
          have h := List.getElem?_eq_getElem hlt'
          rw [hae, hpe, List.getElem?_take_of_lt hlt', List.getElem?_eq_getElem hie2] at h
          exact Option.some.inj h
        rcases hq with rfl | ⟨id2, mm2, es2, l2, rfl, hes2, hmm2, hqe⟩
        · simp [s184_0, g0, g1, g5, g17, g18, g19, Nat.beq, hlt, hlt', hae, joinCells, hidn, hie2, hae2]
          refine row _ (by simp [Nat.beq, g0]) (by simp [Nat.beq, g1]) (by simp [Nat.beq, g5]) (by simp [Nat.beq]) (by simp [Nat.beq]) (by simp [Nat.beq]) (by simp [Nat.beq, g17]) (by simp [Nat.beq, g18]) (by simp [Nat.beq, g19]) (by simp [Nat.beq]) (by simp [Nat.beq]) (by simp [Nat.beq]) _ _ ?_
          intro e' outs2 carry f0 f1 f5 f6 f17 f18 f19 f8 hc fl fd fv fz
          have c5 : ij < outs2.length := by omega
          simp [Nat.beq, f0, f1, f5, f6, f17, f18, f19, f8, w2, w3, c3, c4, c5, nCells, spliceAt, nums_set, set_last]
          rw [← hij]
          exact done _ outs2 carry (by simp [Nat.beq, f0]) (by simp [Nat.beq, f1]) (by simp [Nat.beq, f5]) (by simp [Nat.beq, f17]) (by simp [Nat.beq, f18]) (by simp [Nat.beq]) hc fl fd fv fz
        · have hql : mm2 = qs.length := by rw [hqe, List.length_take]; omega
          subst hql
          simp [s184_0, g0, g1, g5, g17, g18, g19, Nat.beq, hlt, hlt', hae, joinCells, hidn, hie2, hae2]
          refine row _ (by simp [Nat.beq, g0]) (by simp [Nat.beq, g1]) (by simp [Nat.beq, g5]) (by simp [Nat.beq]) (by simp [Nat.beq]) (by simp [Nat.beq]) (by simp [Nat.beq, g17]) (by simp [Nat.beq, g18]) (by simp [Nat.beq, g19]) (by simp [Nat.beq]) (by simp [Nat.beq]) (by simp [Nat.beq]) _ _ ?_
          intro e' outs2 carry f0 f1 f5 f6 f17 f18 f19 f8 hc fl fd fv fz
          have c5 : ij < outs2.length := by omega
          simp [Nat.beq, f0, f1, f5, f6, f17, f18, f19, f8, w2, w3, c3, c4, c5, nCells, spliceAt, nums_set, set_last]
          rw [← hij]
          exact done _ outs2 carry (by simp [Nat.beq, f0]) (by simp [Nat.beq, f1]) (by simp [Nat.beq, f5]) (by simp [Nat.beq, f17]) (by simp [Nat.beq, f18]) (by simp [Nat.beq]) hc fl fd fv fz
    · have hlt' : ¬ i < ps.length := by omega
      have hie : i = ps.length := by omega
      simp [s184_0, g18, g19, Nat.beq, hlt, hlt']
      refine hex _ _ _ (hQ _ outs (by simp [Nat.beq, g5, h5]) gl gd ?_)
      rw [gv, hie, List.take_length]
  have last : ∀ outs : List Nat, outs.length = N → (∀ d, d ∈ outs → d < 1000000000) → valP outs = valP ps * valP qs → R (.ms ρ.length 1 0 (trimN outs N)) (ρ ++ [⟨1, nums .u64 outs, true⟩]) := by
    intro outs fl fd fv
    refine hR _ _ ⟨Ext.push _ _, ρ.length, trimN outs N, outs, rfl, by simp, Nat.le_refl _, ?_, by omega, fd, ?_, ?_⟩
    · have := trimN_le outs N; omega
    · rw [trimN_val outs N (by omega), ← fl, List.take_length, fv]
    · exact trimN_top outs N
  rcases hp with rfl | ⟨id, mm, es, l, rfl, hes, hmm, hpe⟩
  · rcases hq with rfl | ⟨id2, mm2, es2, l2, rfl, hes2, hmm2, hqe⟩
    · simp [s184, Nat.beq, w1, hN, c1]
      refine start _ (by simp [Nat.beq]) (by simp [Nat.beq]) (by simp [Nat.beq]) (by simp [Nat.beq]) (by simp [Nat.beq]) (by simp [Nat.beq]) _ _ ?_
      intro e' outs f5 fl fd fv
      simp [Nat.beq] at f5
      simp [Nat.beq, f5]
      refine stepV_gt (trim_ev hT (ds := outs) (l := true) (by simp) (by omega) (by omega) (by omega)) ?_
      rintro v ρ2 ⟨rfl, rfl⟩
      simp [Nat.beq]
      exact last outs fl fd fv
    · have hql : mm2 = qs.length := by rw [hqe, List.length_take]; omega
      subst hql
      simp [s184, Nat.beq, w1, hN, c1]
      refine start _ (by simp [Nat.beq]) (by simp [Nat.beq]) (by simp [Nat.beq]) (by simp [Nat.beq]) (by simp [Nat.beq]) (by simp [Nat.beq]) _ _ ?_
      intro e' outs f5 fl fd fv
      simp [Nat.beq] at f5
      simp [Nat.beq, f5]
      refine stepV_gt (trim_ev hT (ds := outs) (l := true) (by simp) (by omega) (by omega) (by omega)) ?_
      rintro v ρ2 ⟨rfl, rfl⟩
      simp [Nat.beq]
      exact last outs fl fd fv
  · have hpl : mm = ps.length := by rw [hpe, List.length_take]; omega
    subst hpl
    rcases hq with rfl | ⟨id2, mm2, es2, l2, rfl, hes2, hmm2, hqe⟩
    · simp [s184, Nat.beq, w1, hN, c1]
      refine start _ (by simp [Nat.beq]) (by simp [Nat.beq]) (by simp [Nat.beq]) (by simp [Nat.beq]) (by simp [Nat.beq]) (by simp [Nat.beq]) _ _ ?_
      intro e' outs f5 fl fd fv
      simp [Nat.beq] at f5
      simp [Nat.beq, f5]
      refine stepV_gt (trim_ev hT (ds := outs) (l := true) (by simp) (by omega) (by omega) (by omega)) ?_
      rintro v ρ2 ⟨rfl, rfl⟩
      simp [Nat.beq]
      exact last outs fl fd fv
    · have hql : mm2 = qs.length := by rw [hqe, List.length_take]; omega
      subst hql
      simp [s184, Nat.beq, w1, hN, c1]
      refine start _ (by simp [Nat.beq]) (by simp [Nat.beq]) (by simp [Nat.beq]) (by simp [Nat.beq]) (by simp [Nat.beq]) (by simp [Nat.beq]) _ _ ?_
      intro e' outs f5 fl fd fv
      simp [Nat.beq] at f5
      simp [Nat.beq, f5]
      refine stepV_gt (trim_ev hT (ds := outs) (l := true) (by simp) (by omega) (by omega) (by omega)) ?_
      rintro v ρ2 ⟨rfl, rfl⟩
      simp [Nat.beq]
      exact last outs fl fd fv

end Go.Proofs.YtkccoijckckhmaaGreatDoor.Ev

namespace Go.Proofs.YtkccoijckckhmaaGreatDoor.Ev
open Go

theorem valP_take_min (l : List Nat) (n k : Nat) (hk : n ≤ k) : valP (l.take (min k n)) = valP (l.take n) := by rw [Nat.min_eq_right hk]

set_option maxRecDepth 10000
theorem take_ev {T : Tab} (hX : T.body 194 = some s194) {L d : Nat} {ρ : Store} {ida idb la n at_ g : Nat} {as bs : List Nat} {l : Bool} (ha : ρ[ida]? = some ⟨1, nums .u64 as, true⟩) (hb : ρ[idb]? = some ⟨1, nums .u64 bs, l⟩) (hne : idb ≠ ida) (hla : la ≤ as.length) (hn : n ≤ bs.length) (hin : at_ + n < la) (hsz : as.length ≤ 1000000) (hg : g ≤ 1000000000)
    (has : ∀ d, d ∈ as → d < 1000000000) (hbs : ∀ d, d ∈ bs.take n → d < 1000000000) (hL : 1100000 < L) :
    Gt (evF T L (d + 1) 194 [.ms ida 1 0 la, .ms idb 1 0 n, .int .u64 g, .int .i64 at_] ρ) fun v ρ' => ∃ (as' : List Nat) (bo : Nat), bo ≤ 1 ∧ v = .bool (decide (0 < bo)) ∧ ρ' = ρ.set ida ⟨1, nums .u64 as', true⟩ ∧ as'.length = as.length ∧ (∀ d, d ∈ as' → d < 1000000000) ∧
      valP as' + 1000000000 ^ at_ * (g * valP (bs.take n)) = valP as + 1000000000 ^ (at_ + n + 1) * bo ∧ ∀ p, (p < at_ ∨ at_ + n < p) → as'[p]? = as[p]? := by
  refine Gt_evF hX rfl fun R hR => ?_
  have hida : ida < ρ.length := Rds.lt ha
  have hself : ρ.set ida ⟨1, nums .u64 as, true⟩ = ρ := by
    apply List.ext_getElem?
    intro q
    rw [List.getElem?_set]
    split
    · rename_i h; subst h; simpa [hida] using ha.symm
    · rfl
  have hset : ∀ t : Tok, (ρ.set ida t)[ida]? = some t := fun t => by simp [hida]
  have hbid : ∀ t : Tok, (ρ.set ida t)[idb]? = some ⟨1, nums .u64 bs, l⟩ := fun t => by rw [List.getElem?_set_ne (Ne.symm hne)]; exact hb
  simp [s194, Nat.beq]
  refine Wk_loop (fun m e ρ1 => ∃ (k bo carry : Nat) (xs : List Nat), m = n + 1 - k ∧ k ≤ n + 1 ∧ bo ≤ 1 ∧ ρ1 = ρ.set ida ⟨1, nums .u64 xs, true⟩ ∧ e 0 = .ms ida 1 0 la ∧ e 1 = .ms idb 1 0 n ∧ e 2 = .int .u64 g ∧ e 3 = .int .i64 at_ ∧ e 9 = .int .i64 (bo : Nat) ∧ e 10 = .int .u64 (carry : Nat) ∧ e 11 = .int .i64 (k : Nat) ∧ xs.length = as.length ∧ (∀ d, d ∈ xs → d < 1000000000) ∧
      valP xs + 1000000000 ^ at_ * (g * valP (bs.take (min k n))) = valP as + 1000000000 ^ (at_ + k) * (bo + carry) ∧ carry * 1000000000 ^ k ≤ g * valP (bs.take (min k n)) ∧ ∀ p, (p < at_ ∨ at_ + k ≤ p) → xs[p]? = as[p]?) (n + 1) (by omega)
    ⟨0, 0, 0, as, rfl, Nat.zero_le _, by omega, hself.symm, by simp [Nat.beq], by simp [Nat.beq], by simp [Nat.beq], by simp [Nat.beq], by simp [Nat.beq], by simp [Nat.beq], by simp [Nat.beq], rfl, has, by simp [valP], by simp, fun _ _ => rfl⟩ ?_
  rintro m e _ ⟨k, bo, carry, xs, rfl, hk, hbo, rfl, g0, g1, g2, g3, g9, g10, g11, gl, gd, gv, gc, gt⟩ R2 hnor hex hret
  have hvlt : ∀ j, j ≤ n → valP (bs.take j) < 1000000000 ^ j := fun j hj => by
    have := valP_lt (bs.take j) fun d hd => hbs d (by
      have : bs.take j = (bs.take n).take j := by rw [List.take_take, Nat.min_eq_left hj]
      rw [this] at hd; exact List.mem_of_mem_take hd)
    rwa [List.length_take, Nat.min_eq_left (by omega)] at this
  -- the carry is small
  have hcl : carry ≤ 1000000000 ∧ (k = n + 1 → carry = 0) := by
    have hj : min k n ≤ n := Nat.min_le_right _ _
    have h1 : g * valP (bs.take (min k n)) ≤ g * 1000000000 ^ (min k n) := Nat.mul_le_mul_left _ (Nat.le_of_lt (hvlt _ hj))
    have h0 : valP (bs.take (min k n)) < 1000000000 ^ (min k n) := hvlt _ hj
    have hpos : 0 < 1000000000 ^ (min k n) := Nat.pow_pos (by omega)
    constructor
    · have h2 : 1000000000 ^ (min k n) ≤ 1000000000 ^ k := Nat.pow_le_pow_right (by omega) (Nat.min_le_left _ _)
      have h3 : carry * 1000000000 ^ k ≤ g * 1000000000 ^ k := Nat.le_trans (Nat.le_trans gc h1) (Nat.mul_le_mul_left _ h2)
      have := Nat.le_of_mul_le_mul_right h3 (Nat.pow_pos (by omega))
      omega
    · intro hkn
      subst hkn
      rw [Nat.min_eq_right (by omega)] at gc h1 h0 hpos
      rcases Nat.eq_zero_or_pos carry with h | h
      · exact h
      · exfalso
        have h2 : 1 * 1000000000 ^ (n + 1) ≤ carry * 1000000000 ^ (n + 1) := Nat.mul_le_mul_right _ h
        rw [Nat.pow_succ] at h2
        have h3 : g * valP (bs.take n) ≤ 1000000000 * valP (bs.take n) := Nat.mul_le_mul_right _ hg
        rw [Nat.pow_succ] at gc
        omega
  by_cases hkn : (k : Int) ≤ n
  · have hkn' : k ≤ n := by omega
    have hik : at_ + k < xs.length := by omega
    obtain ⟨ik, hike⟩ : ∃ y, at_ + k = y := ⟨_, rfl⟩
    rw [hike] at hik
    obtain ⟨x, hxe⟩ : ∃ x, xs[ik] = x := ⟨_, rfl⟩
    have hx : x < 1000000000 := hxe ▸ gd _ (List.getElem_mem hik)
    have w1 : IntKind.i64.wrap ((at_ : Int) + (k : Int)) = (ik : Int) := by rw [wrap_i64 (by omega) (by omega)]; omega
    have hikla : ik < la := by omega
    have hikla' : (ik : Int) < la := by omega
    have hikas : ik < as.length := by omega
    have w6 : IntKind.i64.wrap ((k : Int) + 1) = ((k + 1 : Nat) : Int) := by rw [wrap_i64 (by omega) (by omega)]; omega
    have wx : IntKind.i64.wrap (x : Int) = x := wrap_i64 (by omega) (by omega)
    -- one step, for whatever comes to the carry
    have step : ∀ (b c : Nat), c = carry + g * b → c ≤ 2000000000000000000 → valP (bs.take (min (k + 1) n)) = valP (bs.take (min k n)) + 1000000000 ^ k * b → ∀ (e2 : Env) (y nb : Nat), nb ≤ 1 → y < 1000000000 → y + c % 1000000000 + bo = x + 1000000000 * nb →
        e2 0 = .ms ida 1 0 la → e2 1 = .ms idb 1 0 n → e2 2 = .int .u64 g → e2 3 = .int .i64 at_ → e2 9 = .int .i64 (nb : Nat) → e2 10 = .int .u64 ((c / 1000000000 : Nat) : Int) → e2 11 = .int .i64 ((k + 1 : Nat) : Int) → R2 .nor e2 (ρ.set ida ⟨1, nums .u64 (xs.set ik y), true⟩) := by
      intro b c hc hc2 hb2 e2 y nb hnb hy hyx j0 j1 j2 j3 j9 j10 j11
      refine hnor (n + 1 - (k + 1)) _ _ (by omega) ⟨k + 1, nb, c / 1000000000, xs.set ik y, rfl, by omega, hnb, rfl, j0, j1, j2, j3, j9, j10, j11, by simpa using gl, ?_, ?_, ?_, ?_⟩
      · intro d hd
        rcases List.mem_or_eq_of_mem_set hd with h | h
        · exact gd d h
        · omega
      · have h1 := valP_set xs ik y hik
        rw [List.getElem?_eq_getElem hik, Option.getD_some, hxe] at h1
        rw [hb2, ← Nat.add_assoc, hike, Nat.pow_succ]
        rw [hike] at gv
        have hX : 1000000000 ^ ik = 1000000000 ^ at_ * 1000000000 ^ k := by rw [← hike, Nat.pow_add]
        have hcq : c = 1000000000 * (c / 1000000000) + c % 1000000000 := by omega
        generalize c / 1000000000 = q at *
        generalize c % 1000000000 = r at *
        generalize 1000000000 ^ ik = X at *
        generalize 1000000000 ^ at_ = Y at *
        generalize 1000000000 ^ k = Z at *
        generalize valP (xs.set ik y) = V' at *
        generalize valP xs = V at *
        generalize valP as = V0 at *
        generalize valP (bs.take (min k n)) = W at *
        clear hnor hex hret w1 w6 wx gc gt hvlt hcl hset hbid hself
        grind
      · rw [hb2, Nat.pow_succ]
        have h1 : c / 1000000000 * 1000000000 ≤ c := Nat.div_mul_le_self _ _
        have h2 : c / 1000000000 * (1000000000 ^ k * 1000000000) = c / 1000000000 * 1000000000 * 1000000000 ^ k := by grind
        have h3 : c / 1000000000 * 1000000000 * 1000000000 ^ k ≤ c * 1000000000 ^ k := Nat.mul_le_mul_right _ h1
        have h4 : c * 1000000000 ^ k = carry * 1000000000 ^ k + g * (1000000000 ^ k * b) := by rw [hc]; grind
        have h5 : g * (valP (bs.take (min k n)) + 1000000000 ^ k * b) = g * valP (bs.take (min k n)) + g * (1000000000 ^ k * b) := by grind
        omega
      · intro p hp
        rw [List.getElem?_set_ne (by omega)]
        exact gt p (by omega)
    by_cases hlt : (k : Int) < n
    · have hlt' : k < n := by omega
      have hkb : k < bs.length := by omega
      obtain ⟨b, hbe⟩ : ∃ b, bs[k] = b := ⟨_, rfl⟩
      have hbB : b < 1000000000 := by
        rw [← hbe]; exact hbs _ (by rw [List.mem_take_iff_getElem]; exact ⟨k, by omega, rfl⟩)
      obtain ⟨gb, hgb⟩ : ∃ y, g * b = y := ⟨_, rfl⟩
      have hgb2 : gb ≤ 1000000000 * 999999999 := by rw [← hgb]; exact Nat.mul_le_mul hg (by omega)
      have w2 : IntKind.u64.wrap ((g : Int) * (b : Int)) = (gb : Int) := by rw [← hgb, ← Int.natCast_mul, wrap_u64 (by omega) (by omega)]
      obtain ⟨c, hce⟩ : ∃ c, carry + gb = c := ⟨_, rfl⟩
      have w4 : IntKind.u64.wrap ((carry : Int) + (gb : Int)) = (c : Int) := by rw [wrap_u64 (by omega) (by omega)]; omega
      obtain ⟨r, hr⟩ : ∃ r, c % 1000000000 = r := ⟨_, rfl⟩
      obtain ⟨q, hq⟩ : ∃ q, c / 1000000000 = q := ⟨_, rfl⟩
      have q1 : (c : Int).tmod 1000000000 = (r : Int) := by rw [Int.tmod_eq_emod_of_nonneg (by omega)]; omega
      have q2 : (c : Int).tdiv 1000000000 = (q : Int) := by rw [Int.tdiv_eq_ediv_of_nonneg (by omega)]; omega
      have w5 : IntKind.u64.wrap (q : Int) = q := wrap_u64 (by omega) (by omega)
      have w7 : IntKind.i64.wrap (r : Int) = r := wrap_i64 (by omega) (by omega)
      have w8 : IntKind.i64.wrap ((x : Int) - (r : Int)) = (x : Int) - (r : Int) := wrap_i64 (by omega) (by omega)
      have hst := step b c (by rw [hgb, hce]) (by omega) (by rw [Nat.min_eq_left (by omega), Nat.min_eq_left (by omega), valP_take_succ bs k hkb, hbe])
      rw [hr, hq] at hst
      obtain ⟨dd, hdd⟩ : ∃ dd : Int, (x : Int) - r - bo = dd := ⟨_, rfl⟩
      have w9 : IntKind.i64.wrap ((x : Int) - (r : Int) - (bo : Int)) = dd := by rw [hdd, wrap_i64 (by omega) (by omega)]
      by_cases hneg : dd < 0
      · obtain ⟨y, hy⟩ : ∃ y : Nat, dd + 1000000000 = (y : Int) := ⟨(dd + 1000000000).toNat, by omega⟩
        have w10 : IntKind.i64.wrap (dd + 1000000000) = (y : Int) := by rw [hy, wrap_i64 (by omega) (by omega)]
        have w11 : IntKind.u64.wrap (y : Int) = y := wrap_u64 (by omega) (by omega)
        simp [s194_0, g0, g1, g2, g3, g9, g10, g11, Nat.beq, hkn, hkn', hlt, hlt', hset, hbid, hkb, hbe, hik, hxe, hikla, hikla', hikas, joinCells, nCells, spliceAt, nums_set, hneg, w1, w2, w4, w5, w6, w7, w8, w9, w10, w11, wx, q1, q2]
        exact hst _ y 1 (by omega) (by omega) (by omega) (by simp [Nat.beq, g0]) (by simp [Nat.beq, g1]) (by simp [Nat.beq, g2]) (by simp [Nat.beq, g3]) (by simp [Nat.beq]) (by simp [Nat.beq]) (by simp [Nat.beq])
      · obtain ⟨y, hy⟩ : ∃ y : Nat, dd = (y : Int) := ⟨dd.toNat, by omega⟩
        subst hy
        have w11 : IntKind.u64.wrap (y : Int) = y := wrap_u64 (by omega) (by omega)
        simp [s194_0, g0, g1, g2, g3, g9, g10, g11, Nat.beq, hkn, hkn', hlt, hlt', hset, hbid, hkb, hbe, hik, hxe, hikla, hikla', hikas, joinCells, nCells, spliceAt, nums_set, hneg, w1, w2, w4, w5, w6, w7, w8, w9, w11, wx, q1, q2]
        exact hst _ y 0 (by omega) (by omega) (by omega) (by simp [Nat.beq, g0]) (by simp [Nat.beq, g1]) (by simp [Nat.beq, g2]) (by simp [Nat.beq, g3]) (by simp [Nat.beq]) (by simp [Nat.beq]) (by simp [Nat.beq])
    · have hlt' : ¬ k < n := by omega
      obtain ⟨r, hr⟩ : ∃ r, carry % 1000000000 = r := ⟨_, rfl⟩
      obtain ⟨q, hq⟩ : ∃ q, carry / 1000000000 = q := ⟨_, rfl⟩
      have q1 : (carry : Int).tmod 1000000000 = (r : Int) := by rw [Int.tmod_eq_emod_of_nonneg (by omega)]; omega
      have q2 : (carry : Int).tdiv 1000000000 = (q : Int) := by rw [Int.tdiv_eq_ediv_of_nonneg (by omega)]; omega
      have w5 : IntKind.u64.wrap (q : Int) = q := wrap_u64 (by omega) (by omega)
      have w7 : IntKind.i64.wrap (r : Int) = r := wrap_i64 (by omega) (by omega)
      have w8 : IntKind.i64.wrap ((x : Int) - (r : Int)) = (x : Int) - (r : Int) := wrap_i64 (by omega) (by omega)
      have hst := step 0 carry (by simp) (by omega) (by rw [Nat.min_eq_right (by omega), Nat.min_eq_right (by omega)]; simp)
      rw [hr, hq] at hst
      obtain ⟨dd, hdd⟩ : ∃ dd : Int, (x : Int) - r - bo = dd := ⟨_, rfl⟩
      have w9 : IntKind.i64.wrap ((x : Int) - (r : Int) - (bo : Int)) = dd := by rw [hdd, wrap_i64 (by omega) (by omega)]
      by_cases hneg : dd < 0
      · obtain ⟨y, hy⟩ : ∃ y : Nat, dd + 1000000000 = (y : Int) := ⟨(dd + 1000000000).toNat, by omega⟩
        have w10 : IntKind.i64.wrap (dd + 1000000000) = (y : Int) := by rw [hy, wrap_i64 (by omega) (by omega)]
        have w11 : IntKind.u64.wrap (y : Int) = y := wrap_u64 (by omega) (by omega)
        simp [s194_0, g0, g1, g2, g3, g9, g10, g11, Nat.beq, hkn, hkn', hlt, hlt', hset, hbid, hik, hxe, hikla, hikla', hikas, joinCells, nCells, spliceAt, nums_set, hneg, w1, w5, w6, w7, w8, w9, w10, w11, wx, q1, q2]
        exact hst _ y 1 (by omega) (by omega) (by omega) (by simp [Nat.beq, g0]) (by simp [Nat.beq, g1]) (by simp [Nat.beq, g2]) (by simp [Nat.beq, g3]) (by simp [Nat.beq]) (by simp [Nat.beq]) (by simp [Nat.beq])
      · obtain ⟨y, hy⟩ : ∃ y : Nat, dd = (y : Int) := ⟨dd.toNat, by omega⟩
        subst hy
        have w11 : IntKind.u64.wrap (y : Int) = y := wrap_u64 (by omega) (by omega)
        simp [s194_0, g0, g1, g2, g3, g9, g10, g11, Nat.beq, hkn, hkn', hlt, hlt', hset, hbid, hik, hxe, hikla, hikla', hikas, joinCells, nCells, spliceAt, nums_set, hneg, w1, w5, w6, w7, w8, w9, w11, wx, q1, q2]
        exact hst _ y 0 (by omega) (by omega) (by omega) (by simp [Nat.beq, g0]) (by simp [Nat.beq, g1]) (by simp [Nat.beq, g2]) (by simp [Nat.beq, g3]) (by simp [Nat.beq]) (by simp [Nat.beq]) (by simp [Nat.beq])
  · have hkn' : ¬ k ≤ n := by omega
    have hke : k = n + 1 := by omega
    simp [s194_0, g1, g11, Nat.beq, hkn, hkn']
    refine hex _ _ _ ?_
    simp [g9, Nat.beq]
    have hc0 := hcl.2 hke
    subst hke
    rw [hc0, Nat.min_eq_right (by omega), Nat.add_zero] at gv
    refine hR _ _ ⟨xs, bo, hbo, by simp, rfl, gl, gd, gv, fun p hp => gt p (by omega)⟩

theorem back_ev {T : Tab} (hX : T.body 192 = some s192) {L d : Nat} {ρ : Store} {ida idb la n at_ : Nat} {as bs : List Nat} {l : Bool} (ha : ρ[ida]? = some ⟨1, nums .u64 as, true⟩) (hb : ρ[idb]? = some ⟨1, nums .u64 bs, l⟩) (hne : idb ≠ ida) (hla : la ≤ as.length) (hn : n ≤ bs.length) (hin : at_ + n < la) (hsz : as.length ≤ 1000000)
    (has : ∀ d, d ∈ as → d < 1000000000) (hbs : ∀ d, d ∈ bs.take n → d < 1000000000) (hL : 1100000 < L) :
    Gt (evF T L (d + 1) 192 [.ms ida 1 0 la, .ms idb 1 0 n, .int .i64 at_] ρ) fun v ρ' => ∃ (as' : List Nat) (ca : Nat), ca ≤ 1 ∧ v = .tup [] ∧ ρ' = ρ.set ida ⟨1, nums .u64 as', true⟩ ∧ as'.length = as.length ∧ (∀ d, d ∈ as' → d < 1000000000) ∧
      valP as' + 1000000000 ^ (at_ + n + 1) * ca = valP as + 1000000000 ^ at_ * valP (bs.take n) ∧ ∀ p, (p < at_ ∨ at_ + n < p) → as'[p]? = as[p]? := by
  refine Gt_evF hX rfl fun R hR => ?_
  have hida : ida < ρ.length := Rds.lt ha
  have hself : ρ.set ida ⟨1, nums .u64 as, true⟩ = ρ := by
    apply List.ext_getElem?
    intro q
    rw [List.getElem?_set]
    split
    · rename_i h; subst h; simpa [hida] using ha.symm
    · rfl
  have hset : ∀ t : Tok, (ρ.set ida t)[ida]? = some t := fun t => by simp [hida]
  have hbid : ∀ t : Tok, (ρ.set ida t)[idb]? = some ⟨1, nums .u64 bs, l⟩ := fun t => by rw [List.getElem?_set_ne (Ne.symm hne)]; exact hb
  simp [s192, Nat.beq]
  refine Wk_loop (fun m e ρ1 => ∃ (k carry : Nat) (xs : List Nat), m = n + 1 - k ∧ k ≤ n + 1 ∧ carry ≤ 1 ∧ ρ1 = ρ.set ida ⟨1, nums .u64 xs, true⟩ ∧ e 0 = .ms ida 1 0 la ∧ e 1 = .ms idb 1 0 n ∧ e 2 = .int .i64 at_ ∧ e 6 = .int .u64 (carry : Nat) ∧ e 7 = .int .i64 (k : Nat) ∧ xs.length = as.length ∧ (∀ d, d ∈ xs → d < 1000000000) ∧
      valP xs + 1000000000 ^ (at_ + k) * carry = valP as + 1000000000 ^ at_ * valP (bs.take (min k n)) ∧ ∀ p, (p < at_ ∨ at_ + k ≤ p) → xs[p]? = as[p]?) (n + 1) (by omega)
    ⟨0, 0, as, rfl, Nat.zero_le _, by omega, hself.symm, by simp [Nat.beq], by simp [Nat.beq], by simp [Nat.beq], by simp [Nat.beq], by simp [Nat.beq], rfl, has, by simp [valP], fun _ _ => rfl⟩ ?_
  rintro m e _ ⟨k, carry, xs, rfl, hk, hca, rfl, g0, g1, g2, g6, g7, gl, gd, gv, gt⟩ R2 hnor hex hret
  by_cases hkn : (k : Int) ≤ n
  · have hkn' : k ≤ n := by omega
    have hik : at_ + k < xs.length := by omega
    obtain ⟨ik, hike⟩ : ∃ y, at_ + k = y := ⟨_, rfl⟩
    rw [hike] at hik
    obtain ⟨x, hxe⟩ : ∃ x, xs[ik] = x := ⟨_, rfl⟩
    have hx : x < 1000000000 := hxe ▸ gd _ (List.getElem_mem hik)
    have w1 : IntKind.i64.wrap ((at_ : Int) + (k : Int)) = (ik : Int) := by rw [wrap_i64 (by omega) (by omega)]; omega
    have hikla : ik < la := by omega
    have hikla' : (ik : Int) < la := by omega
    have hikas : ik < as.length := by omega
    have w6 : IntKind.i64.wrap ((k : Int) + 1) = ((k + 1 : Nat) : Int) := by rw [wrap_i64 (by omega) (by omega)]; omega
    obtain ⟨cx, hcx⟩ : ∃ y, carry + x = y := ⟨_, rfl⟩
    have w2 : IntKind.u64.wrap ((carry : Int) + (x : Int)) = (cx : Int) := by rw [wrap_u64 (by omega) (by omega)]; omega
    have step : ∀ (b c : Nat), c = cx + b → b < 1000000000 → valP (bs.take (min (k + 1) n)) = valP (bs.take (min k n)) + 1000000000 ^ k * b → ∀ (e2 : Env),
        e2 0 = .ms ida 1 0 la → e2 1 = .ms idb 1 0 n → e2 2 = .int .i64 at_ → e2 6 = .int .u64 ((c / 1000000000 : Nat) : Int) → e2 7 = .int .i64 ((k + 1 : Nat) : Int) → R2 .nor e2 (ρ.set ida ⟨1, nums .u64 (xs.set ik (c % 1000000000)), true⟩) := by
      intro b c hc hb3 hb2 e2 j0 j1 j2 j6 j7
      refine hnor (n + 1 - (k + 1)) _ _ (by omega) ⟨k + 1, c / 1000000000, xs.set ik (c % 1000000000), rfl, by omega, by omega, rfl, j0, j1, j2, j6, j7, by simpa using gl, ?_, ?_, ?_⟩
      · intro d hd
        rcases List.mem_or_eq_of_mem_set hd with h | h
        · exact gd d h
        · omega
      · have h1 := valP_set xs ik (c % 1000000000) hik
        rw [List.getElem?_eq_getElem hik, Option.getD_some, hxe] at h1
        rw [hb2, ← Nat.add_assoc, hike, Nat.pow_succ]
        rw [hike] at gv
        have hX : 1000000000 ^ ik = 1000000000 ^ at_ * 1000000000 ^ k := by rw [← hike, Nat.pow_add]
        have hcq : c = 1000000000 * (c / 1000000000) + c % 1000000000 := by omega
        generalize c / 1000000000 = q at *
        generalize c % 1000000000 = r at *
        generalize 1000000000 ^ ik = X at *
        generalize 1000000000 ^ at_ = Y at *
        generalize 1000000000 ^ k = Z at *
        generalize valP (xs.set ik r) = V' at *
        generalize valP xs = V at *
        generalize valP as = V0 at *
        generalize valP (bs.take (min k n)) = W at *
        clear hnor hex hret w1 w6 w2 gt hset hbid hself
        grind
      · intro p hp
        rw [List.getElem?_set_ne (by omega)]
        exact gt p (by omega)
    by_cases hlt : (k : Int) < n
    · have hlt' : k < n := by omega
      have hkb : k < bs.length := by omega
      obtain ⟨b, hbe⟩ : ∃ b, bs[k] = b := ⟨_, rfl⟩
      have hbB : b < 1000000000 := by
        rw [← hbe]; exact hbs _ (by rw [List.mem_take_iff_getElem]; exact ⟨k, by omega, rfl⟩)
      obtain ⟨c, hce⟩ : ∃ c, cx + b = c := ⟨_, rfl⟩
      have w4 : IntKind.u64.wrap ((cx : Int) + (b : Int)) = (c : Int) := by rw [wrap_u64 (by omega) (by omega)]; omega
      have hst := step b c hce.symm hbB (by rw [Nat.min_eq_left (by omega), Nat.min_eq_left (by omega), valP_take_succ bs k hkb, hbe])
      obtain ⟨r, hr⟩ : ∃ r, c % 1000000000 = r := ⟨_, rfl⟩
      obtain ⟨q, hq⟩ : ∃ q, c / 1000000000 = q := ⟨_, rfl⟩
      have q1 : (c : Int).tmod 1000000000 = (r : Int) := by rw [Int.tmod_eq_emod_of_nonneg (by omega)]; omega
      have q2 : (c : Int).tdiv 1000000000 = (q : Int) := by rw [Int.tdiv_eq_ediv_of_nonneg (by omega)]; omega
      have w5 : IntKind.u64.wrap (q : Int) = q := wrap_u64 (by omega) (by omega)
      rw [hr, hq] at hst
      simp [s192_0, g0, g1, g2, g6, g7, Nat.beq, hkn, hkn', hlt, hlt', hset, hbid, hkb, hbe, hik, hxe, hikla, hikla', hikas, joinCells, nCells, spliceAt, nums_set, w1, w2, w4, w5, w6, q1, q2]
      exact hst _ (by simp [Nat.beq, g0]) (by simp [Nat.beq, g1]) (by simp [Nat.beq, g2]) (by simp [Nat.beq]) (by simp [Nat.beq])
    · have hlt' : ¬ k < n := by omega
      have hst := step 0 cx (by simp) (by omega) (by rw [Nat.min_eq_right (by omega), Nat.min_eq_right (by omega)]; simp)
      obtain ⟨r, hr⟩ : ∃ r, cx % 1000000000 = r := ⟨_, rfl⟩
      obtain ⟨q, hq⟩ : ∃ q, cx / 1000000000 = q := ⟨_, rfl⟩
      have q1 : (cx : Int).tmod 1000000000 = (r : Int) := by rw [Int.tmod_eq_emod_of_nonneg (by omega)]; omega
      have q2 : (cx : Int).tdiv 1000000000 = (q : Int) := by rw [Int.tdiv_eq_ediv_of_nonneg (by omega)]; omega
      have w5 : IntKind.u64.wrap (q : Int) = q := wrap_u64 (by omega) (by omega)
      rw [hr, hq] at hst
      simp [s192_0, g0, g1, g2, g6, g7, Nat.beq, hkn, hkn', hlt, hlt', hset, hbid, hik, hxe, hikla, hikla', hikas, joinCells, nCells, spliceAt, nums_set, w1, w2, w5, w6, q1, q2]
      exact hst _ (by simp [Nat.beq, g0]) (by simp [Nat.beq, g1]) (by simp [Nat.beq, g2]) (by simp [Nat.beq]) (by simp [Nat.beq])
  · have hkn' : ¬ k ≤ n := by omega
    have hke : k = n + 1 := by omega
    simp [s192_0, g1, g7, Nat.beq, hkn, hkn']
    refine hex _ _ _ ?_
    simp
    subst hke
    rw [Nat.min_eq_right (by omega)] at gv
    exact hR _ _ ⟨xs, carry, hca, rfl, rfl, gl, gd, gv, fun p hp => gt p (by omega)⟩

end Go.Proofs.YtkccoijckckhmaaGreatDoor.Ev

namespace Go.Proofs.YtkccoijckckhmaaGreatDoor.Ev
open Go

set_option maxRecDepth 10000
theorem trim1_ev {T : Tab} (hT : T.body 193 = some s193) {L d n : Nat} {ρ : Store} (hn : 0 < n) (hL : 10 < L) :
    Gt (evF T L (d + 1) 193 [.sl 1 [[.int .u64 n]]] ρ) fun v ρ' => v = .sl 1 (nums .u64 [n]) ∧ ρ' = ρ := by
  refine Gt_evF hT rfl fun R hR => ?_
  simp [s193, Nat.beq]
  refine Wk_loop (fun k e ρ' => ρ' = ρ ∧ e 0 = .sl 1 [[.int .u64 n]]) 1 (by omega) ⟨rfl, by simp [Nat.beq]⟩ ?_
  rintro k e _ ⟨rfl, he⟩ R2 hnor hex hret
  have hz : ¬ ((n : Int) = 0) := by omega
  have hz2 : n ≠ 0 := by omega
  have w : IntKind.i64.wrap 0 = 0 := rfl
  simp [s193_0, he, Nat.beq, joinCells, hz, hz2, w]
  refine hex _ _ _ ?_
  simp [he, Nat.beq]
  exact hR _ _ ⟨rfl, rfl⟩

theorem scaled_ev {T : Tab} (hS : T.body 224 = some s224) (hX : T.body 184 = some s184) (hT : T.body 193 = some s193) {L d n : Nat} {ρ : Store} {pv : PV} {ps : List Nat} (hp : Rds ρ pv ps) (hps : ∀ d, d ∈ ps → d < 1000000000) (hn : 0 < n) (hnB : n < 1000000000)
    (hl : ps.length < 100000) (hL : 1000000 < L) : Gt (evF T L (d + 3) 224 [pv, .int .u64 n] ρ) fun v ρ' => Ext ρ ρ' ∧ Pcs ρ ρ' v (valP ps * n) := by
  refine Gt_evF hS rfl fun R hR => ?_
  simp [s224, Nat.beq, fillElems, nCells]
  refine stepV_gt (trim1_ev hT hn (by omega)) ?_
  rintro v ρ2 ⟨rfl, rfl⟩
  simp [Nat.beq]
  refine stepV_gt (times_ev hX hT (d := d) hp (qs := [n]) (.inl rfl) hps (by simpa using hnB) (by simp; omega) hL) ?_
  rintro v ρ3 ⟨h1, h2⟩
  simp [Nat.beq]
  exact hR _ _ ⟨h1, by simpa [valP] using h2⟩

theorem small_ev {T : Tab} (hS : T.body 190 = some s190) (hT : T.body 193 = some s193) {L d n id : Nat} {ρ : Store} {es ps : List Nat} {l : Bool} (hid : ρ[id]? = some ⟨1, nums .u64 es, l⟩) (hpe : ps = es.take ps.length) (hps : ∀ d, d ∈ ps → d < 1000000000) (hn : 0 < n) (hnB : n ≤ 1000000000)
    (hl : ps.length ≤ 100000) (hL : 1000000 < L) : Gt (evF T L (d + 2) 190 [.ms id 1 0 ps.length, .int .u64 n] ρ) fun v ρ' => Ext ρ ρ' ∧ ∃ v1, v = .tup [v1, .int .u64 (valP ps % n : Nat)] ∧ Pcs ρ ρ' v1 (valP ps / n) := by
  refine Gt_evF hS rfl fun R hR => ?_
  have hel : ps.length ≤ es.length := by
    have := congrArg List.length hpe
    rw [List.length_take] at this
    omega
  have c1 : (ps.length : Int) ≤ 1073741824 := by omega
  have w0 : IntKind.i64.wrap ((ps.length : Int) - 1) = (ps.length : Int) - 1 := wrap_i64 (by omega) (by omega)
  have hidl : id < ρ.length := Rds.lt hid
  have hn0 : ¬ ((n : Int) = 0) := by omega
  have hn00 : n ≠ 0 := by omega
  simp [s190, Nat.beq, c1, w0]
  refine Wk_loop (fun k e ρ1 => ∃ (j rest : Nat) (outs : List Nat), k = j ∧ j ≤ ps.length ∧ ρ1 = ρ ++ [⟨1, nums .u64 outs, true⟩] ∧ e 0 = .ms id 1 0 ps.length ∧ e 1 = .int .u64 (n : Nat) ∧ e 6 = .ms ρ.length 1 0 ps.length ∧ e 7 = .int .u64 (rest : Nat) ∧ e 8 = .int .i64 ((j : Int) - 1) ∧ outs.length = ps.length ∧ (∀ d, d ∈ outs → d < 1000000000) ∧ rest < n ∧ valP (ps.drop j) = n * valP (outs.drop j) + rest) ps.length (by omega)
    ⟨ps.length, 0, List.replicate ps.length 0, rfl, Nat.le_refl _, by rw [replicate_nums], by simp [Nat.beq], by simp [Nat.beq], by simp [Nat.beq], by simp [Nat.beq], by simp [Nat.beq], by simp, (fun d hd => by rw [(List.mem_replicate.1 hd).2]; omega), hn, by rw [List.drop_of_length_le (Nat.le_refl _), List.drop_of_length_le (by simp)]; rfl⟩ ?_
  rintro k e _ ⟨j, rest, outs, rfl, hj, rfl, g0, g1, g6, g7, g8, gl, gd, gr, gv⟩ R2 hnor hex hret
  have hget : (ρ ++ [(⟨1, nums .u64 outs, true⟩ : Tok)])[id]? = some ⟨1, nums .u64 es, l⟩ := by rw [List.getElem?_append_left hidl]; exact hid
  cases k with
  | zero =>
    simp [s190_0, g0, g1, g6, g7, g8, Nat.beq]
    refine hex _ _ _ ?_
    simp [g6, g7, Nat.beq]
    rw [List.drop_zero, List.drop_zero] at gv
    have hq : valP ps / n = valP outs := by
      rw [gv, Nat.mul_comm, Nat.add_comm, Nat.add_mul_div_right _ _ hn, Nat.div_eq_of_lt gr, Nat.zero_add]
    have hr : valP ps % n = rest := by
      rw [gv, Nat.mul_add_mod, Nat.mod_eq_of_lt gr]
    refine stepV_gt (trim_ev hT (ds := outs) (l := true) (by simp) (by omega) (by omega) (by omega)) ?_
    rintro v ρ2 ⟨rfl, rfl⟩
    simp [Nat.beq, g7]
    refine hR _ _ ⟨Ext.push _ _, _, by rw [hr], ρ.length, _, outs, rfl, by simp, Nat.le_refl _, ?_, by omega, gd, ?_, trimN_top _ _⟩
    · have := trimN_le outs ps.length; omega
    · rw [trimN_val outs _ (by omega), ← gl, List.take_length, hq]
  | succ j =>
    have hjp : j < ps.length := by omega
    have hje : j < es.length := by omega
    have hjo : j < outs.length := by omega
    obtain ⟨x, hx⟩ : ∃ x, ps[j] = x := ⟨_, rfl⟩
    have hxB : x < 1000000000 := hx ▸ hps _ (List.getElem_mem hjp)
    have hxe : es[j] = x := by
      have h := List.getElem?_eq_getElem hjp
      rw [hx, hpe, List.getElem?_take_of_lt hjp, List.getElem?_eq_getElem hje] at h
      exact Option.some.inj h
    obtain ⟨tt, ht⟩ : ∃ y, rest * 1000000000 + x = y := ⟨_, rfl⟩
    have e8 : ((j + 1 : Nat) : Int) - 1 = (j : Int) := by omega
    rw [e8] at g8
    have htn : tt < n * 1000000000 := by omega
    have w1 : IntKind.u64.wrap ((rest : Int) * 1000000000) = (rest : Int) * 1000000000 := wrap_u64 (by omega) (by omega)
    have w2 : IntKind.u64.wrap ((rest : Int) * 1000000000 + (x : Int)) = (tt : Int) := by rw [wrap_u64 (by omega) (by omega)]; omega
    obtain ⟨q, hq⟩ : ∃ q, tt / n = q := ⟨_, rfl⟩
    obtain ⟨r, hr⟩ : ∃ r, tt % n = r := ⟨_, rfl⟩
    have hqr : n * q + r = tt := by rw [← hq, ← hr]; exact Nat.div_add_mod _ _
    have hrn : r < n := by rw [← hr]; exact Nat.mod_lt _ hn
    have hqB : q < 1000000000 := by rw [← hq]; exact (Nat.div_lt_iff_lt_mul hn).2 (by rw [Nat.mul_comm]; exact htn)
    have q1 : (tt : Int).tdiv n = (q : Int) := by rw [Int.tdiv_eq_ediv_of_nonneg (by omega), ← hq]; rfl
    have q2 : (tt : Int).tmod n = (r : Int) := by rw [Int.tmod_eq_emod_of_nonneg (by omega), ← hr]; rfl
    have w3 : IntKind.u64.wrap (q : Int) = q := wrap_u64 (by omega) (by omega)
    have w4 : IntKind.i64.wrap ((j : Int) - 1) = (j : Int) - 1 := wrap_i64 (by omega) (by omega)
    simp [s190_0, g0, g1, g6, g7, g8, Nat.beq, hget, hjp, hje, hjo, hxe, joinCells, nCells, spliceAt, nums_set, set_last, hn0, hn00, w1, w2, w3, w4, q1, q2]
    refine hnor j _ _ (by omega) ⟨j, r, outs.set j q, rfl, by omega, rfl, by simp [Nat.beq, g0], by simp [Nat.beq, g1], by simp [Nat.beq, g6], by simp [Nat.beq], by simp [Nat.beq], by simpa using gl, ?_, hrn, ?_⟩
    · intro d hd
      rcases List.mem_or_eq_of_mem_set hd with h | h
      · exact gd d h
      · omega
    · rw [List.drop_eq_getElem_cons hjp, List.drop_eq_getElem_cons (l := outs.set j q) (by simpa using hjo), List.getElem_set_self, List.drop_set_of_lt (by omega), hx]
      simp only [valP]
      rw [gv]
      generalize valP (outs.drop (j + 1)) = V
      clear gv hnor hex hret
      grind

end Go.Proofs.YtkccoijckckhmaaGreatDoor.Ev

namespace Go.Proofs.YtkccoijckckhmaaGreatDoor.Ev
open Go

def Keep (l : List Nat) (e e' : Env) : Prop := ∀ i, i ∈ l → e' i = e i

theorem valP_split (l : List Nat) (i : Nat) (h : i ≤ l.length) : valP l = valP (l.take i) + 1000000000 ^ i * valP (l.drop i) := by
  have := valP_append (l.take i) (l.drop i)
  rwa [List.take_append_drop, List.length_take, Nat.min_eq_left h] at this

theorem same_out {xs ys : List Nat} {i m : Nat} (h : ∀ p, (p < i ∨ i + m < p) → xs[p]? = ys[p]?) : xs.take i = ys.take i ∧ xs.drop (i + m + 1) = ys.drop (i + m + 1) := by
  constructor
  · apply List.ext_getElem?
    intro p
    rw [List.getElem?_take, List.getElem?_take]
    split
    · exact h p (.inl (by assumption))
    · rfl
  · apply List.ext_getElem?
    intro p
    rw [List.getElem?_drop, List.getElem?_drop]
    exact h _ (.inr (by omega))

theorem div_end {P Q O A f : Nat} (hf : 0 < f) (h : P * f = O * (Q * f) + A) (hA : A < Q * f) : P / Q = O ∧ A / f = P % Q := by
  have e1 : O * (Q * f) = O * Q * f := by grind
  rw [e1] at h
  have h1 : O * Q ≤ P := by
    have : O * Q * f ≤ P * f := by omega
    exact Nat.le_of_mul_le_mul_right this hf
  obtain ⟨D, hD⟩ : ∃ D, P = O * Q + D := ⟨P - O * Q, by omega⟩
  have e2 : P * f = O * Q * f + D * f := by rw [hD]; grind
  have hAD : A = D * f := by omega
  have hDQ : D < Q := by
    rw [hAD] at hA
    exact Nat.lt_of_mul_lt_mul_right hA
  have hQ : 0 < Q := by omega
  constructor
  · rw [hD, Nat.mul_comm O Q, Nat.mul_add_div hQ, Nat.div_eq_of_lt hDQ, Nat.add_zero]
  · rw [hAD, Nat.mul_div_cancel _ hf, hD, Nat.mul_comm O Q, Nat.mul_add_mod, Nat.mod_eq_of_lt hDQ]

/-- Pieces of a number that is not too small. -/
theorem tight_len {ds : List Nat} {k v : Nat} (h : ∀ d, d ∈ ds → d < 1000000000) (hv : valP ds = v) (ht : Tight ds) (h1 : 1000000000 ^ k ≤ v) (h2 : v < 1000000000 ^ (k + 1)) : ds.length = k + 1 := by
  have a1 := valP_lt ds h
  rw [hv] at a1
  have a2 : k < ds.length := (Nat.pow_lt_pow_iff_right (by omega : 1 < 1000000000)).1 (Nat.lt_of_le_of_lt h1 a1)
  rcases ht with rfl | ht
  · simp at a2
  · have a3 : 1000000000 ^ (ds.length - 1) ≤ v := by
      rw [← hv, valP_split ds (ds.length - 1) (by omega), List.drop_eq_getElem_cons (by omega : ds.length - 1 < ds.length)]
      rw [List.getElem?_eq_getElem (by omega : ds.length - 1 < ds.length), Option.getD_some] at ht
      simp only [valP]
      have : 1000000000 ^ (ds.length - 1) * 1 ≤ 1000000000 ^ (ds.length - 1) * (ds[ds.length - 1] + 1000000000 * valP (ds.drop (ds.length - 1 + 1))) := Nat.mul_le_mul_left _ (by omega)
      omega
    have a4 : ds.length - 1 < k + 1 := (Nat.pow_lt_pow_iff_right (by omega : 1 < 1000000000)).1 (Nat.lt_of_le_of_lt a3 h2)
    omega

set_option maxRecDepth 10000
theorem guess_in {T : Tab} {call} {L : Nat} {ks : List K} {Q : Post} {ρ : Store} {ida idb la n i h b1 b2 a2 : Nat} {as bs : List Nat} {l l2 : Bool} {Pg : Nat → Prop} (ha : ρ[ida]? = some ⟨1, nums .u64 as, l⟩) (hb : ρ[idb]? = some ⟨1, nums .u64 bs, l2⟩) (hL : 10 < L)
    (hn : 2 ≤ n) (hnb : n ≤ bs.length) (hla : la ≤ as.length) (hin : i + n < la) (hsz : la ≤ 1000000) (hb1 : bs[n - 1]?.getD 0 = b1) (hb2 : bs[n - 2]?.getD 0 = b2) (ha2 : as[i + n - 2]?.getD 0 = a2) (h1B : b1 < 1000000000) (h1 : 1000000000 ≤ 2 * b1) (h2B : b2 < 1000000000) (ha2B : a2 < 1000000000) (hg0 : h / b1 ≤ 1000000001)
    (hP0 : Pg (h / b1)) (hP : ∀ g r, g * b1 + r = h → 1000000000 ≤ g ∨ r * 1000000000 + a2 < g * b2 → Pg g → Pg (g - 1))
    {e : Env} (h7 : e 7 = .ms ida 1 0 la) (h8 : e 8 = .ms idb 1 0 n) (h9 : e 9 = .int .i64 n) (h11 : e 11 = .int .i64 i) (h13 : e 13 = .int .u64 ((h / b1 : Nat) : Int)) (h14 : e 14 = .int .u64 ((h % b1 : Nat) : Int))
    (hQ : ∀ (e' : Env) (g r : Nat), Keep [6, 7, 8, 9, 10, 11] e e' → e' 13 = .int .u64 (g : Nat) → g * b1 + r = h → g < 1000000000 → 1000000000 ≤ r ∨ g * b2 ≤ r * 1000000000 + a2 → Pg g → jmp T call L (.ex 4) ks e' ρ Q) :
    Wk T call L (.code (.loop s191_2) :: ks) e ρ Q := by
  have hb1p : 0 < b1 := by omega
  refine Wk_loop (fun k e' ρ' => ∃ (j g r : Nat), k = 2 - j ∧ j ≤ 2 ∧ ρ' = ρ ∧ Keep [6, 7, 8, 9, 10, 11] e e' ∧ e' 13 = .int .u64 (g : Nat) ∧ e' 14 = .int .u64 (r : Nat) ∧ g + j = h / b1 ∧ r = h % b1 + j * b1 ∧ g * b1 + r = h ∧ Pg g) 2 (by omega)
    ⟨0, h / b1, h % b1, rfl, by omega, rfl, fun _ _ => rfl, h13, h14, rfl, by omega, by rw [Nat.mul_comm]; exact Nat.div_add_mod _ _, hP0⟩ ?_
  rintro k e' ρ1 ⟨j, g, r, rfl, hj, rfl, hk, g13, g14, hgj, hr, hgr, hPg⟩ R hnor hex hret
  obtain ⟨k6, k7, k8, k9, k10, k11⟩ : e' 6 = e 6 ∧ e' 7 = e 7 ∧ e' 8 = e 8 ∧ e' 9 = e 9 ∧ e' 10 = e 10 ∧ e' 11 = e 11 := by simpa [Keep] using hk
  rw [h7] at k7
  rw [h8] at k8
  rw [h9] at k9
  rw [h11] at k11
  have hrm : h % b1 < b1 := Nat.mod_lt _ hb1p
  have hjb : j * b1 ≤ 2 * b1 := Nat.mul_le_mul_right _ hj
  have hnb2 : n - 2 < bs.length := by omega
  have hnb1 : n - 1 < bs.length := by omega
  have hia : i + n - 2 < as.length := by omega
  rw [List.getElem?_eq_getElem hnb2, Option.getD_some] at hb2
  rw [List.getElem?_eq_getElem hnb1, Option.getD_some] at hb1
  rw [List.getElem?_eq_getElem hia, Option.getD_some] at ha2
  obtain ⟨n2, hn2⟩ : ∃ y, n - 2 = y := ⟨_, rfl⟩
  obtain ⟨n1, hn1⟩ : ∃ y, n - 1 = y := ⟨_, rfl⟩
  obtain ⟨in2, hin2⟩ : ∃ y, i + n - 2 = y := ⟨_, rfl⟩
  have w1 : IntKind.i64.wrap ((n : Int) - 2) = (n2 : Int) := by rw [wrap_i64 (by omega) (by omega)]; omega
  have w2 : IntKind.i64.wrap ((n : Int) - 1) = (n1 : Int) := by rw [wrap_i64 (by omega) (by omega)]; omega
  obtain ⟨inn, hinn⟩ : ∃ y, i + n = y := ⟨_, rfl⟩
  have w3 : IntKind.i64.wrap ((i : Int) + (n : Int)) = (inn : Int) := by rw [wrap_i64 (by omega) (by omega)]; omega
  have w4 : IntKind.i64.wrap ((inn : Int) - 2) = (in2 : Int) := by rw [wrap_i64 (by omega) (by omega)]; omega
  have x1 : (n2 : Int) < n := by omega
  have x2 : n2 < n := by omega
  have x3 : (n1 : Int) < n := by omega
  have x4 : n1 < n := by omega
  have x5 : (in2 : Int) < la := by omega
  have x6 : in2 < la := by omega
  have y1 : n2 < bs.length := by omega
  have y2 : n1 < bs.length := by omega
  have y3 : in2 < as.length := by omega
  have z1 : bs[n2] = b2 := by rw [← hb2]; congr 1; omega
  have z2 : bs[n1] = b1 := by rw [← hb1]; congr 1; omega
  have z3 : as[in2] = a2 := by rw [← ha2]; congr 1; omega
  have w7 : IntKind.u64.wrap ((r : Int) + (b1 : Int)) = ((r + b1 : Nat) : Int) := by rw [wrap_u64 (by omega) (by omega)]; omega
  have kk : ∀ e2 : Env, e2 6 = e 6 → e2 7 = e 7 → e2 8 = e 8 → e2 9 = e 9 → e2 10 = e 10 → e2 11 = e 11 → Keep [6, 7, 8, 9, 10, 11] e e2 := by
    intro e2 a b c d f g
    simp [Keep, a, b, c, d, f, g]
  -- one round more
  have more : 1000000000 ≤ g ∨ r * 1000000000 + a2 < g * b2 → r < 1000000000 ∨ 1000000000 ≤ g → ∀ e2 : Env, Keep [6, 7, 8, 9, 10, 11] e e2 → e2 13 = .int .u64 ((g - 1 : Nat) : Int) → e2 14 = .int .u64 ((r + b1 : Nat) : Int) → R .nor e2 ρ1 := by
    intro hc hc2 e2 q1 q2 q3
    have hj1 : j < 2 := by
      rcases Nat.lt_or_ge j 2 with h' | h'
      · exact h'
      · have : j = 2 := by omega
        subst this
        omega
    have hg1 : 1 ≤ g := by
      rcases Nat.eq_zero_or_pos g with h' | h'
      · subst h'; omega
      · exact h'
    obtain ⟨gp, rfl⟩ : ∃ gp, g = gp + 1 := ⟨g - 1, by omega⟩
    refine hnor (2 - (j + 1)) _ _ (by omega) ⟨j + 1, gp, r + b1, rfl, by omega, rfl, q1, q2, q3, by omega, by rw [hr]; grind, by rw [← hgr]; grind, hP _ _ hgr hc hPg⟩
  by_cases hgB : 1000000000 ≤ g
  · have hgB' : (1000000000 : Int) ≤ g := by omega
    have w6 : IntKind.u64.wrap ((g : Int) - 1) = ((g - 1 : Nat) : Int) := by rw [wrap_u64 (by omega) (by omega)]; omega
    simp [s191_2, k7, k8, k9, k11, g13, g14, Nat.beq, hgB, hgB', ha, hb, joinCells, w1, w2, w3, w4, w6, w7, x1, x2, x3, x4, x5, x6, y1, y2, y3, z1, z2, z3]
    exact more (.inl hgB) (.inr hgB) _ (kk _ (by simp [Nat.beq, k6]) (by simp [Nat.beq, k7, h7]) (by simp [Nat.beq, k8, h8]) (by simp [Nat.beq, k9, h9]) (by simp [Nat.beq, k10]) (by simp [Nat.beq, k11, h11])) (by simp [Nat.beq]) (by simp [Nat.beq])
  · have hgB' : ¬ (1000000000 : Int) ≤ g := by omega
    by_cases hrB : r < 1000000000
    · have hrB' : (r : Int) < 1000000000 := by omega
      obtain ⟨gb, hgb⟩ : ∃ y, g * b2 = y := ⟨_, rfl⟩
      have hgb2 : gb ≤ 1000000000 * 1000000000 := by rw [← hgb]; exact Nat.mul_le_mul (by omega) (by omega)
      have w5 : IntKind.u64.wrap ((g : Int) * (b2 : Int)) = (gb : Int) := by rw [← hgb, ← Int.natCast_mul, wrap_u64 (by omega) (by omega)]
      have w8 : IntKind.u64.wrap ((r : Int) * 1000000000) = (r : Int) * 1000000000 := wrap_u64 (by omega) (by omega)
      obtain ⟨ra, hra⟩ : ∃ y, r * 1000000000 + a2 = y := ⟨_, rfl⟩
      have w9 : IntKind.u64.wrap ((r : Int) * 1000000000 + (a2 : Int)) = (ra : Int) := by rw [wrap_u64 (by omega) (by omega)]; omega
      by_cases hc : ra < gb
      · have hg1 : 1 ≤ g := by
          rcases Nat.eq_zero_or_pos g with h' | h'
          · subst h'; omega
          · exact h'
        have w6 : IntKind.u64.wrap ((g : Int) - 1) = ((g - 1 : Nat) : Int) := by rw [wrap_u64 (by omega) (by omega)]; omega
        simp [s191_2, k7, k8, k9, k11, g13, g14, Nat.beq, hgB, hgB', hrB, hrB', hc, ha, hb, joinCells, w1, w2, w3, w4, w5, w6, w7, w8, w9, x1, x2, x3, x4, x5, x6, y1, y2, y3, z1, z2, z3]
        exact more (.inr (by omega)) (.inl hrB) _ (kk _ (by simp [Nat.beq, k6]) (by simp [Nat.beq, k7, h7]) (by simp [Nat.beq, k8, h8]) (by simp [Nat.beq, k9, h9]) (by simp [Nat.beq, k10]) (by simp [Nat.beq, k11, h11])) (by simp [Nat.beq]) (by simp [Nat.beq])
      · simp [s191_2, k7, k8, k9, k11, g13, g14, Nat.beq, hgB, hgB', hrB, hrB', hc, ha, hb, joinCells, w1, w2, w3, w4, w5, w7, w8, w9, x1, x2, x3, x4, x5, x6, y1, y2, y3, z1, z2, z3]
        exact hex _ _ _ (hQ _ g r (kk _ (by simp [Nat.beq, k6]) (by simp [Nat.beq, k7, h7]) (by simp [Nat.beq, k8, h8]) (by simp [Nat.beq, k9, h9]) (by simp [Nat.beq, k10]) (by simp [Nat.beq, k11, h11])) (by simp [Nat.beq, g13]) hgr (by omega) (.inr (by omega)) hPg)
    · have hrB' : ¬ (r : Int) < 1000000000 := by omega
      simp [s191_2, k7, k8, k9, k11, g13, g14, Nat.beq, hgB, hgB', hrB, hrB']
      exact hex _ _ _ (hQ _ g r (kk _ (by simp [Nat.beq, k6]) (by simp [Nat.beq, k7, h7]) (by simp [Nat.beq, k8, h8]) (by simp [Nat.beq, k9, h9]) (by simp [Nat.beq, k10]) (by simp [Nat.beq, k11, h11])) (by simp [Nat.beq, g13]) hgr (by omega) (.inl (by omega)) hPg)

end Go.Proofs.YtkccoijckckhmaaGreatDoor.Ev

namespace Go.Proofs.YtkccoijckckhmaaGreatDoor.Ev
open Go

/-- The two first pieces of a number, and the rest. -/
theorem top2 {bs : List Nat} {n b1 b2 : Nat} (hn : 2 ≤ n) (hnb : n ≤ bs.length) (hb1 : bs[n - 1]?.getD 0 = b1) (hb2 : bs[n - 2]?.getD 0 = b2) : valP (bs.take n) = b1 * (1000000000 * 1000000000 ^ (n - 2)) + b2 * 1000000000 ^ (n - 2) + valP (bs.take (n - 2)) := by
  obtain ⟨k, rfl⟩ : ∃ k, n = k + 2 := ⟨n - 2, by omega⟩
  rw [List.getElem?_eq_getElem (by omega)] at hb1 hb2
  simp only [Option.getD_some, Nat.add_sub_cancel, show k + 2 - 1 = k + 1 from rfl] at hb1 hb2 ⊢
  rw [valP_take_succ bs (k + 1) (by omega), valP_take_succ bs k (by omega), hb1, hb2, Nat.pow_succ]
  grind

theorem top3 {as : List Nat} {i n a0 a1 a2 : Nat} (hn : 2 ≤ n) (hin : i + n < as.length) (h0 : as[i + n]?.getD 0 = a0) (h1 : as[i + n - 1]?.getD 0 = a1) (h2 : as[i + n - 2]?.getD 0 = a2) :
    valP (as.drop i) = (a0 * 1000000000 + a1) * (1000000000 * 1000000000 ^ (n - 2)) + a2 * 1000000000 ^ (n - 2) + valP ((as.drop i).take (n - 2)) + 1000000000 ^ (n + 1) * valP (as.drop (i + n + 1)) := by
  have hl : (as.drop i).length = as.length - i := List.length_drop
  have e1 := valP_split (as.drop i) (n + 1) (by omega)
  rw [List.drop_drop, show i + (n + 1) = i + n + 1 from rfl] at e1
  rw [e1, valP_take_succ (as.drop i) n (by omega)]
  have e2 := top2 (bs := as.drop i) (n := n) (b1 := a1) (b2 := a2) hn (by omega) (by rw [List.getElem?_drop, show i + (n - 1) = i + n - 1 from by omega]; exact h1) (by rw [List.getElem?_drop, show i + (n - 2) = i + n - 2 from by omega]; exact h2)
  have e3 : (as.drop i)[n]'(by omega) = a0 := by
    rw [List.getElem?_eq_getElem (by omega)] at h0
    rw [List.getElem_drop]; exact h0
  rw [e2, e3]
  obtain ⟨k, rfl⟩ : ∃ k, n = k + 2 := ⟨n - 2, by omega⟩
  simp only [Nat.add_sub_cancel, Nat.pow_succ]
  grind

set_option maxRecDepth 10000
theorem div_in {T : Tab} (hA : T.body 194 = some s194) (hB : T.body 192 = some s192) {L d : Nat} {ks : List K} {Q : Post} {ρ0 : Store} {ida idb ido la n b1 b2 A0 : Nat} {as0 bs outs0 : List Nat} {l2 : Bool} (ha0 : ρ0[ida]? = some ⟨1, nums .u64 as0, true⟩) (hb : ρ0[idb]? = some ⟨1, nums .u64 bs, l2⟩) (ho0 : ρ0[ido]? = some ⟨1, nums .u64 outs0, true⟩) (hL : 1100000 < L)
    (n1 : idb ≠ ida) (n2 : ida ≠ ido) (n3 : idb ≠ ido)
    (hn : 2 ≤ n) (hnb : n ≤ bs.length) (hla : as0.length = la) (hlo : outs0.length = la - n) (hnl : n < la) (hsz : la ≤ 1000000) (hb1 : bs[n - 1]?.getD 0 = b1) (hb2 : bs[n - 2]?.getD 0 = b2) (h1 : 1000000000 ≤ 2 * b1)
    (has0 : ∀ d, d ∈ as0 → d < 1000000000) (hbs : ∀ d, d ∈ bs.take n → d < 1000000000) (hos0 : ∀ d, d ∈ outs0 → d < 1000000000) (htop : valP (as0.drop (la - n)) < valP (bs.take n)) (hA0 : valP as0 = A0)
    {e : Env} (h7 : e 7 = .ms ida 1 0 la) (h8 : e 8 = .ms idb 1 0 n) (h9 : e 9 = .int .i64 n) (h10 : e 10 = .ms ido 1 0 (la - n)) (h11 : e 11 = .int .i64 ((la - n : Nat) - 1 : Int))
    (hQ : ∀ (e' : Env) (ρ' : Store) (as outs : List Nat), Keep [6, 7, 10] e e' → ρ'[ida]? = some ⟨1, nums .u64 as, true⟩ → ρ'[ido]? = some ⟨1, nums .u64 outs, true⟩ → (∀ j, j ≠ ida → j ≠ ido → ρ'[j]? = ρ0[j]?) → ρ'.length = ρ0.length → as.length = la → outs.length = la - n → (∀ d, d ∈ as → d < 1000000000) → (∀ d, d ∈ outs → d < 1000000000) →
      valP as + valP outs * valP (bs.take n) = A0 → valP as < valP (bs.take n) → jmp T (evF T L (d + 1)) L (.ex 2) ks e' ρ' Q) :
    Wk T (evF T L (d + 1)) L (.code (.loop s191_1) :: ks) e ρ0 Q := by
  obtain ⟨b, hbv⟩ : ∃ b, valP (bs.take n) = b := ⟨_, rfl⟩
  have hbtop := top2 hn hnb hb1 hb2
  rw [hbv] at hbtop
  have hmem : ∀ j, j < n → bs[j]?.getD 0 < 1000000000 := fun j hj => by
    rw [List.getElem?_eq_getElem (by omega), Option.getD_some]
    exact hbs _ (by rw [List.mem_take_iff_getElem]; exact ⟨j, by omega, rfl⟩)
  have h1B : b1 < 1000000000 := hb1 ▸ hmem (n - 1) (by omega)
  have h2B : b2 < 1000000000 := hb2 ▸ hmem (n - 2) (by omega)
  have hblt : b < 1000000000 ^ n := by
    have := valP_lt _ hbs
    rwa [hbv, List.length_take, Nat.min_eq_left hnb] at this
  obtain ⟨w, hw⟩ : ∃ w, 1000000000 ^ (n - 2) = w := ⟨_, rfl⟩
  have hwp : 0 < w := by rw [← hw]; exact Nat.pow_pos (by omega)
  have hb'lt : valP (bs.take (n - 2)) < w := by
    have h := valP_lt (bs.take (n - 2)) (fun d hd => hbs d (by
      have : bs.take (n - 2) = (bs.take n).take (n - 2) := by rw [List.take_take, Nat.min_eq_left (by omega)]
      rw [this] at hd; exact List.mem_of_mem_take hd))
    rwa [List.length_take, Nat.min_eq_left (by omega), hw] at h
  have hpn : 1000000000 ^ (n + 1) = 1000000000 * 1000000000 ^ n := by rw [Nat.pow_succ, Nat.mul_comm]
  refine Wk_loop (fun k e' ρ' => ∃ (as outs : List Nat), k ≤ la - n ∧ Keep [6, 7, 8, 9, 10] e e' ∧ e' 11 = .int .i64 ((k : Int) - 1) ∧ ρ'[ida]? = some ⟨1, nums .u64 as, true⟩ ∧ ρ'[ido]? = some ⟨1, nums .u64 outs, true⟩ ∧ (∀ j, j ≠ ida → j ≠ ido → ρ'[j]? = ρ0[j]?) ∧ ρ'.length = ρ0.length ∧ as.length = la ∧ outs.length = la - n ∧ (∀ d, d ∈ as → d < 1000000000) ∧ (∀ d, d ∈ outs → d < 1000000000) ∧
      valP (as.drop k) < b ∧ valP as + 1000000000 ^ k * (valP (outs.drop k) * b) = A0) (la - n) (by omega)
    ⟨as0, outs0, Nat.le_refl _, fun _ _ => rfl, h11, ha0, ho0, fun _ _ _ => rfl, rfl, hla, hlo, has0, hos0, hbv ▸ htop, by rw [List.drop_of_length_le (by omega), hA0]; simp [valP]⟩ ?_
  rintro k e' ρ ⟨as, outs, hk, hkeep, g11, ga, go, gr, grl, gla, glo, gd, god, gtop, gv⟩ R hnor hex hret
  obtain ⟨k6, k7, k8, k9, k10⟩ : e' 6 = e 6 ∧ e' 7 = e 7 ∧ e' 8 = e 8 ∧ e' 9 = e 9 ∧ e' 10 = e 10 := by simpa [Keep] using hkeep
  cases k with
  | zero =>
    simp [s191_1, g11, Nat.beq]
    refine hex _ _ _ (hQ _ ρ as outs ?_ ga go gr grl gla glo gd god ?_ ?_)
    · simp [Keep, Nat.beq, k6, k7, k10]
    · rw [hbv]; simpa using gv
    · rw [hbv]; simpa using gtop
  | succ i =>
    have e11 : ((i + 1 : Nat) : Int) - 1 = (i : Int) := by omega
    rw [e11] at g11
    have gb : ρ[idb]? = some ⟨1, nums .u64 bs, l2⟩ := by rw [gr idb n1 n3]; exact hb
    have hin : i + n < la := by omega
    -- the pieces
    have hmemA : ∀ j, j < la → as[j]?.getD 0 < 1000000000 := fun j hj => by
      rw [List.getElem?_eq_getElem (by omega), Option.getD_some]
      exact gd _ (List.getElem_mem _)
    obtain ⟨a0, ha0⟩ : ∃ x, as[i + n]?.getD 0 = x := ⟨_, rfl⟩
    obtain ⟨a1, ha1⟩ : ∃ x, as[i + n - 1]?.getD 0 = x := ⟨_, rfl⟩
    obtain ⟨a2, ha2⟩ : ∃ x, as[i + n - 2]?.getD 0 = x := ⟨_, rfl⟩
    have ha0B : a0 < 1000000000 := ha0 ▸ hmemA _ (by omega)
    have ha1B : a1 < 1000000000 := ha1 ▸ hmemA _ (by omega)
    have ha2B : a2 < 1000000000 := ha2 ▸ hmemA _ (by omega)
    have hX3 := top3 hn (by omega) ha0 ha1 ha2
    rw [hw] at hX3
    obtain ⟨X, hX⟩ : ∃ X, valP (as.drop i) = X := ⟨_, rfl⟩
    have hXb : X < 1000000000 * b := by
      rw [← hX, List.drop_eq_getElem_cons (by omega : i < as.length)]
      simp only [valP]
      have := gd _ (List.getElem_mem (by omega : i < as.length))
      omega
    obtain ⟨V, hV⟩ : ∃ V, valP (as.drop (i + n + 1)) = V := ⟨_, rfl⟩
    have hV0 : V = 0 := by
      rcases Nat.eq_zero_or_pos V with h | h
      · exact h
      · exfalso
        have : 1000000000 ^ (n + 1) * 1 ≤ 1000000000 ^ (n + 1) * V := Nat.mul_le_mul_left _ h
        rw [hX, hV] at hX3
        omega
    obtain ⟨x', hx'⟩ : ∃ x, valP ((as.drop i).take (n - 2)) = x := ⟨_, rfl⟩
    have hx'lt : x' < w := by
      have h := valP_lt ((as.drop i).take (n - 2)) (fun d hd => gd d (List.mem_of_mem_drop (List.mem_of_mem_take hd)))
      rwa [List.length_take, List.length_drop, Nat.min_eq_left (by omega), hw, hx'] at h
    rw [hX, hV, hV0, Nat.mul_zero, Nat.add_zero, hx'] at hX3
    obtain ⟨h, hh⟩ : ∃ h, a0 * 1000000000 + a1 = h := ⟨_, rfl⟩
    rw [hh] at hX3
    rw [hw] at hbtop
    have hb1p : 0 < b1 := by omega
    have hg0 := kn_high hbtop hX3 h2B hb'lt hwp hXb (by omega) h1
    have hP0 := kn_first hbtop hX3 ha2B hx'lt hb1p
    have hP : ∀ g r, g * b1 + r = h → 1000000000 ≤ g ∨ r * 1000000000 + a2 < g * b2 → X < (g + 1) * b → X < (g - 1 + 1) * b := by
      intro g r h1 h2 _
      have h3 := kn_less hbtop hX3 hx'lt hXb h1 h2
      have hgp : 0 < g := by
        rcases Nat.eq_zero_or_pos g with hz | hz
        · subst hz; omega
        · exact hz
      rwa [Nat.sub_add_cancel hgp]
    -- machine numbers
    obtain ⟨inn, hinn⟩ : ∃ y, i + n = y := ⟨_, rfl⟩
    obtain ⟨in1, hin1⟩ : ∃ y, i + n - 1 = y := ⟨_, rfl⟩
    obtain ⟨nn1, hnn1⟩ : ∃ y, n - 1 = y := ⟨_, rfl⟩
    have w1 : IntKind.i64.wrap ((i : Int) + (n : Int)) = (inn : Int) := by rw [wrap_i64 (by omega) (by omega)]; omega
    have w2 : IntKind.i64.wrap ((inn : Int) - 1) = (in1 : Int) := by rw [wrap_i64 (by omega) (by omega)]; omega
    have w3 : IntKind.i64.wrap ((n : Int) - 1) = (nn1 : Int) := by rw [wrap_i64 (by omega) (by omega)]; omega
    have w4 : IntKind.u64.wrap ((a0 : Int) * 1000000000) = (a0 : Int) * 1000000000 := wrap_u64 (by omega) (by omega)
    have w5 : IntKind.u64.wrap ((a0 : Int) * 1000000000 + (a1 : Int)) = (h : Int) := by rw [wrap_u64 (by omega) (by omega)]; omega
    have q1 : (h : Int).tdiv b1 = ((h / b1 : Nat) : Int) := by rw [Int.tdiv_eq_ediv_of_nonneg (by omega)]; rfl
    have q2 : (h : Int).tmod b1 = ((h % b1 : Nat) : Int) := by rw [Int.tmod_eq_emod_of_nonneg (by omega)]; rfl
    obtain ⟨hq, hqe⟩ : ∃ y, h / b1 = y := ⟨_, rfl⟩
    obtain ⟨hm, hme⟩ : ∃ y, h % b1 = y := ⟨_, rfl⟩
    rw [hqe] at q1
    rw [hme] at q2
    have w6 : IntKind.u64.wrap (hq : Int) = hq := wrap_u64 (by omega) (by omega)
    have hb10 : ¬ ((b1 : Int) = 0) := by omega
    have hb100 : ¬ (b1 = 0) := by omega
    have y0 : inn < as.length := by omega
    have y1 : in1 < as.length := by omega
    have y2 : nn1 < bs.length := by omega
    have z0 : as[inn] = a0 := by rw [← ha0, hinn, List.getElem?_eq_getElem y0]; rfl
    have z1 : as[in1] = a1 := by rw [← ha1, hin1, List.getElem?_eq_getElem y1]; rfl
    have z2 : bs[nn1] = b1 := by rw [← hb1, hnn1, List.getElem?_eq_getElem y2]; rfl
    have x0 : (inn : Int) < la := by omega
    have x1 : inn < la := by omega
    have x2 : (in1 : Int) < la := by omega
    have x3 : in1 < la := by omega
    have x4 : (nn1 : Int) < n := by omega
    have x5 : nn1 < n := by omega
    simp [s191_1, k6, k7, k8, k9, k10, h7, h8, h9, h10, g11, Nat.beq, ga, gb, go, joinCells, w1, w2, w3, w4, w5, w6, q1, q2, hb10, hb100, y0, y1, y2, z0, z1, z2, x0, x1, x2, x3, x4, x5]
    refine guess_in (T := T) (as := as) (bs := bs) (ida := ida) (idb := idb) (la := la) (n := n) (i := i) (h := h) (b1 := b1) (b2 := b2) (a2 := a2) (Pg := fun g => X < (g + 1) * b) ga gb (by omega) hn hnb (by omega) hin hsz hb1 hb2 ha2 h1B h1 h2B ha2B hg0 hP0 hP
      (by simp [Nat.beq, k7, h7]) (by simp [Nat.beq, k8, h8]) (by simp [Nat.beq, k9, h9]) (by simp [Nat.beq, g11]) (by simp [Nat.beq, hqe]) (by simp [Nat.beq, hme]) ?_
    intro e2 g r hke g13 hgr hgB hgc hPg
    obtain ⟨f6, f7, f8, f9, f10, f11⟩ : e2 6 = e 6 ∧ e2 7 = e 7 ∧ e2 8 = e 8 ∧ e2 9 = e 9 ∧ e2 10 = e 10 ∧ e2 11 = .int .i64 (i : Nat) := by simpa [Keep, Nat.beq, k6, k7, k8, k9, k10, g11] using hke
    have hnear := kn_near hbtop hX3 h2B hb'lt hb1p hgr hgB hgc
    simp [Nat.beq, f7, f8, f9, f10, f11, g13, h7, h8, h9, h10]
    refine stepV_gt (take_ev hA (d := d) (as := as) (bs := bs) (g := g) (at_ := i) (n := n) (la := la) ga gb n1 (by omega) hnb hin (by omega) (by omega) gd hbs (by omega)) ?_
    rintro v ρ2 ⟨as1, bo, hbo, rfl, rfl, a1l, a1d, a1v, a1s⟩
    rw [hbv] at a1v
    have hidal : ida < ρ.length := Rds.lt ga
    have hidol : ido < ρ.length := Rds.lt go
    obtain ⟨so1, so2⟩ := same_out (i := i) (m := n) a1s
    have sp0 := valP_split as i (by omega)
    have sp1 := valP_split as1 i (by omega)
    rw [so1] at sp1
    obtain ⟨X1, hX1⟩ : ∃ X, valP (as1.drop i) = X := ⟨_, rfl⟩
    rw [hX] at sp0
    rw [hX1] at sp1
    have hpi : 0 < 1000000000 ^ i := Nat.pow_pos (by omega)
    have hXX : X1 + g * b = X + 1000000000 ^ (n + 1) * bo := by
      rw [sp0, sp1, show i + n + 1 = i + (n + 1) from rfl, Nat.pow_add] at a1v
      have : 1000000000 ^ i * (X1 + g * b) = 1000000000 ^ i * (X + 1000000000 ^ (n + 1) * bo) := by
        clear hQ hnor hex hret
        generalize 1000000000 ^ i = P at a1v ⊢
        generalize 1000000000 ^ (n + 1) = M at a1v ⊢
        generalize valP (as.take i) = U at a1v
        rw [Nat.mul_add, Nat.mul_add, ← Nat.mul_assoc P M bo]
        omega
      exact Nat.eq_of_mul_eq_mul_left hpi this
    -- what a number of n + 1 pieces is less than
    have hwin : ∀ xs : List Nat, xs.length = la → (∀ d, d ∈ xs → d < 1000000000) → xs.drop (i + n + 1) = as.drop (i + n + 1) → valP (xs.drop i) < 1000000000 ^ (n + 1) := by
      intro xs h1 h2 h3
      have h4 := valP_split (xs.drop i) (n + 1) (by rw [List.length_drop]; omega)
      rw [List.drop_drop, show i + (n + 1) = i + n + 1 from rfl, h3, hV, hV0, Nat.mul_zero, Nat.add_zero] at h4
      rw [h4]
      have h5 := valP_lt ((xs.drop i).take (n + 1)) (fun d hd => h2 d (List.mem_of_mem_drop (List.mem_of_mem_take hd)))
      rwa [List.length_take, List.length_drop, Nat.min_eq_left (by omega)] at h5
    have y5 : i < outs.length := by omega
    have y6 : i < la - n := by omega
    have y7 : (i : Int) < ((la - n : Nat) : Int) := by omega
    have y8 : (i : Int) < (la : Int) - (n : Int) := by omega
    have w9 : IntKind.i64.wrap ((i : Int) - 1) = (i : Int) - 1 := wrap_i64 (by omega) (by omega)
    -- the end of the round
    have done : ∀ (e3 : Env) (xs : List Nat) (q : Nat), q < 1000000000 → xs.length = la → (∀ d, d ∈ xs → d < 1000000000) → xs.take i = as.take i → valP (xs.drop i) + q * b = X → valP (xs.drop i) < b → e3 6 = e 6 → e3 7 = e 7 → e3 8 = e 8 → e3 9 = e 9 → e3 10 = e 10 → e3 11 = .int .i64 ((i : Int) - 1) → ∀ ρ3 : Store, ρ3 = (ρ.set ida ⟨1, nums .u64 xs, true⟩).set ido ⟨1, nums .u64 (outs.set i q), true⟩ → R .nor e3 ρ3 := by
      rintro e3 xs q hq hxl hxd hxt hxv hxb j6 j7 j8 j9 j10 j11 ρ3 rfl
      refine hnor i _ _ (by omega) ⟨xs, outs.set i q, by omega, by simp [Keep, j6, j7, j8, j9, j10], j11, ?_, ?_, ?_, by simpa using grl, hxl, by simpa using glo, hxd, ?_, hxb, ?_⟩
      · rw [List.getElem?_set_ne (Ne.symm n2)]; simp [hidal]
      · simp [hidol]
      · intro j m1 m2
        rw [List.getElem?_set_ne (Ne.symm m2), List.getElem?_set_ne (Ne.symm m1)]; exact gr j m1 m2
      · intro dd hd
        rcases List.mem_or_eq_of_mem_set hd with h | h
        · exact god dd h
        · omega
      · rw [valP_split xs i (by omega), hxt, List.drop_eq_getElem_cons (l := outs.set i q) (by simpa using y5), List.getElem_set_self, List.drop_set_of_lt (by omega)]
        simp only [valP]
        rw [sp0, Nat.pow_succ] at gv
        rw [← gv, ← hxv]
        clear hQ hnor hex hret
        generalize valP (outs.drop (i + 1)) = O
        generalize valP (xs.drop i) = W
        generalize valP (as.take i) = U
        generalize 1000000000 ^ i = P
        grind
    have hs1 : ∀ t : Tok, (ρ.set ida t)[ida]? = some t := fun t => by simp [hidal]
    have hs2 : ∀ t : Tok, (ρ.set ida t)[ido]? = some ⟨1, nums .u64 outs, true⟩ := fun t => by rw [List.getElem?_set_ne n2]; exact go
    have hs3 : ∀ t : Tok, (ρ.set ida t)[idb]? = some ⟨1, nums .u64 bs, l2⟩ := fun t => by rw [List.getElem?_set_ne (Ne.symm n1)]; exact gb
    by_cases hbo0 : bo = 0
    · subst hbo0
      rw [Nat.mul_zero, Nat.add_zero] at hXX
      simp [Nat.beq, f7, f8, f9, f10, f11, g13, h7, h8, h9, h10, hs1, hs2, y5, y6, y7, y8, nCells, spliceAt, nums_set, w9]
      refine done _ as1 g hgB (by omega) a1d so1 (by rw [hX1]; exact hXX) ?_ (by simp [Nat.beq, f6]) (by simp [Nat.beq, f7, h7]) (by simp [Nat.beq, f8, h8]) (by simp [Nat.beq, f9, h9]) (by simp [Nat.beq, f10, h10]) (by simp [Nat.beq]) _ rfl
      rw [hX1]
      have : (g + 1) * b = g * b + b := by grind
      have hPg2 : X < (g + 1) * b := hPg
      omega
    · have hbo1 : bo = 1 := by omega
      subst hbo1
      have hX1lt : X1 < 1000000000 ^ (n + 1) := by rw [← hX1]; exact hwin as1 (by omega) a1d so2
      obtain ⟨s1, s2, s3⟩ := kn_step hPg hnear (by omega)
      have w10 : IntKind.u64.wrap ((g : Int) - 1) = ((g - 1 : Nat) : Int) := by rw [wrap_u64 (by omega) (by omega)]; omega
      simp [Nat.beq, f7, f8, f9, f10, f11, g13, h7, h8, h9, h10, w10]
      refine stepV_gt (back_ev hB (d := d) (as := as1) (bs := bs) (at_ := i) (n := n) (la := la) (hs1 _) (hs3 _) n1 (by omega) hnb hin (by omega) a1d hbs (by omega)) ?_
      rintro v ρ2 ⟨as2, ca, hca, rfl, rfl, a2l, a2d, a2v, a2s⟩
      rw [hbv] at a2v
      obtain ⟨so3, so4⟩ := same_out (i := i) (m := n) a2s
      have sp2 := valP_split as2 i (by omega)
      rw [so3, so1] at sp2
      obtain ⟨X2, hX2⟩ : ∃ X, valP (as2.drop i) = X := ⟨_, rfl⟩
      rw [hX2] at sp2
      have hXX2 : X2 + 1000000000 ^ (n + 1) * ca = X1 + b := by
        rw [sp1, sp2, show i + n + 1 = i + (n + 1) from rfl, Nat.pow_add] at a2v
        have : 1000000000 ^ i * (X2 + 1000000000 ^ (n + 1) * ca) = 1000000000 ^ i * (X1 + b) := by
          clear hQ hnor hex hret done
          generalize 1000000000 ^ i = P at a2v ⊢
          generalize 1000000000 ^ (n + 1) = M at a2v ⊢
          generalize valP (as.take i) = U at a2v
          rw [Nat.mul_add, Nat.mul_add, ← Nat.mul_assoc P M ca]
          omega
        exact Nat.eq_of_mul_eq_mul_left hpi this
      have hX2lt : X2 < 1000000000 ^ (n + 1) := by rw [← hX2]; exact hwin as2 (by omega) a2d (by rw [so4, so2])
      have eg : g * b = (g - 1) * b + b := by
        obtain ⟨g', rfl⟩ : ∃ g', g = g' + 1 := ⟨g - 1, by omega⟩
        simp only [Nat.add_sub_cancel]; grind
      have hca1 : ca = 1 := by
        rcases Nat.lt_or_ge ca 1 with h' | h'
        · have : ca = 0 := by omega
          subst this
          omega
        · omega
      subst hca1
      simp [Nat.beq, f7, f8, f9, f10, f11, g13, h7, h8, h9, h10, hs1, hs2, y5, y6, y7, y8, nCells, spliceAt, nums_set, w9]
      refine done _ as2 (g - 1) (by omega) (by omega) a2d (by rw [so3, so1]) (by rw [hX2]; omega) ?_ (by simp [Nat.beq, f6]) (by simp [Nat.beq, f7, h7]) (by simp [Nat.beq, f8, h8]) (by simp [Nat.beq, f9, h9]) (by simp [Nat.beq, f10, h10]) (by simp [Nat.beq]) _ rfl
      rw [hX2]
      omega

end Go.Proofs.YtkccoijckckhmaaGreatDoor.Ev

namespace Go.Proofs.YtkccoijckckhmaaGreatDoor.Ev
open Go

theorem Pcs.base {ρ0 ρ1 ρ : Store} {v : PV} {n : Nat} (h : Pcs ρ1 ρ v n) (hl : ρ0.length ≤ ρ1.length) : Pcs ρ0 ρ v n := by
  obtain ⟨id, m, ds, h1, h2, h3, h4⟩ := h
  exact ⟨id, m, ds, h1, h2, Nat.le_trans hl h3, h4⟩

theorem Pcs.ext {ρ0 ρ ρ' : Store} {v : PV} {n : Nat} (h : Pcs ρ0 ρ v n) (he : Ext ρ ρ') : Pcs ρ0 ρ' v n := by
  obtain ⟨id, m, ds, h1, h2, h4⟩ := h
  exact ⟨id, m, ds, h1, he.get h2, h4⟩

theorem valP_zero (l : List Nat) : valP (l ++ [0]) = valP l := by simp [valP_append, valP]

theorem tight_lb {ds : List Nat} (ht : Tight ds) (h0 : ds ≠ []) : 1000000000 ^ (ds.length - 1) ≤ valP ds := by
  rcases ht with rfl | ht
  · exact absurd rfl h0
  · have hp : 0 < ds.length := List.length_pos_iff.2 h0
    rw [valP_split ds (ds.length - 1) (by omega), List.drop_eq_getElem_cons (by omega : ds.length - 1 < ds.length)]
    rw [List.getElem?_eq_getElem (by omega : ds.length - 1 < ds.length), Option.getD_some] at ht
    simp only [valP]
    have : 1000000000 ^ (ds.length - 1) * 1 ≤ 1000000000 ^ (ds.length - 1) * (ds[ds.length - 1] + 1000000000 * valP (ds.drop (ds.length - 1 + 1))) := Nat.mul_le_mul_left _ (by omega)
    omega

set_option maxRecDepth 10000
theorem divide_ev {T : Tab} (hV : T.body 191 = some s191) (hA : T.body 194 = some s194) (hB : T.body 192 = some s192) (hM : T.body 190 = some s190)
    (hS : T.body 224 = some s224) (hX : T.body 184 = some s184) (hT : T.body 193 = some s193) {L d idp idq : Nat} {ρ : Store} {ep eq ps qs : List Nat} {l l2 : Bool}
    (hp : ρ[idp]? = some ⟨1, nums .u64 ep, l⟩) (hpe : ps = ep.take ps.length) (hq : ρ[idq]? = some ⟨1, nums .u64 eq, l2⟩) (hqe : qs = eq.take qs.length) (hps : ∀ d, d ∈ ps → d < 1000000000) (hqs : ∀ d, d ∈ qs → d < 1000000000) (hpt : Tight ps) (hqt : Tight qs) (hq2 : 2 ≤ qs.length) (hle : valP qs ≤ valP ps)
    (hl : ps.length ≤ 90000) (hL : 1100000 < L) : Gt (evF T L (d + 4) 191 [.ms idp 1 0 ps.length, .ms idq 1 0 qs.length] ρ) fun v ρ' => Ext ρ ρ' ∧ ∃ v1 v2, v = .tup [v1, v2] ∧ Pcs ρ ρ' v1 (valP ps / valP qs) ∧ Pcs ρ ρ' v2 (valP ps % valP qs) := by
  refine Gt_evF hV rfl fun R hR => ?_
  have hpl : ps.length ≤ ep.length := by
    have := congrArg List.length hpe
    rw [List.length_take] at this; omega
  have hql : qs.length ≤ eq.length := by
    have := congrArg List.length hqe
    rw [List.length_take] at this; omega
  obtain ⟨n, hn⟩ : ∃ n, qs.length = n := ⟨_, rfl⟩
  have hq0 : qs ≠ [] := by intro h; subst h; simp at hq2
  have hqlb := tight_lb hqt hq0
  have hqub := valP_lt qs hqs
  have hpub := valP_lt ps hps
  obtain ⟨Qv, hQv⟩ : ∃ y, valP qs = y := ⟨_, rfl⟩
  obtain ⟨Pv, hPv⟩ : ∃ y, valP ps = y := ⟨_, rfl⟩
  rw [hQv] at hqlb hqub hle
  rw [hPv] at hpub hle
  rw [hn] at hqlb hqub hq2 hql
  have hnp : n ≤ ps.length := by
    have : n - 1 < ps.length := (Nat.pow_lt_pow_iff_right (by omega : 1 < 1000000000)).1 (Nat.lt_of_le_of_lt (Nat.le_trans hqlb hle) hpub)
    omega
  have hp0 : ps ≠ [] := by intro h; subst h; simp at hnp; omega
  have hplb := tight_lb hpt hp0
  rw [hPv] at hplb
  -- the first piece of the divisor
  have hn1 : n - 1 < qs.length := by omega
  obtain ⟨top, htop⟩ : ∃ y, qs[n - 1] = y := ⟨_, rfl⟩
  have htopB : top < 1000000000 := htop ▸ hqs _ (List.getElem_mem hn1)
  have htop0 : 0 < top := by
    rcases hqt with h | h
    · exact absurd h hq0
    · rw [hn, List.getElem?_eq_getElem hn1, Option.getD_some, htop] at h
      omega
  have hqsplit : Qv = valP (qs.take (n - 1)) + 1000000000 ^ (n - 1) * top := by
    have h := valP_take_succ qs (n - 1) hn1
    rw [show n - 1 + 1 = n from by omega, List.take_of_length_le (by omega), hQv, htop] at h
    exact h
  have hqlow : valP (qs.take (n - 1)) < 1000000000 ^ (n - 1) := by
    have h := valP_lt (qs.take (n - 1)) fun d hd => hqs d (List.mem_of_mem_take hd)
    rwa [List.length_take, Nat.min_eq_left (by omega)] at h
  obtain ⟨f, hf⟩ : ∃ f, 1000000000 / (top + 1) = f := ⟨_, rfl⟩
  obtain ⟨hf0, htf⟩ := kn_top htop0 htopB hf.symm
  have hfB : f < 1000000000 := by rw [← hf]; exact Nat.div_lt_self (by omega) (by omega)
  have hQf : Qv * f < 1000000000 * 1000000000 ^ (n - 1) := by
    rcases kn_norm (B := 1000000000) (n := n - 1) (q := Qv) (f := f) (top := top) (by
      have : (top + 1) * 1000000000 ^ (n - 1) = 1000000000 ^ (n - 1) * top + 1000000000 ^ (n - 1) := by grind
      omega) hf.symm with h | h
    · exact h
    · omega
  obtain ⟨W, hW⟩ : ∃ W, 1000000000 ^ (n - 1) = W := ⟨_, rfl⟩
  have hpw : 1000000000 ^ n = 1000000000 * W := by rw [← hW, Nat.mul_comm, ← Nat.pow_succ, Nat.succ_eq_add_one, show n - 1 + 1 = n from by omega]
  obtain ⟨b, hb⟩ : ∃ b, Qv * f = b := ⟨_, rfl⟩
  rw [hb, hW] at hQf
  rw [hW] at hqlb hqsplit hqlow
  have hQb : Qv ≤ b := by rw [← hb]; exact Nat.le_mul_of_pos_right _ hf0
  have hblb : 500000000 * W ≤ b := by
    have h1 : top * f * W ≤ Qv * f := by rw [hqsplit]; have : (valP (qs.take (n - 1)) + W * top) * f = valP (qs.take (n - 1)) * f + top * f * W := by grind
                                         omega
    have h2 : 500000000 * W ≤ top * f * W := Nat.mul_le_mul_right _ htf
    omega
  -- the first operations
  have hne1 : n - 1 < eq.length := by omega
  have htop2 : eq[n - 1] = top := by
    have h := List.getElem?_eq_getElem hn1
    rw [htop, hqe, List.getElem?_take_of_lt (by omega), List.getElem?_eq_getElem hne1] at h
    exact Option.some.inj h
  obtain ⟨nm, hnm⟩ : ∃ y, n - 1 = y := ⟨_, rfl⟩
  have w1 : IntKind.i64.wrap ((n : Int) - 1) = (nm : Int) := by rw [wrap_i64 (by omega) (by omega)]; omega
  have x1 : (nm : Int) < n := by omega
  have x2 : nm < n := by omega
  have x3 : nm < eq.length := by omega
  have z1 : eq[nm] = top := by rw [← htop2]; congr 1; omega
  have w2 : IntKind.u64.wrap ((top : Int) + 1) = (top : Int) + 1 := wrap_u64 (by omega) (by omega)
  have q1 : (1000000000 : Int).tdiv ((top : Int) + 1) = (f : Int) := by rw [Int.tdiv_eq_ediv_of_nonneg (by omega), ← hf]; rfl
  have w3 : IntKind.u64.wrap (f : Int) = f := wrap_u64 (by omega) (by omega)
  have t0 : ¬ ((top : Int) + 1 = 0) := by omega
  simp [s191, Nat.beq, hq, hn, joinCells, w1, x1, x2, x3, z1, w2, q1, w3, t0]
  refine stepV_gt (scaled_ev hS hX hT (d := d) (ps := ps) (.inr ⟨idp, ps.length, ep, l, rfl, hp, hpl, hpe⟩) hps hf0 hfB (by omega) (by omega)) ?_
  rintro v ρ1 ⟨ext1, id1, m1, ds1, rfl, r1, r1l, hm1, hd1, hds1, hv1, ht1⟩
  rw [hPv] at hv1
  have c1 : m1 ≤ 1073741823 := by omega
  simp [Nat.beq, fillElems, nCells, appElems, appTo, r1, c1, hm1]
  -- the dividend's row
  have hnew : List.take m1 (nums .u64 ds1) ++ [[PV.int .u64 0]] = nums .u64 (ds1.take m1 ++ [0]) := by simp [nums]
  rw [hnew]
  obtain ⟨as0, has0⟩ : ∃ y, ds1.take m1 ++ [0] = y := ⟨_, rfl⟩
  have hasl : as0.length = m1 + 1 := by rw [← has0]; simp; omega
  have hasv : valP as0 = Pv * f := by rw [← has0, valP_zero, hv1]
  have hasd : ∀ d, d ∈ as0 → d < 1000000000 := by
    intro d hd
    rw [← has0] at hd
    rcases List.mem_append.1 hd with h | h
    · exact hds1 d (List.mem_of_mem_take h)
    · rw [List.mem_singleton.1 h]; omega
  rw [has0]
  have ext2 : Ext ρ (ρ1.set id1 ⟨1, [], false⟩ ++ [⟨1, nums .u64 as0, true⟩]) := ext1.app r1l _ _
  have hq' := ext2.get hq
  have hla2 : (ρ1.set id1 ⟨1, [], false⟩ ++ [(⟨1, nums .u64 as0, true⟩ : Tok)])[ρ1.length]? = some ⟨1, nums .u64 as0, true⟩ := by rw [List.getElem?_append_right (by simp)]; simp
  refine stepV_gt (scaled_ev hS hX hT (d := d) (ps := qs) (.inr ⟨idq, n, eq, l2, rfl, hq', by omega, by rw [← hn]; exact hqe⟩) hqs hf0 hfB (by omega) (by omega)) ?_
  rintro v ρ3 ⟨ext3, idb, mb, dsb, rfl, r3, r3l, hmb, hdb, hdsb, hvb, htb⟩
  rw [hQv, hb] at hvb
  have hlen2 : (ρ1.set id1 ⟨1, [], false⟩ ++ [(⟨1, nums .u64 as0, true⟩ : Tok)]).length = ρ1.length + 1 := by simp
  rw [hlen2] at r3l
  have hidbl : idb < ρ3.length := Rds.lt r3
  have ra3 := ext3.get hla2
  obtain ⟨ida, hida⟩ : ∃ y, ρ1.length = y := ⟨_, rfl⟩
  rw [hida] at ra3 r3l
  have hρl := ext1.1
  -- as many pieces as the divisor
  have hdbt : ∀ d, d ∈ dsb.take mb → d < 1000000000 := fun d hd => hdsb d (List.mem_of_mem_take hd)
  have hmbn : mb = n := by
    have h := tight_len (k := n - 1) hdbt hvb (by
      rcases htb with h | h
      · left; subst h; rfl
      · rcases Nat.eq_zero_or_pos mb with h0 | h0
        · left; subst h0; rfl
        · right; rw [List.length_take, Nat.min_eq_left hmb, List.getElem?_take_of_lt (by omega)]; exact h) (by rw [hW]; omega) (by rw [Nat.pow_succ, hW, Nat.mul_comm]; exact hQf)
    rw [List.length_take, Nat.min_eq_left hmb] at h
    omega
  subst hmbn
  have hm1p : ps.length ≤ m1 := by
    have h := valP_lt (ds1.take m1) fun d hd => hds1 d (List.mem_of_mem_take hd)
    rw [hv1, List.length_take, Nat.min_eq_left hm1] at h
    have h2 : Pv ≤ Pv * f := Nat.le_mul_of_pos_right _ hf0
    have : ps.length - 1 < m1 := (Nat.pow_lt_pow_iff_right (by omega : 1 < 1000000000)).1 (Nat.lt_of_le_of_lt (Nat.le_trans hplb h2) h)
    omega
  have hm1q : m1 ≤ ps.length + 1 := by
    have hne : ds1.take m1 ≠ [] := by
      intro h
      have := congrArg List.length h
      rw [List.length_take, Nat.min_eq_left hm1] at this
      simp at this
      omega
    have h := tight_lb (ds := ds1.take m1) (.inr (by
      rcases ht1 with h | h
      · omega
      · rw [List.length_take, Nat.min_eq_left hm1, List.getElem?_take_of_lt (by omega)]; exact h)) hne
    rw [hv1, List.length_take, Nat.min_eq_left hm1] at h
    have h2 : Pv * f < 1000000000 ^ (ps.length + 1) := by
      rw [Nat.pow_succ]
      exact Nat.mul_lt_mul_of_lt_of_le hpub (by omega) (by omega)
    have : m1 - 1 < ps.length + 1 := (Nat.pow_lt_pow_iff_right (by omega : 1 < 1000000000)).1 (Nat.lt_of_le_of_lt h h2)
    omega
  have c2 : ¬ ((m1 : Int) + 1 ≤ (ps.length : Int)) := by omega
  have c2' : ¬ (m1 + 1 ≤ ps.length) := by omega
  simp [Nat.beq, hida]
  refine Wk_loop (fun k e' ρ' => ρ' = ρ3 ∧ e' 0 = .ms idp 1 0 ps.length ∧ e' 6 = .int .u64 f ∧ e' 7 = .ms ida 1 0 (m1 + 1) ∧ e' 8 = .ms idb 1 0 mb ∧ e' 9 = .int .i64 mb) 0 (by omega) ⟨rfl, by simp [Nat.beq], by simp [Nat.beq], by simp [Nat.beq], by simp [Nat.beq], by simp [Nat.beq]⟩ ?_
  rintro k e ρ4 ⟨rfl, g0, g6, g7, g8, g9⟩ R2 hnor hex hret
  simp [s191_0, g0, g7, Nat.beq, c2, c2']
  refine hex _ _ _ ?_
  obtain ⟨lo, hlo⟩ : ∃ y, m1 + 1 - mb = y := ⟨_, rfl⟩
  have w5 : IntKind.i64.wrap ((m1 : Int) + 1 - (mb : Int)) = (lo : Int) := by rw [wrap_i64 (by omega) (by omega)]; omega
  have w6 : IntKind.i64.wrap ((lo : Int) - 1) = (lo : Int) - 1 := wrap_i64 (by omega) (by omega)
  have c3 : (lo : Int) ≤ 1073741824 := by omega
  simp [Nat.beq, g7, g8, g9, w5, w6, c3]
  have hidal : ida < ρ4.length := Rds.lt ra3
  have hb1e := valP_take_succ dsb (mb - 1) (by omega)
  rw [show mb - 1 + 1 = mb from by omega, hvb, hW] at hb1e
  have hb1low : valP (dsb.take (mb - 1)) < W := by
    have h := valP_lt (dsb.take (mb - 1)) fun d hd => hdsb d (List.mem_of_mem_take hd)
    rwa [List.length_take, Nat.min_eq_left (by omega), hW] at h
  obtain ⟨b1, hb1⟩ : ∃ y, dsb[mb - 1]?.getD 0 = y := ⟨_, rfl⟩
  have hb1g : dsb[mb - 1]'(by omega) = b1 := by rw [← hb1, List.getElem?_eq_getElem (by omega)]; rfl
  rw [hb1g] at hb1e
  have hb1big : 1000000000 ≤ 2 * b1 := by
    have h : 500000000 * W < (b1 + 1) * W := by
      have : (b1 + 1) * W = W * b1 + W := by grind
      omega
    have := Nat.lt_of_mul_lt_mul_right h
    omega
  have htopa : valP (as0.drop (m1 + 1 - mb)) < valP (dsb.take mb) := by
    rw [hvb]
    have h1 : as0.drop (m1 + 1 - mb) = (ds1.take m1).drop (m1 + 1 - mb) ++ [0] := by
      rw [← has0, List.drop_append_of_le_length (by rw [List.length_take]; omega)]
    rw [h1, valP_zero]
    have h2 := valP_lt ((ds1.take m1).drop (m1 + 1 - mb)) fun d hd => hds1 d (List.mem_of_mem_take (List.mem_of_mem_drop hd))
    rw [List.length_drop, List.length_take, Nat.min_eq_left hm1, show m1 - (m1 + 1 - mb) = mb - 1 from by omega, hW] at h2
    omega
  refine div_in hA hB (d := d + 2) (ida := ida) (idb := idb) (ido := ρ4.length) (la := m1 + 1) (n := mb) (b1 := b1) (b2 := dsb[mb - 2]?.getD 0) (A0 := Pv * f) (as0 := as0) (bs := dsb) (outs0 := List.replicate lo 0) (l2 := true) (by rw [List.getElem?_append_left hidal]; exact ra3) (by rw [List.getElem?_append_left hidbl]; exact r3) (by rw [replicate_nums]; simp) hL (by omega) (by omega) (by omega) hq2 hmb hasl (by simp [hlo]) (by omega) (by omega) hb1 rfl hb1big hasd hdbt
    (fun d hd => by rw [(List.mem_replicate.1 hd).2]; omega) htopa hasv (by simp [Nat.beq, g7]) (by simp [Nat.beq, g8]) (by simp [Nat.beq, g9]) (by simp [Nat.beq, hlo]) (by simp [Nat.beq, hlo]) ?_
  intro e' ρ5 as outs hke sa so sr sl al ol ad od hval hlt
  obtain ⟨f6, f7, f10⟩ : e' 6 = .int .u64 f ∧ e' 7 = .ms ida 1 0 (m1 + 1) ∧ e' 10 = .ms ρ4.length 1 0 lo := by simpa [Keep, Nat.beq, g6, g7] using hke
  rw [hvb] at hval hlt
  rw [hlo] at ol
  simp [Nat.beq, f7, f6, f10]
  refine stepV_gt (trim_ev hT sa (n := m1 + 1) (by omega) (by omega) (by omega)) ?_
  rintro v ρx ⟨rfl, hρx⟩
  subst ρx
  have htl := trimN_le as (m1 + 1)
  have htlen : (as.take (trimN as (m1 + 1))).length = trimN as (m1 + 1) := by rw [List.length_take]; omega
  have htv : valP (as.take (trimN as (m1 + 1))) = valP as := by rw [trimN_val as (m1 + 1) (by omega), List.take_of_length_le (by omega)]
  obtain ⟨tt, htt⟩ : ∃ y, trimN as (m1 + 1) = y := ⟨_, rfl⟩
  rw [htt] at htlen htv htl
  simp [Nat.beq, f6, htt]
  have hsm := small_ev hM hT (d := d + 1) (L := L) (n := f) (ps := as.take tt) sa (by rw [htlen]) (fun d hd => ad d (List.mem_of_mem_take hd)) hf0 (by omega) (by rw [htlen]; omega) (by omega)
  rw [htlen] at hsm
  refine stepV_gt hsm ?_
  rintro v ρ6 ⟨ext6, v1, rfl, hv1p⟩
  rw [htv] at hv1p
  simp [Nat.beq, f10]
  refine stepV_gt (trim_ev hT (ext6.get so) (n := lo) (by omega) (by omega) (by omega)) ?_
  rintro v ρx ⟨rfl, hρx⟩
  subst ρx
  simp [Nat.beq]
  have hend := div_end hf0 (P := Pv) (Q := Qv) (O := valP outs) (A := valP as) (by rw [hb]; omega) (by rw [hb]; exact hlt)
  have hext5 : Ext ρ ρ5 := by
    have he4 : Ext ρ (ρ4 ++ [(⟨1, List.replicate lo [.int .u64 0], true⟩ : Tok)]) := (ext2.trans ext3).trans (Ext.push _ _)
    refine ⟨by rw [sl]; exact he4.1, fun i hi => ?_⟩
    have := he4.1
    rw [sr i (by omega) (by have := (ext2.trans ext3).1; omega)]
    exact he4.2 i hi
  rw [hPv, hQv] at hR
  refine hR _ _ ⟨hext5.trans ext6, _, _, rfl, ?_, ?_⟩
  · refine ⟨ρ4.length, _, outs, rfl, ext6.get so, (ext2.trans ext3).1, ?_, by omega, od, ?_, trimN_top _ _⟩
    · have := trimN_le outs lo; omega
    · rw [trimN_val outs lo (by omega), ← ol, List.take_length, hend.1]
  · rw [hend.2] at hv1p
    exact hv1p.base (by have := hext5.1; omega)

end Go.Proofs.YtkccoijckckhmaaGreatDoor.Ev
