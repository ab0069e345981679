/-
  Lists of primes, and intervals over them: the contracts of their checks.
  Intervals over a list of primes: the contracts of their checks.
  Lists of targets: the contracts of their checks, the program's and the document's.
  The checks of lists of targets: the program's and the document's give the same.
  Lists of targets compared: the program's way and the document's.
  DamageChecks: the law by its contract.
-/
import Derived.Test.YtkccoijckckhmaaGreatDoorM9
set_option linter.all false

namespace Go.Proofs.YtkccoijckckhmaaGreatDoor.Ev
open Go Go.RowKit

/-- A slice of ints. -/
inductive IntsP : PV → List Int → Prop
  | z (b : Bool) : IntsP (.z b) []
  | sl (l : List Int) : IntsP (.sl 1 (l.map fun n => [.int .i64 n])) l

theorem IntsP.pure {p : PV} {l : List Int} (h : IntsP p l) : Pure p := by
  cases h with
  | z b => exact .z b
  | sl l =>
    refine .sl _ _ fun cs hc x hx => ?_
    obtain ⟨d, _, rfl⟩ := List.mem_map.1 hc
    rw [List.mem_singleton.1 hx]; exact .int _ _

def intsE : List (List PV) → Option (List Int)
  | [] => some []
  | [.int .i64 n] :: es => match intsE es with | some l => some (n :: l) | none => none
  | _ => none
def intsOf : PV → Option (List Int)
  | .z _ => some []
  | .sl 1 es => intsE es
  | _ => none
theorem intsE_some : ∀ {es : List (List PV)} {l : List Int}, intsE es = some l → es = l.map fun n => [.int .i64 n] := by
  intro es
  induction es using intsE.induct with
  | case1 => intro l h; simp only [intsE] at h; cases h; rfl
  | case2 n es ls h1 ih => intro l h; simp only [intsE, h1] at h; cases h; rw [ih h1]; rfl
  | case3 n es h1 ih => intro l h; simp only [intsE, h1] at h; cases h
  | case4 => intro l h; unfold intsE at h; simp_all
theorem intsE_map (l : List Int) : intsE (l.map fun n => [PV.int .i64 n]) = some l := by
  induction l with
  | nil => rfl
  | cons n l ih => simp only [List.map_cons, intsE, ih]
theorem intsOf_some {p : PV} {l : List Int} (h : intsOf p = some l) : IntsP p l := by
  unfold intsOf at h
  split at h
  · cases h; exact .z _
  · rw [intsE_some h]; exact .sl l
  · cases h
theorem IntsP.of {p : PV} {l : List Int} (h : IntsP p l) : intsOf p = some l := by
  cases h with
  | z b => rfl
  | sl l => exact intsE_map l

def primesM : Memo := (List.range 96).map fun i => ([.int .i64 ((i + 2 : Nat) : Int)], .bool (Nat.all (i + 2) fun d _ => Nat.blt d 2 || !(Nat.beq ((i + 2) % d) 0)))

theorem primesM_run : runsTo (tabR base6 0) 4000 60 101 primesM = true := by kernel_rfl

def gPrime : List PV → Option PV
  | [.int .i64 n] => if n < 2 ∨ 97 < n then some (.bool false) else gMemo 12 primesM [.int .i64 n]
  | _ => none

set_option maxRecDepth 10000 in
theorem prime_ok : ∀ args r, gPrime args = some r → ∃ L d n, evPure (tabR base6 0) L d n 101 args = some r := by
  intro args r h
  have hB : (tabR base6 0).body 101 = some s101 := rfl
  unfold gPrime at h
  split at h
  · rename_i n
    split at h
    · rename_i hn
      cases h
      refine pure_of (L := 1) (d := 1) (Gt_evF hB rfl fun R hR => ?_) fun _ => rfl
      by_cases h1 : n < 2
      · simp [s101, Nat.beq, h1]
        exact hR _ _ rfl
      · have h2 : 97 < n := by omega
        simp [s101, Nat.beq, h1, h2]
        exact hR _ _ rfl
    · exact ⟨_, _, _, (runsTo_mem primesM_run (gMemo_some h)).2⟩
  · cases h
theorem k101 : Contract Tryz.prog 101 gPrime :=
  contract_of (T := tabR base6 0) mixed (tabR_ok base6_ok 0) (bodies_ok (tabR_body base6 0)) (enter_of (s := s101) rfl)
    (fun args r h => by
      unfold gPrime at h; split at h
      · exact pure1 (.int _ _)
      · cases h) prime_ok

def isP (n : Int) : Bool := match gPrime [.int .i64 n] with | some (.bool b) => b | _ => false
theorem gPrime_is (n : Int) : gPrime [.int .i64 n] = some (.bool (isP n)) := by
  unfold isP
  by_cases h : n < 2 ∨ 97 < n
  · have : gPrime [.int .i64 n] = some (.bool false) := by
      show (if n < 2 ∨ 97 < n then some (PV.bool false) else _) = _
      rw [if_pos h]
    rw [this]
  · have e : gPrime [.int .i64 n] = gMemo 12 primesM [.int .i64 n] := by
      show (if n < 2 ∨ 97 < n then some (PV.bool false) else _) = _
      rw [if_neg h]
    rw [e]
    obtain ⟨m, rfl⟩ : ∃ m : Nat, n = (m : Int) := ⟨n.toNat, by omega⟩
    have key : ((List.range 98).all fun m => Nat.blt m 2 || (match gMemo 12 primesM [.int .i64 (m : Int)] with | some (.bool _) => true | _ => false)) = true := by kernel_rfl
    have h1 := List.all_eq_true.1 key m (List.mem_range.2 (by omega))
    rw [Bool.or_eq_true, Nat.blt_eq] at h1
    rcases h1 with h1 | h1
    · omega
    · split at h1
      · rename_i b hb; rw [hb]
      · cases h1

/-- The error of a list of primes. -/
def ePrimeGo : Option Int → List Int → Int
  | _, [] => 0
  | q, n :: r => if isP n = false then 25 else if (match q with | some m => decide (n ≤ m) | none => false) = true then 6 else ePrimeGo (some n) r
def ePrime (l : List Int) : Int := if l.length = 0 then 13 else if 6 < l.length then 4 else ePrimeGo none l

def gPCheck : List PV → Option PV
  | [p] => match intsOf p with
    | some l => some (.int .i64 (ePrime l))
    | none => none
  | _ => none


theorem go_take (l : List Int) (i : Nat) (h : i < l.length) (q : Option Int) : ePrimeGo q (l.drop i) = if isP l[i] = false then 25 else if (match q with | some m => decide (l[i] ≤ m) | none => false) = true then 6 else ePrimeGo (some l[i]) (l.drop (i + 1)) := by
  rw [List.drop_eq_getElem_cons h]
  rfl

section
variable {T : Tab} (hb : T.body = bodies.get)
include hb
set_option maxRecDepth 10000

theorem pcheck_ok (h1 : T.pure 101 = some gPrime) : ∀ args r, gPCheck args = some r → ∃ L d n, evPure T L d n 59 args = some r := by
  intro args r hg
  have hB : T.body 59 = some s59 := by rw [hb]; rfl
  unfold gPCheck at hg
  split at hg
  · rename_i p
    split at hg
    · rename_i l hl
      cases hg
      have hp := intsOf_some hl
      refine pure_of (L := 10) (d := 1) (Gt_evF hB rfl fun R hR => ?_) fun _ => rfl
      cases hp with
      | z b =>
        simp [s59, Nat.beq]
        exact hR _ _ rfl
      | sl l =>
        by_cases h0 : l.length = 0
        · simp [s59, Nat.beq, h0]
          refine hR _ _ ?_
          simp [ePrime, h0]
        · by_cases h6 : 6 < l.length
          · have h6' : (6 : Int) < (l.length : Int) := by omega
            have h0' : ¬ (l.length : Int) = 0 := by omega
            simp [s59, Nat.beq, h0, h0', h6, h6']
            refine hR _ _ ?_
            simp [ePrime, h0, h6]
          · have h6' : ¬ (6 : Int) < (l.length : Int) := by omega
            have h0' : ¬ (l.length : Int) = 0 := by omega
            have hE : ePrime l = ePrimeGo none l := by simp [ePrime, h0, h6]
            rw [hE] at hR
            simp [s59, Nat.beq, h0, h0', h6, h6']
            refine Wk_loop (fun k e ρ1 => ∃ (i : Nat) (q : Option Int), k = l.length - i ∧ i ≤ l.length ∧ ρ1 = [] ∧ e 0 = .sl 1 (l.map fun n => [.int .i64 n]) ∧ e 13 = .sl 1 (l.map fun n => [.int .i64 n]) ∧ e 14 = .int .i64 l.length ∧ e 15 = .int .i64 (i : Nat) ∧ (q = if i = 0 then none else l[i - 1]?) ∧ ePrimeGo none l = ePrimeGo q (l.drop i)) l.length (by omega)
              ⟨0, none, by simp, by omega, rfl, by simp [Nat.beq], by simp [Nat.beq], by simp [Nat.beq], by simp [Nat.beq], rfl, rfl⟩ ?_
            rintro k e ρ1 ⟨i, q, rfl, hi, rfl, g0, g13, g14, g15, hq, hgo⟩ R2 hnor hex hret
            by_cases hil : i < l.length
            · have hil' : (i : Int) < (l.length : Int) := by omega
              have hget : l[i]? = some l[i] := List.getElem?_eq_getElem hil
              have w1 : IntKind.i64.wrap ((i : Int) + 1) = ((i + 1 : Nat) : Int) := by rw [wrap_i64 (by omega) (by omega)]; omega
              rw [go_take l i hil] at hgo
              obtain ⟨x, hx⟩ : ∃ x, l[i] = x := ⟨_, rfl⟩
              rw [hx] at hget hgo
              have hpx := gPrime_is x
              cases hix : isP x with
              | false =>
                rw [hix] at hpx
                rw [if_pos hix] at hgo
                simp [s59_0, g0, g13, g14, g15, Nat.beq, joinCells, hil, hil', hx, hget, h1, hpx]
                refine hret _ _ ?_
                simp [Nat.beq]
                exact hR _ _ (by rw [hgo])
              | true =>
                rw [hix] at hpx
                rw [if_neg (by rw [hix]; exact Bool.noConfusion)] at hgo
                by_cases hi0 : i = 0
                · subst hi0
                  simp at hq; subst hq
                  rw [if_neg (by simp)] at hgo
                  have w1' : IntKind.i64.wrap 1 = 1 := rfl
                  simp [s59_0, g0, g13, g14, g15, Nat.beq, joinCells, hil, hil', hx, hget, h1, hpx]
                  refine hnor (l.length - 1) _ _ (by omega) ⟨1, some x, rfl, by omega, rfl, by simp [Nat.beq, g0], by simp [Nat.beq, g13], by simp [Nat.beq, g14], by simp [Nat.beq, w1'], by simp [hx, hget], hgo⟩
                · obtain ⟨j, hji⟩ : ∃ j, i - 1 = j := ⟨_, rfl⟩
                  have hj : j < l.length := by omega
                  obtain ⟨y, hy⟩ : ∃ y, l[j] = y := ⟨_, rfl⟩
                  have hgetj : l[j]? = some y := by rw [List.getElem?_eq_getElem hj, hy]
                  rw [if_neg hi0, hji, hgetj] at hq
                  subst hq
                  simp only [decide_eq_true_eq] at hgo
                  have hj0 : (0 : Int) < (i : Int) := by omega
                  have hj00 : 0 < i := by omega
                  have w2 : IntKind.i64.wrap ((i : Int) - 1) = (j : Int) := by rw [wrap_i64 (by omega) (by omega)]; omega
                  by_cases hxy : x ≤ y
                  · rw [if_pos hxy] at hgo
                    simp [s59_0, g0, g13, g14, g15, Nat.beq, joinCells, hil, hil', hx, hget, h1, hpx, hj0, hj00, w2, hy, hgetj, hj, hxy]
                    refine hret _ _ ?_
                    simp [Nat.beq]
                    exact hR _ _ (by rw [hgo])
                  · rw [if_neg hxy] at hgo
                    simp [s59_0, g0, g13, g14, g15, Nat.beq, joinCells, hil, hil', hx, hget, h1, hpx, hj0, hj00, w2, hy, hgetj, hj, hxy]
                    refine hnor (l.length - (i + 1)) _ _ (by omega) ⟨i + 1, some x, rfl, by omega, rfl, by simp [Nat.beq, g0], by simp [Nat.beq, g13], by simp [Nat.beq, g14], by simp [Nat.beq, w1], by simp [hx, hget], hgo⟩
            · have hil' : ¬ (i : Int) < (l.length : Int) := by omega
              simp [s59_0, g0, g13, g14, g15, Nat.beq, hil, hil']
              refine hex _ _ _ ?_
              simp [Nat.beq]
              refine hR _ _ ?_
              rw [hgo, List.drop_of_length_le (by omega)]
              rfl
    · cases hg
  · cases hg

end

end Go.Proofs.YtkccoijckckhmaaGreatDoor.Ev

namespace Go.Proofs.YtkccoijckckhmaaGreatDoor.Ev
open Go Go.RowKit

/-- Rows of ints. -/
inductive RowsP : PV → List (PV × List Int) → Prop
  | z (b : Bool) : RowsP (.z b) []
  | sl (l : List (PV × List Int)) (h : ∀ x, x ∈ l → IntsP x.1 x.2) : RowsP (.sl 1 (l.map fun x => [x.1])) l

def rowsE : List (List PV) → Option (List (PV × List Int))
  | [] => some []
  | [x] :: es => match intsOf x, rowsE es with | some n, some l => some ((x, n) :: l) | _, _ => none
  | _ => none
def rowsOf : PV → Option (List (PV × List Int))
  | .z _ => some []
  | .sl 1 es => rowsE es
  | _ => none
theorem rowsE_some : ∀ {es : List (List PV)} {l : List (PV × List Int)}, rowsE es = some l → es = (l.map fun x => [x.1]) ∧ ∀ x, x ∈ l → IntsP x.1 x.2 := by
  intro es
  induction es using rowsE.induct with
  | case1 => intro l h; simp only [rowsE] at h; cases h; exact ⟨rfl, fun x hx => by cases hx⟩
  | case2 x es n ls h2 h1 ih =>
    intro l h
    simp only [rowsE, h1, h2] at h
    cases h
    obtain ⟨e1, e2⟩ := ih (by assumption)
    refine ⟨by rw [e1]; rfl, fun y hy => ?_⟩
    rcases List.mem_cons.1 hy with rfl | hy
    · exact intsOf_some (by assumption)
    · exact e2 y hy
  | case3 x es h1 ih =>
    intro l h
    simp only [rowsE] at h
    cases h
  | case4 => intro l h; unfold rowsE at h; simp_all
theorem rowsE_map : ∀ (l : List (PV × List Int)), (∀ x, x ∈ l → IntsP x.1 x.2) → rowsE (l.map fun x => [x.1]) = some l
  | [], _ => rfl
  | (x, n) :: l, h => by
    simp only [List.map_cons, rowsE, rowsE_map l fun y hy => h y (List.mem_cons_of_mem _ hy), (h _ (List.mem_cons_self ..)).of]
theorem rowsOf_some {p : PV} {l : List (PV × List Int)} (h : rowsOf p = some l) : RowsP p l := by
  unfold rowsOf at h
  split at h
  · cases h; exact .z _
  · obtain ⟨h1, h2⟩ := rowsE_some h; rw [h1]; exact .sl l h2
  · cases h
theorem RowsP.of {p : PV} {l : List (PV × List Int)} (h : RowsP p l) : rowsOf p = some l := by
  cases h with
  | z b => rfl
  | sl l h => exact rowsE_map l h
theorem RowsP.pure {p : PV} {l : List (PV × List Int)} (h : RowsP p l) : Pure p := by
  cases h with
  | z b => exact .z b
  | sl l h =>
    refine .sl _ _ fun cs hc x hx => ?_
    obtain ⟨d, hd, rfl⟩ := List.mem_map.1 hc
    rw [List.mem_singleton.1 hx]; exact (h d hd).pure

def bigE (n : Int) : Bool := decide (1000 < n) || decide (n < -1000)
/-- The error of an interval over so many primes. -/
def eRow (k : Nat) (x : List Int) : Int := if x.length = k then (if x.any bigE = true then 4 else 0) else 5
def eRows (k : Nat) : List (PV × List Int) → Int
  | [] => 0
  | x :: l => if eRow k x.2 = 0 then eRows k l else eRow k x.2
def eMonzos (p : List Int) (l : List (PV × List Int)) : Int := if ePrime p = 0 then eRows p.length l else ePrime p

def gMAll : List PV → Option PV
  | [p, r] => match intsOf p, rowsOf r with
    | some l, some rows => if rows.length ≤ 1000000 then some (.int .i64 (eMonzos l rows)) else none
    | _, _ => none
  | _ => none

def eMonzo (p x : List Int) : Int := if ePrime p = 0 then eRow p.length x else ePrime p
def gMCheck : List PV → Option PV
  | [p, x] => match intsOf p, intsOf x with
    | some l, some n => some (.int .i64 (eMonzo l n))
    | _, _ => none
  | _ => none

theorem ePrime_zero {l : List Int} (h : ePrime l = 0) : 1 ≤ l.length ∧ l.length ≤ 6 := by
  unfold ePrime at h
  split at h
  · cases h
  · split at h
    · cases h
    · omega

theorem pure_pcheck : ∀ args r, gPCheck args = some r → ∀ p, p ∈ args → Pure p := fun args r h => by
  unfold gPCheck at h; split at h
  · split at h
    · rename_i hl; exact pure1 (intsOf_some hl).pure
    · cases h
  · cases h
theorem pure_mall : ∀ args r, gMAll args = some r → ∀ p, p ∈ args → Pure p := fun args r h => by
  unfold gMAll at h; split at h
  · split at h
    · rename_i h1 h2; exact pure2 (intsOf_some h1).pure (rowsOf_some h2).pure
    · cases h
  · cases h
theorem pure_mcheck : ∀ args r, gMCheck args = some r → ∀ p, p ∈ args → Pure p := fun args r h => by
  unfold gMCheck at h; split at h
  · split at h
    · rename_i h1 h2; exact pure2 (intsOf_some h1).pure (intsOf_some h2).pure
    · cases h
  · cases h

section
variable {T : Tab} (hb : T.body = bodies.get)
include hb
set_option maxRecDepth 10000

theorem mall_ok (h1 : T.pure 59 = some gPCheck) : ∀ args r, gMAll args = some r → ∃ L d n, evPure T L d n 63 args = some r := by
  intro args r hg
  have hB : T.body 63 = some s63 := by rw [hb]; rfl
  unfold gMAll at hg
  split at hg
  · rename_i p rp
    split at hg
    · rename_i l rows hl hr
      split at hg
      · rename_i hlen
        cases hg
        have hp : gPCheck [p] = some (.int .i64 (ePrime l)) := by simp only [gPCheck, hl]
        refine pure_of (L := 2000000) (d := 1) (Gt_evF hB rfl fun R hR => ?_) fun _ => rfl
        unfold eMonzos at hR
        by_cases hE : ePrime l = 0
        · rw [if_pos hE] at hR
          rw [hE] at hp
          obtain ⟨l1, l6⟩ := ePrime_zero hE
          cases rowsOf_some hr with
          | z b =>
            cases intsOf_some hl with
            | z b => simp at l1
            | sl _ =>
              simp [s63, Nat.beq, h1, hp]
              refine Wk_loop (fun k e ρ1 => k = 0 ∧ ρ1 = [] ∧ e 16 = .int .i64 0 ∧ e 17 = .int .i64 0) 0 (by omega) ⟨rfl, rfl, by simp [Nat.beq], by simp [Nat.beq]⟩ ?_
              rintro k e ρ1 ⟨rfl, rfl, g16, g17⟩ R2 hnor hex hret
              simp [s63_0, Nat.beq, g16, g17]
              refine hex _ _ _ ?_
              simp [Nat.beq]
              exact hR _ _ rfl
          | sl _ hrows =>
            cases intsOf_some hl with
            | z b => simp at l1
            | sl _ =>
              simp [s63, Nat.beq, h1, hp]
              refine Wk_loop (fun k e ρ1 => ∃ i : Nat, k = rows.length - i ∧ i ≤ rows.length ∧ ρ1 = [] ∧ e 0 = .sl 1 (l.map fun n => [.int .i64 n]) ∧ e 15 = .sl 1 (rows.map fun x => [x.1]) ∧ e 16 = .int .i64 rows.length ∧ e 17 = .int .i64 (i : Nat) ∧ eRows l.length rows = eRows l.length (rows.drop i)) rows.length (by omega)
                ⟨0, by simp, by omega, rfl, by simp [Nat.beq], by simp [Nat.beq], by simp [Nat.beq], by simp [Nat.beq], rfl⟩ ?_
              rintro k e ρ1 ⟨i, rfl, hi, rfl, g0, g15, g16, g17, hgo⟩ R2 hnor hex hret
              by_cases hil : i < rows.length
              · have hil' : (i : Int) < (rows.length : Int) := by omega
                have hget : rows[i]? = some rows[i] := List.getElem?_eq_getElem hil
                have w1 : IntKind.i64.wrap ((i : Int) + 1) = ((i + 1 : Nat) : Int) := by rw [wrap_i64 (by omega) (by omega)]; omega
                rw [List.drop_eq_getElem_cons hil] at hgo
                have hip := hrows rows[i] (List.getElem_mem hil)
                obtain ⟨⟨q, ns⟩, hx⟩ : ∃ x, rows[i] = x := ⟨_, rfl⟩
                rw [hx] at hget hgo hip
                replace hip : IntsP q ns := hip
                simp only [eRows] at hgo
                by_cases hne : ns.length = l.length
                · have hne' : (ns.length : Int) = (l.length : Int) := by omega
                  cases hip with
                  | z b => simp at hne; omega
                  | sl _ =>
                    simp [s63_0, Nat.beq, joinCells, g0, g15, g16, g17, hil, hil', hx, hget, hne, hne']
                    refine Wk_loop (fun k e ρ1 => ∃ j : Nat, k = ns.length - j ∧ j ≤ ns.length ∧ ρ1 = [] ∧ e 0 = .sl 1 (l.map fun n => [.int .i64 n]) ∧ e 15 = .sl 1 (rows.map fun x => [x.1]) ∧ e 16 = .int .i64 rows.length ∧ e 17 = .int .i64 (i : Nat) ∧
                      e 26 = .sl 1 (ns.map fun n => [.int .i64 n]) ∧ e 27 = .int .i64 ns.length ∧ e 28 = .int .i64 (j : Nat) ∧ ns.any bigE = (ns.drop j).any bigE) ns.length (by omega)
                      ⟨0, by simp, by omega, rfl, by simp [Nat.beq, g0], by simp [Nat.beq, g15], by simp [Nat.beq, g16], by simp [Nat.beq, g17], by simp [Nat.beq], by simp [Nat.beq, hne], by simp [Nat.beq], rfl⟩ ?_
                    rintro k e ρ1 ⟨j, rfl, hj, rfl, g0, g15, g16, g17, g26, g27, g28, hj2⟩ R3 hnor3 hex3 hret3
                    by_cases hjl : j < ns.length
                    · have hjl' : (j : Int) < (ns.length : Int) := by omega
                      have hgetj : ns[j]? = some ns[j] := List.getElem?_eq_getElem hjl
                      have w2 : IntKind.i64.wrap ((j : Int) + 1) = ((j + 1 : Nat) : Int) := by rw [wrap_i64 (by omega) (by omega)]; omega
                      rw [List.drop_eq_getElem_cons hjl, List.any_cons] at hj2
                      obtain ⟨y, hy⟩ : ∃ y, ns[j] = y := ⟨_, rfl⟩
                      rw [hy] at hgetj hj2
                      by_cases c1 : 1000 < y
                      · have he : eRow l.length ns = 4 := by unfold eRow; rw [if_pos hne, hj2]; simp [bigE, c1]
                        rw [he, if_neg (by decide)] at hgo
                        simp [s63_1, Nat.beq, joinCells, g26, g27, g28, hjl, hjl', hy, hgetj, c1]
                        refine hret3 _ _ ?_
                        simp [Nat.beq]
                        refine hret _ _ ?_
                        simp [Nat.beq]
                        exact hR _ _ (by rw [hgo])
                      · by_cases c2 : y < -1000
                        · have he : eRow l.length ns = 4 := by unfold eRow; rw [if_pos hne, hj2]; simp [bigE, c2]
                          rw [he, if_neg (by decide)] at hgo
                          simp [s63_1, Nat.beq, joinCells, g26, g27, g28, hjl, hjl', hy, hgetj, c1, c2]
                          refine hret3 _ _ ?_
                          simp [Nat.beq]
                          refine hret _ _ ?_
                          simp [Nat.beq]
                          exact hR _ _ (by rw [hgo])
                        · have hbig : bigE y = false := by simp [bigE, c1, c2]
                          rw [hbig, Bool.false_or] at hj2
                          simp [s63_1, Nat.beq, joinCells, g26, g27, g28, hjl, hjl', hy, hgetj, c1, c2]
                          refine hnor3 (ns.length - (j + 1)) _ _ (by omega) ⟨j + 1, rfl, by omega, rfl, by simp [Nat.beq, g0], by simp [Nat.beq, g15], by simp [Nat.beq, g16], by simp [Nat.beq, g17], by simp [Nat.beq, g26], by simp [Nat.beq, g27], by simp [Nat.beq, w2], hj2⟩
                    · have hjl' : ¬ (j : Int) < (ns.length : Int) := by omega
                      rw [List.drop_of_length_le (by omega), List.any_nil] at hj2
                      have he : eRow l.length ns = 0 := by unfold eRow; rw [if_pos hne, hj2]; simp
                      rw [he, if_pos rfl] at hgo
                      simp [s63_1, Nat.beq, g26, g27, g28, hjl, hjl']
                      refine hex3 _ _ _ ?_
                      simp [Nat.beq, g17]
                      refine hnor (rows.length - (i + 1)) _ _ (by omega) ⟨i + 1, rfl, by omega, rfl, by simp [Nat.beq, g0], by simp [Nat.beq, g15], by simp [Nat.beq, g16], by simp [Nat.beq, w1], hgo⟩
                · have hne' : ¬ (ns.length : Int) = (l.length : Int) := by omega
                  have he : eRow l.length ns = 5 := by unfold eRow; rw [if_neg hne]
                  rw [he, if_neg (by decide)] at hgo
                  cases hip with
                  | z b =>
                    have hn0 : ¬ l.length = 0 := by omega
                    have hn1 : ¬ 0 = l.length := by omega
                    have hn0' : ¬ (0 : Int) = (l.length : Int) := by omega
                    simp [s63_0, Nat.beq, joinCells, g0, g15, g16, g17, hil, hil', hx, hget, hn0, hn0', hn1]
                    refine hret _ _ ?_
                    simp [Nat.beq]
                    exact hR _ _ (by rw [hgo])
                  | sl _ =>
                    simp [s63_0, Nat.beq, joinCells, g0, g15, g16, g17, hil, hil', hx, hget, hne, hne']
                    refine hret _ _ ?_
                    simp [Nat.beq]
                    exact hR _ _ (by rw [hgo])
              · have hil' : ¬ (i : Int) < (rows.length : Int) := by omega
                simp [s63_0, g0, g15, g16, g17, Nat.beq, hil, hil']
                refine hex _ _ _ ?_
                simp [Nat.beq]
                refine hR _ _ ?_
                rw [hgo, List.drop_of_length_le (by omega)]
                rfl
        · rw [if_neg hE] at hR
          obtain ⟨x, hx⟩ : ∃ x, ePrime l = x := ⟨_, rfl⟩
          rw [hx] at hp hR hE
          cases intsOf_some hl <;> cases rowsOf_some hr <;> (simp [s63, Nat.beq, h1, hp, hE]; exact hR _ _ rfl)
      · cases hg
    · cases hg
  · cases hg

theorem mcheck_ok (h1 : T.pure 63 = some gMAll) : ∀ args r, gMCheck args = some r → ∃ L d n, evPure T L d n 33 args = some r := by
  intro args r hg
  have hB : T.body 33 = some s33 := by rw [hb]; rfl
  unfold gMCheck at hg
  split at hg
  · rename_i p x
    split at hg
    · rename_i l ns hl hx
      cases hg
      have he : eMonzos l [(x, ns)] = eMonzo l ns := by
        unfold eMonzos eMonzo
        congr 1
        simp only [eRows]
        split
        · rename_i h; rw [h]
        · rfl
      have hp : gMAll [p, .sl 1 [[x]]] = some (.int .i64 (eMonzo l ns)) := by
        have hr : rowsOf (.sl 1 [[x]]) = some [(x, ns)] := by simp only [rowsOf, rowsE, hx]
        simp only [gMAll, hl, hr, he]
        rw [if_pos (by simp)]
      refine pure_of (L := 1) (d := 1) (Gt_evF hB rfl fun R hR => ?_) fun _ => rfl
      cases intsOf_some hl <;> cases intsOf_some hx <;> (simp [s33, Nat.beq, fillElems, nCells, h1, hp]; exact hR _ _ rfl)
    · cases hg
  · cases hg

end

theorem k59 : Contract Tryz.prog 59 gPCheck :=
  level (b := .node .nil 101 gPrime .nil) ⟨trivial, k101, trivial⟩ (enter_of (s := s59) rfl) pure_pcheck (pcheck_ok rfl rfl)
theorem k63 : Contract Tryz.prog 63 gMAll :=
  level (b := .node .nil 59 gPCheck .nil) ⟨trivial, k59, trivial⟩ (enter_of (s := s63) rfl) pure_mall (mall_ok rfl rfl)
theorem k33 : Contract Tryz.prog 33 gMCheck :=
  level (b := .node .nil 63 gMAll .nil) ⟨trivial, k63, trivial⟩ (enter_of (s := s33) rfl) pure_mcheck (mcheck_ok rfl rfl)

end Go.Proofs.YtkccoijckckhmaaGreatDoor.Ev

namespace Go.Proofs.YtkccoijckckhmaaGreatDoor.Ev
open Go Go.RowKit

structure Tg where
  ivp : PV
  iv : List Int
  num : ByteArray
  den : ByteArray

def Tg.cells (t : Tg) : List PV := [t.ivp, .str t.num, .str t.den]

inductive TgsP : PV → List Tg → Prop
  | z (b : Bool) : TgsP (.z b) []
  | sl (l : List Tg) (h : ∀ x, x ∈ l → IntsP x.ivp x.iv) : TgsP (.sl 3 (l.map Tg.cells)) l

def tgsE : List (List PV) → Option (List Tg)
  | [] => some []
  | [x, .str a, .str b] :: es => match intsOf x, tgsE es with | some n, some l => some (⟨x, n, a, b⟩ :: l) | _, _ => none
  | _ => none
def tgsOf : PV → Option (List Tg)
  | .z _ => some []
  | .sl 3 es => tgsE es
  | _ => none
theorem tgsE_some : ∀ {es : List (List PV)} {l : List Tg}, tgsE es = some l → es = l.map Tg.cells ∧ ∀ x, x ∈ l → IntsP x.ivp x.iv := by
  intro es
  induction es using tgsE.induct with
  | case1 => intro l h; simp only [tgsE] at h; cases h; exact ⟨rfl, fun x hx => by cases hx⟩
  | case2 x a b es n ls h2 h1 ih =>
    intro l h
    simp only [tgsE, h1, h2] at h
    cases h
    obtain ⟨e1, e2⟩ := ih (by assumption)
    refine ⟨by rw [e1]; rfl, fun y hy => ?_⟩
    rcases List.mem_cons.1 hy with rfl | hy
    · exact intsOf_some (by assumption)
    · exact e2 y hy
  | case3 x a b es h1 ih =>
    intro l h
    simp only [tgsE] at h
    cases h
  | case4 => intro l h; unfold tgsE at h; simp_all
theorem tgsE_map : ∀ (l : List Tg), (∀ x, x ∈ l → IntsP x.ivp x.iv) → tgsE (l.map Tg.cells) = some l
  | [], _ => rfl
  | ⟨x, n, a, b⟩ :: l, h => by
    simp only [List.map_cons, Tg.cells, tgsE, (h _ (List.mem_cons_self ..)).of]
    have := tgsE_map l fun y hy => h y (List.mem_cons_of_mem _ hy)
    have e : (l.map fun t : Tg => [t.ivp, PV.str t.num, PV.str t.den]) = l.map Tg.cells := rfl
    simp only [e, this]
theorem tgsOf_some {p : PV} {l : List Tg} (h : tgsOf p = some l) : TgsP p l := by
  unfold tgsOf at h
  split at h
  · cases h; exact .z _
  · obtain ⟨h1, h2⟩ := tgsE_some h; rw [h1]; exact .sl l h2
  · cases h
theorem TgsP.of {p : PV} {l : List Tg} (h : TgsP p l) : tgsOf p = some l := by
  cases h with
  | z b => rfl
  | sl l h => exact tgsE_map l h
theorem TgsP.pure {p : PV} {l : List Tg} (h : TgsP p l) : Pure p := by
  cases h with
  | z b => exact .z b
  | sl l h =>
    refine .sl _ _ fun cs hc x hx => ?_
    obtain ⟨d, hd, rfl⟩ := List.mem_map.1 hc
    simp only [Tg.cells] at hx
    rcases List.mem_cons.1 hx with rfl | hx
    · exact (h d hd).pure
    rcases List.mem_cons.1 hx with rfl | hx
    · exact .str _
    · rw [List.mem_singleton.1 hx]; exact .str _

/-- A right weight: a fraction in lowest terms. -/
def okF (a b : ByteArray) : Bool := okInt a.data.toList && okInt b.data.toList && (match intV a, intV b with
      | some m, some n => decide (0 < n) && Nat.beq (Int.gcd m n) 1
      | _, _ => false)
theorem gfCheck_is {a b : ByteArray} (ha : a.size ≤ 20000) (hb : b.size ≤ 20000) : gfCheck [.agg [.str a, .str b]] = some (.int .i64 (bif okF a b then 0 else 2)) := by
  show (if a.size ≤ 20000 ∧ b.size ≤ 20000 then _ else none) = _
  rw [if_pos ⟨ha, hb⟩]
  rfl
theorem okF_some {a b : ByteArray} (h : okF a b = true) : ∃ m n : Int, intW a = some m ∧ intW b = some n ∧ intV a = some m ∧ 0 < n ∧ a.size ≤ 401 ∧ b.size ≤ 401 := by
  unfold okF at h
  rw [Bool.and_eq_true, Bool.and_eq_true] at h
  obtain ⟨⟨h1, h2⟩, h3⟩ := h
  obtain ⟨m, wm, vm, sm⟩ := okInt_some h1
  obtain ⟨n, wn, vn, sn⟩ := okInt_some h2
  rw [vm, vn] at h3
  simp only [Bool.and_eq_true, decide_eq_true_eq] at h3
  exact ⟨m, n, wm, wn, vm, h3.1, sm, sn⟩

def sgnF (a : ByteArray) : Int := match intW a with | some m => m.sign | none => 0

/-- The error of a target over some primes. -/
def eTg (p : List Int) (t : Tg) : Int := if eMonzo p t.iv = 0 then (if okF t.num t.den = true then (if 0 < sgnF t.num then (if 30 < t.num.size ∨ 30 < t.den.size then 4 else 0) else 3) else 2) else eMonzo p t.iv
def eTgGo (p : List Int) : List Tg → Int
  | [] => 0
  | t :: l => if eTg p t = 0 then eTgGo p l else eTg p t
def eTgs (p : List Int) (l : List Tg) : Int := if ePrime p = 0 then (if 60 < l.length then 4 else eTgGo p l) else ePrime p

def smallT (l : List Tg) : Bool := l.all fun t => Nat.ble t.num.size 20000 && Nat.ble t.den.size 20000
def gDCheck : List PV → Option PV
  | [p, x] => match intsOf p, tgsOf x with
    | some l, some ts => if smallT ts = true then some (.int .i64 (eTgs l ts)) else none
    | _, _ => none
  | _ => none

def fewT (t : Tg) : Bool := Nat.ble t.iv.length 8 && Nat.ble t.num.size 45 && Nat.ble t.den.size 45
def fewB (l : List Tg) : Bool := (Nat.ble l.length 4 || (Nat.ble 60 l.length && Nat.ble l.length 62)) && l.all fewT
def gFew : List PV → Option PV
  | [x] => match tgsOf x with
    | some ts => some (.bool (fewB ts))
    | none => none
  | _ => none

theorem pure_dcheck : ∀ args r, gDCheck args = some r → ∀ p, p ∈ args → Pure p := fun args r h => by
  unfold gDCheck at h; split at h
  · split at h
    · rename_i h1 h2; exact pure2 (intsOf_some h1).pure (tgsOf_some h2).pure
    · cases h
  · cases h
theorem pure_few : ∀ args r, gFew args = some r → ∀ p, p ∈ args → Pure p := fun args r h => by
  unfold gFew at h; split at h
  · split at h
    · rename_i h1; exact pure1 (tgsOf_some h1).pure
    · cases h
  · cases h

/-- A weight greater than 0 has no sign in its text. -/
theorem abs_pos {a : ByteArray} {m : Int} (hm : intW a = some m) (h : 0 < m) : natS m.natAbs = a := by
  obtain ⟨_, ⟨n, rfl, hn, c, l, hl, hc⟩ | ⟨n, l, rfl, hn0, hl, hn⟩⟩ := intW_some hm
  · exact (decV_str hn).symm ▸ rfl
  · omega

section
variable {T : Tab} (hb : T.body = bodies.get)
include hb
set_option maxRecDepth 10000

theorem few_ok : ∀ args r, gFew args = some r → ∃ L d n, evPure T L d n 38 args = some r := by
  intro args r hg
  have hB : T.body 38 = some s38 := by rw [hb]; rfl
  unfold gFew at hg
  split at hg
  · rename_i x
    split at hg
    · rename_i ts ht
      cases hg
      refine pure_of (L := 100) (d := 1) (Gt_evF hB rfl fun R hR => ?_) fun _ => rfl
      cases tgsOf_some ht with
      | z b =>
        simp [s38, Nat.beq]
        refine Wk_loop (fun k e ρ1 => k = 0 ∧ ρ1 = [] ∧ e 0 = .z b ∧ e 3 = .int .i64 0) 0 (by omega) ⟨rfl, rfl, by simp [Nat.beq], by simp [Nat.beq]⟩ ?_
        rintro k e ρ1 ⟨rfl, rfl, g0, g3⟩ R2 hnor hex hret
        simp [s38_0, Nat.beq, g0, g3]
        refine hex _ _ _ ?_
        simp [Nat.beq]
        exact hR _ _ rfl
      | sl _ hts =>
        have loop : ∀ e : Env, e 0 = .sl 3 (ts.map Tg.cells) → e 3 = .int .i64 0 → ts.length ≤ 62 → (∀ v ρ', v = .bool (ts.all fewT) → R v ρ') → Wk T (evF T 100 0) 100 [.code (.loop s38_0), .blk 0, .code (.seq (.reg [⟨some 2, .mv (.k (.bool true)), none⟩]) .ret)] e [] (finQ [.t 2] R) := by
          intro e0 i0 i3 h62 hR
          refine Wk_loop (fun k e ρ1 => ∃ i : Nat, k = ts.length - i ∧ i ≤ ts.length ∧ ρ1 = [] ∧ e 0 = .sl 3 (ts.map Tg.cells) ∧ e 3 = .int .i64 (i : Nat) ∧ ts.all fewT = (ts.drop i).all fewT) ts.length (by omega)
            ⟨0, by simp, by omega, rfl, i0, i3, rfl⟩ ?_
          rintro k e ρ1 ⟨i, rfl, hi, rfl, g0, g3, hgo⟩ R2 hnor hex hret
          by_cases hil : i < ts.length
          · have hil' : (i : Int) < (ts.length : Int) := by omega
            have w1 : IntKind.i64.wrap ((i : Int) + 1) = ((i + 1 : Nat) : Int) := by rw [wrap_i64 (by omega) (by omega)]; omega
            rw [List.drop_eq_getElem_cons hil, List.all_cons] at hgo
            have hip := hts ts[i] (List.getElem_mem hil)
            obtain ⟨⟨q, ns, a, b⟩, hx⟩ : ∃ x, ts[i] = x := ⟨_, rfl⟩
            rw [hx] at hgo hip
            replace hip : IntsP q ns := hip
            have hcell : Tg.cells ⟨q, ns, a, b⟩ = [q, .str a, .str b] := rfl
            have hlq : ∀ e : Env, e 27 = q → ∀ ρ, evOp T (evF T 100 0) e ρ (.len (.t 27)) = some (.int .i64 ns.length, ρ) := by
              intro e he ρ
              cases hip <;> simp [he]
            have done : fewT ⟨q, ns, a, b⟩ = false → R (.bool false) [] := fun h => hR _ _ (by rw [hgo, h, Bool.false_and])
            have go : ts.all fewT = (fewT ⟨q, ns, a, b⟩ && (ts.drop (i + 1)).all fewT) := hgo
            cases hip with
            | z b' =>
              by_cases ca : 45 < a.size
              · have ca' : (45 : Int) < (a.size : Int) := by omega
                simp [s38_0, Nat.beq, joinCells, g0, g3, hil, hil', hx, hcell, ca, ca']
                refine hret _ _ ?_
                simp [Nat.beq]
                refine done ?_
                have : Nat.ble a.size 45 = false := by rw [Bool.eq_false_iff, ne_eq, Nat.ble_eq]; omega
                simp only [fewT, this, Bool.false_and, Bool.and_false]
              · have ca' : ¬ (45 : Int) < (a.size : Int) := by omega
                have ta : Nat.ble a.size 45 = true := by rw [Nat.ble_eq]; omega
                by_cases cb : 45 < b.size
                · have cb' : (45 : Int) < (b.size : Int) := by omega
                  simp [s38_0, Nat.beq, joinCells, g0, g3, hil, hil', hx, hcell, ca, ca', cb, cb']
                  refine hret _ _ ?_
                  simp [Nat.beq]
                  refine done ?_
                  have : Nat.ble b.size 45 = false := by rw [Bool.eq_false_iff, ne_eq, Nat.ble_eq]; omega
                  simp only [fewT, this, Bool.false_and, Bool.and_false]
                · have cb' : ¬ (45 : Int) < (b.size : Int) := by omega
                  have tb : Nat.ble b.size 45 = true := by rw [Nat.ble_eq]; omega
                  simp [s38_0, Nat.beq, joinCells, g0, g3, hil, hil', hx, hcell, ca, ca', cb, cb']
                  refine hnor (ts.length - (i + 1)) _ _ (by omega) ⟨i + 1, rfl, by omega, rfl, by simp [Nat.beq, g0], by simp [Nat.beq, w1], ?_⟩
                  rw [go]
                  have : fewT ⟨.z b', [], a, b⟩ = true := by simp only [fewT, ta, tb, Bool.and_true]; rfl
                  rw [this, Bool.true_and]
            | sl _ =>
              by_cases cz : 8 < ns.length
              · have cz' : (8 : Int) < (ns.length : Int) := by omega
                simp [s38_0, Nat.beq, joinCells, g0, g3, hil, hil', hx, hcell, cz, cz']
                refine hret _ _ ?_
                simp [Nat.beq]
                refine done ?_
                have : Nat.ble ns.length 8 = false := by rw [Bool.eq_false_iff, ne_eq, Nat.ble_eq]; omega
                simp only [fewT, this, Bool.false_and, Bool.and_false]
              · have cz' : ¬ (8 : Int) < (ns.length : Int) := by omega
                have tz : Nat.ble ns.length 8 = true := by rw [Nat.ble_eq]; omega
                by_cases ca : 45 < a.size
                · have ca' : (45 : Int) < (a.size : Int) := by omega
                  simp [s38_0, Nat.beq, joinCells, g0, g3, hil, hil', hx, hcell, ca, ca', cz, cz']
                  refine hret _ _ ?_
                  simp [Nat.beq]
                  refine done ?_
                  have : Nat.ble a.size 45 = false := by rw [Bool.eq_false_iff, ne_eq, Nat.ble_eq]; omega
                  simp only [fewT, this, Bool.false_and, Bool.and_false]
                · have ca' : ¬ (45 : Int) < (a.size : Int) := by omega
                  have ta : Nat.ble a.size 45 = true := by rw [Nat.ble_eq]; omega
                  by_cases cb : 45 < b.size
                  · have cb' : (45 : Int) < (b.size : Int) := by omega
                    simp [s38_0, Nat.beq, joinCells, g0, g3, hil, hil', hx, hcell, ca, ca', cb, cb', cz, cz']
                    refine hret _ _ ?_
                    simp [Nat.beq]
                    refine done ?_
                    have : Nat.ble b.size 45 = false := by rw [Bool.eq_false_iff, ne_eq, Nat.ble_eq]; omega
                    simp only [fewT, this, Bool.false_and, Bool.and_false]
                  · have cb' : ¬ (45 : Int) < (b.size : Int) := by omega
                    have tb : Nat.ble b.size 45 = true := by rw [Nat.ble_eq]; omega
                    simp [s38_0, Nat.beq, joinCells, g0, g3, hil, hil', hx, hcell, ca, ca', cb, cb', cz, cz']
                    refine hnor (ts.length - (i + 1)) _ _ (by omega) ⟨i + 1, rfl, by omega, rfl, by simp [Nat.beq, g0], by simp [Nat.beq, w1], ?_⟩
                    rw [go]
                    have : fewT ⟨.sl 1 (ns.map fun n => [.int .i64 n]), ns, a, b⟩ = true := by simp only [fewT, ta, tb, Bool.and_true, tz]
                    rw [this, Bool.true_and]
          · have hil' : ¬ (i : Int) < (ts.length : Int) := by omega
            simp [s38_0, Nat.beq, g0, g3, hil, hil']
            refine hex _ _ _ ?_
            simp [Nat.beq]
            refine hR _ _ ?_
            rw [hgo, List.drop_of_length_le (by omega)]
            rfl
        by_cases c4 : 4 < ts.length
        · have c4' : (4 : Int) < (ts.length : Int) := by omega
          by_cases c60 : ts.length < 60
          · have c60' : (ts.length : Int) < 60 := by omega
            have hf : fewB ts = false := by
              have a1 : Nat.ble ts.length 4 = false := by rw [Bool.eq_false_iff, ne_eq, Nat.ble_eq]; omega
              have a2 : Nat.ble 60 ts.length = false := by rw [Bool.eq_false_iff, ne_eq, Nat.ble_eq]; omega
              simp only [fewB, a1, a2, Bool.false_and, Bool.or_false]
            rw [hf] at hR
            simp [s38, Nat.beq, c4, c4', c60, c60']
            exact hR _ _ rfl
          · have c60' : ¬ (ts.length : Int) < 60 := by omega
            by_cases c62 : 62 < ts.length
            · have c62' : (62 : Int) < (ts.length : Int) := by omega
              have hf : fewB ts = false := by
                have a1 : Nat.ble ts.length 4 = false := by rw [Bool.eq_false_iff, ne_eq, Nat.ble_eq]; omega
                have a2 : Nat.ble ts.length 62 = false := by rw [Bool.eq_false_iff, ne_eq, Nat.ble_eq]; omega
                simp only [fewB, a1, a2, Bool.and_false, Bool.or_false, Bool.false_and]
              rw [hf] at hR
              simp [s38, Nat.beq, c4, c4', c60, c60', c62, c62']
              exact hR _ _ rfl
            · have c62' : ¬ (62 : Int) < (ts.length : Int) := by omega
              have hf : fewB ts = ts.all fewT := by
                have a1 : Nat.ble 60 ts.length = true := by rw [Nat.ble_eq]; omega
                have a2 : Nat.ble ts.length 62 = true := by rw [Nat.ble_eq]; omega
                simp only [fewB, a1, a2, Bool.and_true, Bool.or_true, Bool.true_and]
              rw [hf] at hR
              simp [s38, Nat.beq, c4, c4', c60, c60', c62, c62']
              exact loop _ (by simp [Nat.beq]) (by simp [Nat.beq]) (by omega) hR
        · have c4' : ¬ (4 : Int) < (ts.length : Int) := by omega
          have hf : fewB ts = ts.all fewT := by
            have a1 : Nat.ble ts.length 4 = true := by rw [Nat.ble_eq]; omega
            simp only [fewB, a1, Bool.true_or, Bool.true_and]
          rw [hf] at hR
          simp [s38, Nat.beq, c4, c4']
          exact loop _ (by simp [Nat.beq]) (by simp [Nat.beq]) (by omega) hR
    · cases hg
  · cases hg

end

end Go.Proofs.YtkccoijckckhmaaGreatDoor.Ev

namespace Go.Proofs.YtkccoijckckhmaaGreatDoor.Ev
open Go Go.RowKit

section
variable {T : Tab} (hb : T.body = bodies.get)
include hb
set_option maxRecDepth 10000
set_option maxHeartbeats 1600000

theorem dcheck_ok (h59 : T.pure 59 = some gPCheck) (h33 : T.pure 33 = some gMCheck) (h78 : T.pure 78 = some gfCheck) (h79 : T.pure 79 = some gfSign') (h80 : T.pure 80 = some gwAbs) : ∀ args r, gDCheck args = some r → ∃ L d n, evPure T L d n 39 args = some r := by
  intro args r hg
  have hB : T.body 39 = some s39 := by rw [hb]; rfl
  unfold gDCheck at hg
  split at hg
  · rename_i p x
    split at hg
    · rename_i l ts hl ht
      split at hg
      · rename_i hsm
        cases hg
        have hp : gPCheck [p] = some (.int .i64 (ePrime l)) := by simp only [gPCheck, hl]
        refine pure_of (L := 100) (d := 1) (Gt_evF hB rfl fun R hR => ?_) fun _ => rfl
        unfold eTgs at hR
        by_cases hE : ePrime l = 0
        · rw [if_pos hE] at hR
          rw [hE] at hp
          obtain ⟨l1, l6⟩ := ePrime_zero hE
          cases tgsOf_some ht with
          | z b =>
            cases intsOf_some hl with
            | z b => simp at l1
            | sl _ =>
              simp [s39, Nat.beq, h59, hp]
              refine Wk_loop (fun k e ρ1 => k = 0 ∧ ρ1 = [] ∧ e 19 = .int .i64 0 ∧ e 20 = .int .i64 0) 0 (by omega) ⟨rfl, rfl, by simp [Nat.beq], by simp [Nat.beq]⟩ ?_
              rintro k e ρ1 ⟨rfl, rfl, g19, g20⟩ R2 hnor hex hret
              simp [s39_0, Nat.beq, g19, g20]
              refine hex _ _ _ ?_
              simp [Nat.beq]
              exact hR _ _ rfl
          | sl _ hts =>
            cases intsOf_some hl with
            | z b => simp at l1
            | sl _ =>
              by_cases c60 : 60 < ts.length
              · have c60' : (60 : Int) < (ts.length : Int) := by omega
                rw [if_pos c60] at hR
                simp [s39, Nat.beq, h59, hp, c60, c60']
                exact hR _ _ rfl
              · have c60' : ¬ (60 : Int) < (ts.length : Int) := by omega
                rw [if_neg c60] at hR
                simp [s39, Nat.beq, h59, hp, c60, c60']
                refine Wk_loop (fun k e ρ1 => ∃ i : Nat, k = ts.length - i ∧ i ≤ ts.length ∧ e 0 = .sl 1 (l.map fun n => [.int .i64 n]) ∧ e 18 = .sl 3 (ts.map Tg.cells) ∧ e 19 = .int .i64 ts.length ∧ e 20 = .int .i64 (i : Nat) ∧ eTgGo l ts = eTgGo l (ts.drop i)) ts.length (by omega)
                  ⟨0, by simp, by omega, by simp [Nat.beq], by simp [Nat.beq], by simp [Nat.beq], by simp [Nat.beq], rfl⟩ ?_
                rintro k e ρ1 ⟨i, rfl, hi, g0, g18, g19, g20, hgo⟩ R2 hnor hex hret
                by_cases hil : i < ts.length
                · have hil' : (i : Int) < (ts.length : Int) := by omega
                  have w1 : IntKind.i64.wrap ((i : Int) + 1) = ((i + 1 : Nat) : Int) := by rw [wrap_i64 (by omega) (by omega)]; omega
                  rw [List.drop_eq_getElem_cons hil] at hgo
                  have hip := hts ts[i] (List.getElem_mem hil)
                  have hss := List.all_eq_true.1 hsm ts[i] (List.getElem_mem hil)
                  obtain ⟨⟨q, ns, a, b⟩, hx⟩ : ∃ x, ts[i] = x := ⟨_, rfl⟩
                  rw [hx] at hgo hip hss
                  rw [Bool.and_eq_true, Nat.ble_eq, Nat.ble_eq] at hss
                  replace hss : a.size ≤ 20000 ∧ b.size ≤ 20000 := hss
                  replace hip : IntsP q ns := hip
                  have hcell : Tg.cells ⟨q, ns, a, b⟩ = [q, .str a, .str b] := rfl
                  have hm : gMCheck [.sl 1 (l.map fun n => [.int .i64 n]), q] = some (.int .i64 (eMonzo l ns)) := by simp only [gMCheck, hl, hip.of]
                  have hc := gfCheck_is hss.1 hss.2
                  simp only [eTgGo] at hgo
                  obtain ⟨et, het⟩ : ∃ et, eTg l ⟨q, ns, a, b⟩ = et := ⟨_, rfl⟩
                  rw [het] at hgo
                  by_cases hz : eMonzo l ns = 0
                  · rw [hz] at hm
                    unfold eTg at het
                    rw [if_pos hz] at het
                    cases hok : okF a b with
                    | false =>
                      simp only [hok, cond_false] at hc
                      rw [if_neg (by rw [hok]; exact Bool.noConfusion)] at het
                      subst het
                      rw [if_neg (by decide)] at hgo
                      cases hip <;>
                      · simp [s39_0, Nat.beq, joinCells, nCells, spliceAt, one, g0, g18, g19, g20, hil, hil', hx, hcell, h33, hm, h78, hc]
                        refine hret _ _ ?_
                        simp [Nat.beq]
                        exact hR _ _ (by rw [hgo])
                    | true =>
                      simp only [hok, cond_true] at hc
                      rw [if_pos hok] at het
                      obtain ⟨m, n, wm, wn, vm, hn0, sa, sb⟩ := okF_some hok
                      have hsg : gfSign' [.agg [.str a, .str b]] = some (.int .i64 m.sign) := by simp only [gfSign', wm, Option.map_some]
                      have hsF : sgnF a = m.sign := by simp only [sgnF, wm]
                      simp only [hsF] at het
                      by_cases h0 : 0 < m
                      · have hs1 : m.sign = 1 := Int.sign_eq_one_of_pos h0
                        rw [hs1] at het hsg
                        rw [if_pos (by decide)] at het
                        have habs : gwAbs [.str a] = some (.str a) := by
                          have : gwAbs [.str a] = some (.str (natS m.natAbs)) := by simp only [gwAbs, int1, wm, Option.map_some]
                          rw [this, abs_pos wm h0]
                        by_cases ca : 30 < a.size
                        · have ca' : (30 : Int) < (a.size : Int) := by omega
                          rw [if_pos (.inl ca)] at het
                          subst het
                          rw [if_neg (by decide)] at hgo
                          cases hip <;>
                          · simp [s39_0, Nat.beq, joinCells, nCells, spliceAt, one, g0, g18, g19, g20, hil, hil', hx, hcell, h33, hm, h78, hc, h79, hsg, h80, habs, ca, ca']
                            refine hret _ _ ?_
                            simp [Nat.beq]
                            exact hR _ _ (by rw [hgo])
                        · have ca' : ¬ (30 : Int) < (a.size : Int) := by omega
                          by_cases cb : 30 < b.size
                          · have cb' : (30 : Int) < (b.size : Int) := by omega
                            rw [if_pos (.inr cb)] at het
                            subst het
                            rw [if_neg (by decide)] at hgo
                            cases hip <;>
                            · simp [s39_0, Nat.beq, joinCells, nCells, spliceAt, one, g0, g18, g19, g20, hil, hil', hx, hcell, h33, hm, h78, hc, h79, hsg, h80, habs, ca, ca', cb, cb']
                              refine hret _ _ ?_
                              simp [Nat.beq]
                              exact hR _ _ (by rw [hgo])
                          · have cb' : ¬ (30 : Int) < (b.size : Int) := by omega
                            rw [if_neg (by rintro (h | h) <;> contradiction)] at het
                            subst het
                            rw [if_pos rfl] at hgo
                            cases hip <;>
                            · simp [s39_0, Nat.beq, joinCells, nCells, spliceAt, one, g0, g18, g19, g20, hil, hil', hx, hcell, h33, hm, h78, hc, h79, hsg, h80, habs, ca, ca', cb, cb']
                              refine hnor (ts.length - (i + 1)) _ _ (by omega) ⟨i + 1, rfl, by omega, by simp [Nat.beq, g0], by simp [Nat.beq, g18], by simp [Nat.beq, g19], by simp [Nat.beq, w1], hgo⟩
                      · have hle : m.sign ≤ 0 := by
                          rcases Int.lt_or_eq_of_le (show m ≤ 0 by omega) with h | h
                          · rw [Int.sign_eq_neg_one_of_neg h]; decide
                          · rw [h]; decide
                        rw [if_neg (by omega)] at het
                        subst het
                        rw [if_neg (by decide)] at hgo
                        obtain ⟨sg, hsg'⟩ : ∃ sg, m.sign = sg := ⟨_, rfl⟩
                        rw [hsg'] at hsg hle
                        cases hip <;>
                        · simp [s39_0, Nat.beq, joinCells, nCells, spliceAt, one, g0, g18, g19, g20, hil, hil', hx, hcell, h33, hm, h78, hc, h79, hsg, hle]
                          refine hret _ _ ?_
                          simp [Nat.beq]
                          exact hR _ _ (by rw [hgo])
                  · have hz2 : et = eMonzo l ns := by rw [← het]; unfold eTg; rw [if_neg hz]
                    rw [← hz2] at hz hm
                    rw [if_neg hz] at hgo
                    cases hip <;>
                    · simp [s39_0, Nat.beq, joinCells, nCells, spliceAt, one, g0, g18, g19, g20, hil, hil', hx, hcell, h33, hm, hz]
                      refine hret _ _ ?_
                      simp [Nat.beq]
                      exact hR _ _ (by rw [hgo])
                · have hil' : ¬ (i : Int) < (ts.length : Int) := by omega
                  simp [s39_0, g0, g18, g19, g20, Nat.beq, hil, hil']
                  refine hex _ _ _ ?_
                  simp [Nat.beq]
                  refine hR _ _ ?_
                  rw [hgo, List.drop_of_length_le (by omega)]
                  rfl
        · rw [if_neg hE] at hR
          obtain ⟨x, hx⟩ : ∃ x, ePrime l = x := ⟨_, rfl⟩
          rw [hx] at hp hR hE
          cases intsOf_some hl <;> cases tgsOf_some ht <;> (simp [s39, Nat.beq, h59, hp, hE]; exact hR _ _ rfl)
      · cases hg
    · cases hg
  · cases hg

theorem lcheck_ok (h59 : T.pure 59 = some gPCheck) (h33 : T.pure 33 = some gMCheck) (h78 : T.pure 78 = some gfCheck) (h79 : T.pure 79 = some gfSign') : ∀ args r, gDCheck args = some r → ∃ L d n, evPure T L d n 40 args = some r := by
  intro args r hg
  have hB : T.body 40 = some s40 := by rw [hb]; rfl
  unfold gDCheck at hg
  split at hg
  · rename_i p x
    split at hg
    · rename_i l ts hl ht
      split at hg
      · rename_i hsm
        cases hg
        have hp : gPCheck [p] = some (.int .i64 (ePrime l)) := by simp only [gPCheck, hl]
        refine pure_of (L := 100) (d := 1) (Gt_evF hB rfl fun R hR => ?_) fun _ => rfl
        unfold eTgs at hR
        by_cases hE : ePrime l = 0
        · rw [if_pos hE] at hR
          rw [hE] at hp
          obtain ⟨l1, l6⟩ := ePrime_zero hE
          cases tgsOf_some ht with
          | z b =>
            cases intsOf_some hl with
            | z b => simp at l1
            | sl _ =>
              simp [s40, Nat.beq, h59, hp]
              refine Wk_loop (fun k e ρ1 => k = 0 ∧ ρ1 = [] ∧ e 1 = .z b ∧ e 6 = .int .i64 0) 0 (by omega) ⟨rfl, rfl, by simp [Nat.beq], by simp [Nat.beq]⟩ ?_
              rintro k e ρ1 ⟨rfl, rfl, g19, g20⟩ R2 hnor hex hret
              simp [s40_0, Nat.beq, g19, g20]
              refine hex _ _ _ ?_
              simp [Nat.beq]
              exact hR _ _ rfl
          | sl _ hts =>
            cases intsOf_some hl with
            | z b => simp at l1
            | sl _ =>
              by_cases c60 : 60 < ts.length
              · have c60' : (60 : Int) < (ts.length : Int) := by omega
                rw [if_pos c60] at hR
                simp [s40, Nat.beq, h59, hp, c60, c60']
                exact hR _ _ rfl
              · have c60' : ¬ (60 : Int) < (ts.length : Int) := by omega
                rw [if_neg c60] at hR
                simp [s40, Nat.beq, h59, hp, c60, c60']
                refine Wk_loop (fun k e ρ1 => ∃ i : Nat, k = ts.length - i ∧ i ≤ ts.length ∧ e 0 = .sl 1 (l.map fun n => [.int .i64 n]) ∧ e 1 = .sl 3 (ts.map Tg.cells) ∧ e 6 = .int .i64 (i : Nat) ∧ eTgGo l ts = eTgGo l (ts.drop i)) ts.length (by omega)
                  ⟨0, by simp, by omega, by simp [Nat.beq], by simp [Nat.beq], by simp [Nat.beq], rfl⟩ ?_
                rintro k e ρ1 ⟨i, rfl, hi, g0, g1, g6, hgo⟩ R2 hnor hex hret
                by_cases hil : i < ts.length
                · have hil' : (i : Int) < (ts.length : Int) := by omega
                  have w1 : IntKind.i64.wrap ((i : Int) + 1) = ((i + 1 : Nat) : Int) := by rw [wrap_i64 (by omega) (by omega)]; omega
                  rw [List.drop_eq_getElem_cons hil] at hgo
                  have hip := hts ts[i] (List.getElem_mem hil)
                  have hss := List.all_eq_true.1 hsm ts[i] (List.getElem_mem hil)
                  obtain ⟨⟨q, ns, a, b⟩, hx⟩ : ∃ x, ts[i] = x := ⟨_, rfl⟩
                  rw [hx] at hgo hip hss
                  rw [Bool.and_eq_true, Nat.ble_eq, Nat.ble_eq] at hss
                  replace hss : a.size ≤ 20000 ∧ b.size ≤ 20000 := hss
                  replace hip : IntsP q ns := hip
                  have hcell : Tg.cells ⟨q, ns, a, b⟩ = [q, .str a, .str b] := rfl
                  have hm : gMCheck [.sl 1 (l.map fun n => [.int .i64 n]), q] = some (.int .i64 (eMonzo l ns)) := by simp only [gMCheck, hl, hip.of]
                  have hc := gfCheck_is hss.1 hss.2
                  simp only [eTgGo] at hgo
                  obtain ⟨et, het⟩ : ∃ et, eTg l ⟨q, ns, a, b⟩ = et := ⟨_, rfl⟩
                  rw [het] at hgo
                  by_cases hz : eMonzo l ns = 0
                  · rw [hz] at hm
                    unfold eTg at het
                    rw [if_pos hz] at het
                    cases hok : okF a b with
                    | false =>
                      simp only [hok, cond_false] at hc
                      rw [if_neg (by rw [hok]; exact Bool.noConfusion)] at het
                      subst het
                      rw [if_neg (by decide)] at hgo
                      cases hip <;>
                      · simp [s40_0, Nat.beq, joinCells, nCells, spliceAt, one, g0, g1, g6, hil, hil', hx, hcell, h33, hm, h78, hc]
                        refine hret _ _ ?_
                        simp [Nat.beq]
                        exact hR _ _ (by rw [hgo])
                    | true =>
                      simp only [hok, cond_true] at hc
                      rw [if_pos hok] at het
                      obtain ⟨m, n, wm, wn, vm, hn0, sa, sb⟩ := okF_some hok
                      have hsg : gfSign' [.agg [.str a, .str b]] = some (.int .i64 m.sign) := by simp only [gfSign', wm, Option.map_some]
                      have hsF : sgnF a = m.sign := by simp only [sgnF, wm]
                      simp only [hsF] at het
                      by_cases h0 : 0 < m
                      · have hs1 : m.sign = 1 := Int.sign_eq_one_of_pos h0
                        rw [hs1] at het hsg
                        rw [if_pos (by decide)] at het
                        have habs : gwAbs [.str a] = some (.str a) := by
                          have : gwAbs [.str a] = some (.str (natS m.natAbs)) := by simp only [gwAbs, int1, wm, Option.map_some]
                          rw [this, abs_pos wm h0]
                        by_cases ca : 30 < a.size
                        · have ca' : (30 : Int) < (a.size : Int) := by omega
                          rw [if_pos (.inl ca)] at het
                          subst het
                          rw [if_neg (by decide)] at hgo
                          cases hip <;>
                          · simp [s40_0, Nat.beq, joinCells, nCells, spliceAt, one, g0, g1, g6, hil, hil', hx, hcell, h33, hm, h78, hc, h79, hsg, ca, ca']
                            refine hret _ _ ?_
                            simp [Nat.beq]
                            exact hR _ _ (by rw [hgo])
                        · have ca' : ¬ (30 : Int) < (a.size : Int) := by omega
                          by_cases cb : 30 < b.size
                          · have cb' : (30 : Int) < (b.size : Int) := by omega
                            rw [if_pos (.inr cb)] at het
                            subst het
                            rw [if_neg (by decide)] at hgo
                            cases hip <;>
                            · simp [s40_0, Nat.beq, joinCells, nCells, spliceAt, one, g0, g1, g6, hil, hil', hx, hcell, h33, hm, h78, hc, h79, hsg, ca, ca', cb, cb']
                              refine hret _ _ ?_
                              simp [Nat.beq]
                              exact hR _ _ (by rw [hgo])
                          · have cb' : ¬ (30 : Int) < (b.size : Int) := by omega
                            rw [if_neg (by rintro (h | h) <;> contradiction)] at het
                            subst het
                            rw [if_pos rfl] at hgo
                            cases hip <;>
                            · simp [s40_0, Nat.beq, joinCells, nCells, spliceAt, one, g0, g1, g6, hil, hil', hx, hcell, h33, hm, h78, hc, h79, hsg, ca, ca', cb, cb']
                              refine hnor (ts.length - (i + 1)) _ _ (by omega) ⟨i + 1, rfl, by omega, by simp [Nat.beq, g0], by simp [Nat.beq, g1], by simp [Nat.beq, w1], hgo⟩
                      · have hle : m.sign ≤ 0 := by
                          rcases Int.lt_or_eq_of_le (show m ≤ 0 by omega) with h | h
                          · rw [Int.sign_eq_neg_one_of_neg h]; decide
                          · rw [h]; decide
                        rw [if_neg (by omega)] at het
                        subst het
                        rw [if_neg (by decide)] at hgo
                        obtain ⟨sg, hsg'⟩ : ∃ sg, m.sign = sg := ⟨_, rfl⟩
                        rw [hsg'] at hsg hle
                        cases hip <;>
                        · simp [s40_0, Nat.beq, joinCells, nCells, spliceAt, one, g0, g1, g6, hil, hil', hx, hcell, h33, hm, h78, hc, h79, hsg, hle]
                          refine hret _ _ ?_
                          simp [Nat.beq]
                          exact hR _ _ (by rw [hgo])
                  · have hz2 : et = eMonzo l ns := by rw [← het]; unfold eTg; rw [if_neg hz]
                    rw [← hz2] at hz hm
                    rw [if_neg hz] at hgo
                    cases hip <;>
                    · simp [s40_0, Nat.beq, joinCells, nCells, spliceAt, one, g0, g1, g6, hil, hil', hx, hcell, h33, hm, hz]
                      refine hret _ _ ?_
                      simp [Nat.beq]
                      exact hR _ _ (by rw [hgo])
                · have hil' : ¬ (i : Int) < (ts.length : Int) := by omega
                  simp [s40_0, g0, g1, g6, Nat.beq, hil, hil']
                  refine hex _ _ _ ?_
                  simp [Nat.beq]
                  refine hR _ _ ?_
                  rw [hgo, List.drop_of_length_le (by omega)]
                  rfl
        · rw [if_neg hE] at hR
          obtain ⟨x, hx⟩ : ∃ x, ePrime l = x := ⟨_, rfl⟩
          rw [hx] at hp hR hE
          cases intsOf_some hl <;> cases tgsOf_some ht <;> (simp [s40, Nat.beq, h59, hp, hE]; exact hR _ _ rfl)
      · cases hg
    · cases hg
  · cases hg

end

def baseC : BT G := .node (.node (.node .nil 33 gMCheck .nil) 59 gPCheck (.node .nil 78 gfCheck .nil)) 79 gfSign' (.node .nil 80 gwAbs .nil)
theorem baseC_ok : baseC.All (Contract Tryz.prog) := ⟨⟨⟨trivial, k33, trivial⟩, k59, ⟨trivial, k78, trivial⟩⟩, k79, ⟨trivial, k80, trivial⟩⟩
theorem k39 : Contract Tryz.prog 39 gDCheck := level baseC_ok (enter_of (s := s39) rfl) pure_dcheck (dcheck_ok rfl rfl rfl rfl rfl rfl)
theorem k40 : Contract Tryz.prog 40 gDCheck := level baseC_ok (enter_of (s := s40) rfl) pure_dcheck (lcheck_ok rfl rfl rfl rfl rfl)
theorem k38 : Contract Tryz.prog 38 gFew := level baseC_ok (enter_of (s := s38) rfl) pure_few (few_ok rfl)

end Go.Proofs.YtkccoijckckhmaaGreatDoor.Ev

namespace Go.Proofs.YtkccoijckckhmaaGreatDoor.Ev
open Go Go.RowKit

theorem ba_refl (a : ByteArray) : (a == a) = true := by
  show ByteArray.beq a a = true
  simp [ByteArray.beq]

def sameI : List Int → List Int → Bool
  | [], [] => true
  | x :: xs, y :: ys => decide (x = y) && sameI xs ys
  | _, _ => false
theorem sameI_refl : ∀ l, sameI l l = true
  | [] => rfl
  | x :: xs => by simp [sameI, sameI_refl xs]
theorem sameI_len : ∀ {l n}, l.length ≠ n.length → sameI l n = false
  | [], [], h => absurd rfl h
  | x :: xs, y :: ys, h => by simp only [sameI, sameI_len (l := xs) (n := ys) (by simpa using h), Bool.and_false]
  | [], _ :: _, _ => rfl
  | _ :: _, [], _ => rfl

def gSame : List PV → Option PV
  | [p, q] => match intsOf p, intsOf q with
    | some l, some n => if l.length ≤ 1000000 then some (.bool (sameI l n)) else none
    | _, _ => none
  | _ => none
theorem pure_same : ∀ args r, gSame args = some r → ∀ p, p ∈ args → Pure p := fun args r h => by
  unfold gSame at h; split at h
  · split at h
    · rename_i h1 h2; exact pure2 (intsOf_some h1).pure (intsOf_some h2).pure
    · cases h
  · cases h

def eqTg (t u : Tg) : Bool := (t.num == u.num) && (t.den == u.den) && sameI t.iv u.iv
def eqTgs : List Tg → List Tg → Bool
  | [], [] => true
  | t :: ts, u :: us => eqTg t u && eqTgs ts us
  | _, _ => false
theorem eqTgs_refl : ∀ l, eqTgs l l = true
  | [] => rfl
  | x :: xs => by simp [eqTgs, eqTg, eqTgs_refl xs, sameI_refl, ba_refl]
theorem eqTgs_len : ∀ {l n}, l.length ≠ n.length → eqTgs l n = false
  | [], [], h => absurd rfl h
  | x :: xs, y :: ys, h => by simp only [eqTgs, eqTgs_len (l := xs) (n := ys) (by simpa using h), Bool.and_false]
  | [], _ :: _, _ => rfl
  | _ :: _, [], _ => rfl

def shortT (l : List Tg) : Bool := Nat.ble l.length 1000000 && l.all fun t => Nat.ble t.iv.length 1000000
theorem shortT_is {l : List Tg} (h : shortT l = true) : l.length ≤ 1000000 ∧ ∀ t, t ∈ l → t.iv.length ≤ 1000000 := by
  unfold shortT at h
  rw [Bool.and_eq_true, Nat.ble_eq] at h
  exact ⟨h.1, fun t ht => Nat.le_of_ble_eq_true (List.all_eq_true.1 h.2 t ht)⟩
def gEqT : List PV → Option PV
  | [x, y] => match tgsOf x, tgsOf y with
    | some ts, some us => if shortT ts = true then some (.bool (eqTgs ts us)) else none
    | _, _ => none
  | _ => none
theorem pure_eqT : ∀ args r, gEqT args = some r → ∀ p, p ∈ args → Pure p := fun args r h => by
  unfold gEqT at h; split at h
  · split at h
    · rename_i h1 h2; exact pure2 (tgsOf_some h1).pure (tgsOf_some h2).pure
    · cases h
  · cases h

section
variable {T : Tab} (hb : T.body = bodies.get)
include hb
set_option maxRecDepth 10000
set_option maxHeartbeats 1600000


theorem same84_ok : ∀ args r, gSame args = some r → ∃ L d n, evPure T L d n 84 args = some r := by
  intro args r hg
  have hB : T.body 84 = some s84 := by rw [hb]; rfl
  unfold gSame at hg
  split at hg
  · rename_i p q
    split at hg
    · rename_i l n hl hn
      split at hg
      · rename_i hlen
        cases hg
        refine pure_of (L := 2000000) (d := 1) (Gt_evF hB rfl fun R hR => ?_) fun _ => rfl
        by_cases hne : l.length = n.length
        · have hne' : (l.length : Int) = (n.length : Int) := by omega
          cases intsOf_some hl with
          | z b =>
            have hn0 : n = [] := List.length_eq_zero_iff.1 hne.symm
            subst hn0
            have key : ∀ q', IntsP q' [] → q' = q → Wk T (evF T 2000000 0) 2000000 [.code s84.body] (Env.of [.z b, q'] 0) [] (finQ s84.res R) := by
              intro q' hq hqq
              cases hq <;>
              · simp [s84, Nat.beq]
                refine Wk_loop (fun k e ρ1 => k = 0 ∧ ρ1 = [] ∧ e 0 = .z b ∧ e 5 = .int .i64 0) 0 (by omega) ⟨rfl, rfl, by simp [Nat.beq], by simp [Nat.beq]⟩ ?_
                rintro k e ρ1 ⟨rfl, rfl, g0, g5⟩ R2 hnor hex hret
                simp [s84_0, Nat.beq, g0, g5]
                refine hex _ _ _ ?_
                simp [Nat.beq]
                exact hR _ _ rfl
            exact key q (intsOf_some hn) rfl
          | sl _ =>
            have hq := intsOf_some hn
            by_cases h0 : l.length = 0
            · have hl0 : l = [] := List.length_eq_zero_iff.1 h0
              subst hl0
              have hn0 : n = [] := List.length_eq_zero_iff.1 hne.symm
              subst hn0
              have key : ∀ q', IntsP q' [] → q' = q → Wk T (evF T 2000000 0) 2000000 [.code s84.body] (Env.of [.sl 1 [], q'] 0) [] (finQ s84.res R) := by
                intro q' hq hqq
                cases hq <;>
                · simp [s84, Nat.beq]
                  refine Wk_loop (fun k e ρ1 => k = 0 ∧ ρ1 = [] ∧ e 0 = .sl 1 [] ∧ e 5 = .int .i64 0) 0 (by omega) ⟨rfl, rfl, by simp [Nat.beq], by simp [Nat.beq]⟩ ?_
                  rintro k e ρ1 ⟨rfl, rfl, g0, g5⟩ R2 hnor hex hret
                  simp [s84_0, Nat.beq, g0, g5]
                  refine hex _ _ _ ?_
                  simp [Nat.beq]
                  exact hR _ _ rfl
              exact key q hq rfl
            · cases hq with
              | z b => simp at hne; exact absurd (by simp [hne]) h0
              | sl _ =>
                simp [s84, Nat.beq, hne, hne']
                refine Wk_loop (fun k e ρ1 => ∃ i : Nat, k = l.length - i ∧ i ≤ l.length ∧ ρ1 = [] ∧ e 0 = .sl 1 (l.map fun n => [.int .i64 n]) ∧ e 1 = .sl 1 (n.map fun n => [.int .i64 n]) ∧ e 5 = .int .i64 (i : Nat) ∧ sameI l n = sameI (l.drop i) (n.drop i)) l.length (by omega)
                  ⟨0, by simp, by omega, rfl, by simp [Nat.beq], by simp [Nat.beq], by simp [Nat.beq], rfl⟩ ?_
                rintro k e ρ1 ⟨i, rfl, hi, rfl, g0, g1, g5, hgo⟩ R2 hnor hex hret
                by_cases hil : i < l.length
                · have hil' : (i : Int) < (l.length : Int) := by omega
                  have hin : i < n.length := by omega
                  have w1 : IntKind.i64.wrap ((i : Int) + 1) = ((i + 1 : Nat) : Int) := by rw [wrap_i64 (by omega) (by omega)]; omega
                  rw [List.drop_eq_getElem_cons hil, List.drop_eq_getElem_cons hin] at hgo
                  obtain ⟨x, hx⟩ : ∃ x, l[i] = x := ⟨_, rfl⟩
                  obtain ⟨y, hy⟩ : ∃ y, n[i] = y := ⟨_, rfl⟩
                  rw [hx, hy] at hgo
                  simp only [sameI] at hgo
                  by_cases hxy : x = y
                  · simp [s84_0, g0, g1, g5, Nat.beq, joinCells, hil, hil', hin, hx, hy, hxy]
                    refine hnor (l.length - (i + 1)) _ _ (by omega) ⟨i + 1, rfl, by omega, rfl, by simp [Nat.beq, g0], by simp [Nat.beq, g1], by simp [Nat.beq, w1], ?_⟩
                    rw [hgo, decide_eq_true hxy, Bool.true_and]
                  · simp [s84_0, g0, g1, g5, Nat.beq, joinCells, hil, hil', hin, hx, hy, hxy]
                    refine hret _ _ ?_
                    simp [Nat.beq]
                    exact hR _ _ (by rw [hgo, decide_eq_false hxy, Bool.false_and])
                · have hil' : ¬ (i : Int) < (l.length : Int) := by omega
                  simp [s84_0, g0, g1, g5, Nat.beq, hil, hil']
                  refine hex _ _ _ ?_
                  simp [Nat.beq]
                  refine hR _ _ ?_
                  rw [hgo, List.drop_of_length_le (by omega), List.drop_of_length_le (by omega)]
                  rfl
        · have hne' : ¬ (l.length : Int) = (n.length : Int) := by omega
          rw [sameI_len hne] at hR
          cases intsOf_some hl with
          | z b => cases intsOf_some hn with
            | z b => exact absurd rfl hne
            | sl _ =>
              have h1 : ¬ (0 : Int) = (n.length : Int) := hne'
              have h2 : ¬ 0 = n.length := hne
              have h3 : ¬ n = [] := fun h => hne (by rw [h])
              simp [s84, Nat.beq, h1, h2, h3]
              exact hR _ _ rfl
          | sl _ => cases intsOf_some hn with
            | z b =>
              have h1 : ¬ (l.length : Int) = 0 := hne'
              have h2 : ¬ l.length = 0 := hne
              have h3 : ¬ l = [] := fun h => hne (by rw [h])
              simp [s84, Nat.beq, h1, h2, h3]
              exact hR _ _ rfl
            | sl _ =>
              simp [s84, Nat.beq, hne, hne']
              exact hR _ _ rfl
      · cases hg
    · cases hg
  · cases hg

theorem same83_ok : ∀ args r, gSame args = some r → ∃ L d n, evPure T L d n 83 args = some r := by
  intro args r hg
  have hB : T.body 83 = some s83 := by rw [hb]; rfl
  unfold gSame at hg
  split at hg
  · rename_i p q
    split at hg
    · rename_i l n hl hn
      split at hg
      · rename_i hlen
        cases hg
        refine pure_of (L := 2000000) (d := 1) (Gt_evF hB rfl fun R hR => ?_) fun _ => rfl
        by_cases hne : l.length = n.length
        · have hne' : (l.length : Int) = (n.length : Int) := by omega
          cases intsOf_some hl with
          | z b =>
            have hn0 : n = [] := List.length_eq_zero_iff.1 hne.symm
            subst hn0
            have key : ∀ q', IntsP q' [] → q' = q → Wk T (evF T 2000000 0) 2000000 [.code s83.body] (Env.of [.z b, q'] 0) [] (finQ s83.res R) := by
              intro q' hq hqq
              cases hq <;>
              · simp [s83, Nat.beq]
                refine Wk_loop (fun k e ρ1 => k = 0 ∧ ρ1 = [] ∧ e 12 = .int .i64 0 ∧ e 13 = .int .i64 0) 0 (by omega) ⟨rfl, rfl, by simp [Nat.beq], by simp [Nat.beq]⟩ ?_
                rintro k e ρ1 ⟨rfl, rfl, g0, g5⟩ R2 hnor hex hret
                simp [s83_0, Nat.beq, g0, g5]
                refine hex _ _ _ ?_
                simp [Nat.beq]
                exact hR _ _ rfl
            exact key q (intsOf_some hn) rfl
          | sl _ =>
            have hq := intsOf_some hn
            by_cases h0 : l.length = 0
            · have hl0 : l = [] := List.length_eq_zero_iff.1 h0
              subst hl0
              have hn0 : n = [] := List.length_eq_zero_iff.1 hne.symm
              subst hn0
              have key : ∀ q', IntsP q' [] → q' = q → Wk T (evF T 2000000 0) 2000000 [.code s83.body] (Env.of [.sl 1 [], q'] 0) [] (finQ s83.res R) := by
                intro q' hq hqq
                cases hq <;>
                · simp [s83, Nat.beq]
                  refine Wk_loop (fun k e ρ1 => k = 0 ∧ ρ1 = [] ∧ e 12 = .int .i64 0 ∧ e 13 = .int .i64 0) 0 (by omega) ⟨rfl, rfl, by simp [Nat.beq], by simp [Nat.beq]⟩ ?_
                  rintro k e ρ1 ⟨rfl, rfl, g0, g5⟩ R2 hnor hex hret
                  simp [s83_0, Nat.beq, g0, g5]
                  refine hex _ _ _ ?_
                  simp [Nat.beq]
                  exact hR _ _ rfl
              exact key q hq rfl
            · cases hq with
              | z b => simp at hne; exact absurd (by simp [hne]) h0
              | sl _ =>
                simp [s83, Nat.beq, hne, hne']
                refine Wk_loop (fun k e ρ1 => ∃ i : Nat, k = l.length - i ∧ i ≤ l.length ∧ ρ1 = [] ∧ e 0 = .sl 1 (l.map fun n => [.int .i64 n]) ∧ e 1 = .sl 1 (n.map fun n => [.int .i64 n]) ∧ e 12 = .int .i64 l.length ∧ e 13 = .int .i64 (i : Nat) ∧ sameI l n = sameI (l.drop i) (n.drop i)) l.length (by omega)
                  ⟨0, by simp, by omega, rfl, by simp [Nat.beq], by simp [Nat.beq], by simp [Nat.beq, hne], by simp [Nat.beq], rfl⟩ ?_
                rintro k e ρ1 ⟨i, rfl, hi, rfl, g0, g1, g12, g13, hgo⟩ R2 hnor hex hret
                by_cases hil : i < l.length
                · have hil' : (i : Int) < (l.length : Int) := by omega
                  have hin : i < n.length := by omega
                  have w1 : IntKind.i64.wrap ((i : Int) + 1) = ((i + 1 : Nat) : Int) := by rw [wrap_i64 (by omega) (by omega)]; omega
                  rw [List.drop_eq_getElem_cons hil, List.drop_eq_getElem_cons hin] at hgo
                  obtain ⟨x, hx⟩ : ∃ x, l[i] = x := ⟨_, rfl⟩
                  obtain ⟨y, hy⟩ : ∃ y, n[i] = y := ⟨_, rfl⟩
                  rw [hx, hy] at hgo
                  simp only [sameI] at hgo
                  by_cases hxy : x = y
                  · simp [s83_0, g0, g1, g12, g13, Nat.beq, joinCells, hil, hil', hin, hx, hy, hxy]
                    refine hnor (l.length - (i + 1)) _ _ (by omega) ⟨i + 1, rfl, by omega, rfl, by simp [Nat.beq, g0], by simp [Nat.beq, g1], by simp [Nat.beq, g12], by simp [Nat.beq, w1], ?_⟩
                    rw [hgo, decide_eq_true hxy, Bool.true_and]
                  · simp [s83_0, g0, g1, g12, g13, Nat.beq, joinCells, hil, hil', hin, hx, hy, hxy]
                    refine hret _ _ ?_
                    simp [Nat.beq]
                    exact hR _ _ (by rw [hgo, decide_eq_false hxy, Bool.false_and])
                · have hil' : ¬ (i : Int) < (l.length : Int) := by omega
                  simp [s83_0, g0, g1, g12, g13, Nat.beq, hil, hil']
                  refine hex _ _ _ ?_
                  simp [Nat.beq]
                  refine hR _ _ ?_
                  rw [hgo, List.drop_of_length_le (by omega), List.drop_of_length_le (by omega)]
                  rfl
        · have hne' : ¬ (l.length : Int) = (n.length : Int) := by omega
          rw [sameI_len hne] at hR
          cases intsOf_some hl with
          | z b => cases intsOf_some hn with
            | z b => exact absurd rfl hne
            | sl _ =>
              have h1 : ¬ (0 : Int) = (n.length : Int) := hne'
              have h2 : ¬ 0 = n.length := hne
              have h3 : ¬ n = [] := fun h => hne (by rw [h])
              simp [s83, Nat.beq, h1, h2, h3]
              exact hR _ _ rfl
          | sl _ => cases intsOf_some hn with
            | z b =>
              have h1 : ¬ (l.length : Int) = 0 := hne'
              have h2 : ¬ l.length = 0 := hne
              have h3 : ¬ l = [] := fun h => hne (by rw [h])
              simp [s83, Nat.beq, h1, h2, h3]
              exact hR _ _ rfl
            | sl _ =>
              simp [s83, Nat.beq, hne, hne']
              exact hR _ _ rfl
      · cases hg
    · cases hg
  · cases hg

theorem equal42_ok (h84 : T.pure 84 = some gSame) : ∀ args r, gEqT args = some r → ∃ L d n, evPure T L d n 42 args = some r := by
  intro args r hg
  have hB : T.body 42 = some s42 := by rw [hb]; rfl
  unfold gEqT at hg
  split at hg
  · rename_i x y
    split at hg
    · rename_i ts us ht hu
      split at hg
      · rename_i hsh
        cases hg
        have hsh := shortT_is hsh
        replace ht := tgsOf_some ht
        replace hu := tgsOf_some hu
        refine pure_of (L := 2000000) (d := 1) (Gt_evF hB rfl fun R hR => ?_) fun _ => rfl
        by_cases hne : ts.length = us.length
        · have hne' : (ts.length : Int) = (us.length : Int) := by omega
          by_cases h0 : ts.length = 0
          · have hl0 : ts = [] := List.length_eq_zero_iff.1 h0
            subst hl0
            have hn0 : us = [] := List.length_eq_zero_iff.1 hne.symm
            subst hn0
            cases ht with
            | z b =>
              have key : ∀ y', TgsP y' [] → Wk T (evF T 2000000 0) 2000000 [.code s42.body] (Env.of [.z b, y'] 0) [] (finQ s42.res R) := by
                intro y' hq
                cases hq <;>
                · simp [s42, Nat.beq]
                  refine Wk_loop (fun k e ρ1 => k = 0 ∧ e 0 = .z b ∧ e 5 = .int .i64 0) 0 (by omega) ⟨rfl, by simp [Nat.beq], by simp [Nat.beq]⟩ ?_
                  rintro k e ρ1 ⟨rfl, g0, g5⟩ R2 hnor hex hret
                  simp [s42_0, Nat.beq, g0, g5]
                  refine hex _ _ _ ?_
                  simp [Nat.beq]
                  exact hR _ _ rfl
              exact key _ hu
            | sl _ hts =>
              have key : ∀ y', TgsP y' [] → Wk T (evF T 2000000 0) 2000000 [.code s42.body] (Env.of [.sl 3 [], y'] 0) [] (finQ s42.res R) := by
                intro y' hq
                cases hq <;>
                · simp [s42, Nat.beq]
                  refine Wk_loop (fun k e ρ1 => k = 0 ∧ e 0 = .sl 3 [] ∧ e 5 = .int .i64 0) 0 (by omega) ⟨rfl, by simp [Nat.beq], by simp [Nat.beq]⟩ ?_
                  rintro k e ρ1 ⟨rfl, g0, g5⟩ R2 hnor hex hret
                  simp [s42_0, Nat.beq, g0, g5]
                  refine hex _ _ _ ?_
                  simp [Nat.beq]
                  exact hR _ _ rfl
              exact key _ hu
          · cases ht with
            | z b => exact absurd rfl h0
            | sl _ hts =>
              cases hu with
              | z b => exact absurd hne h0
              | sl _ hus =>
                simp [s42, Nat.beq, hne, hne']
                refine Wk_loop (fun k e ρ1 => ∃ i : Nat, k = ts.length - i ∧ i ≤ ts.length ∧ e 0 = .sl 3 (ts.map Tg.cells) ∧ e 1 = .sl 3 (us.map Tg.cells) ∧ e 5 = .int .i64 (i : Nat) ∧ eqTgs ts us = eqTgs (ts.drop i) (us.drop i)) ts.length (by omega)
                  ⟨0, by simp, by omega, by simp [Nat.beq], by simp [Nat.beq], by simp [Nat.beq], rfl⟩ ?_
                rintro k e ρ1 ⟨i, rfl, hi, g0, g1, g5, hgo⟩ R2 hnor hex hret
                by_cases hil : i < ts.length
                · have hil' : (i : Int) < (ts.length : Int) := by omega
                  have hin : i < us.length := by omega
                  have w1 : IntKind.i64.wrap ((i : Int) + 1) = ((i + 1 : Nat) : Int) := by rw [wrap_i64 (by omega) (by omega)]; omega
                  rw [List.drop_eq_getElem_cons hil, List.drop_eq_getElem_cons hin] at hgo
                  have hip := hts ts[i] (List.getElem_mem hil)
                  have hiq := hus us[i] (List.getElem_mem hin)
                  have hss := hsh.2 ts[i] (List.getElem_mem hil)
                  obtain ⟨⟨q, ns, a, b⟩, hx⟩ : ∃ x, ts[i] = x := ⟨_, rfl⟩
                  obtain ⟨⟨q2, ns2, a2, b2⟩, hy⟩ : ∃ x, us[i] = x := ⟨_, rfl⟩
                  rw [hx] at hgo hip hss
                  rw [hy] at hgo hiq
                  replace hss : ns.length ≤ 1000000 := hss
                  replace hip : IntsP q ns := hip
                  replace hiq : IntsP q2 ns2 := hiq
                  have hcell : Tg.cells ⟨q, ns, a, b⟩ = [q, .str a, .str b] := rfl
                  have hcell2 : Tg.cells ⟨q2, ns2, a2, b2⟩ = [q2, .str a2, .str b2] := rfl
                  simp only [eqTgs] at hgo
                  have hsm : gSame [q, q2] = some (.bool (sameI ns ns2)) := by
                    simp only [gSame, hip.of, hiq.of]
                    rw [if_pos hss]
                  have fin0 : eqTg ⟨q, ns, a, b⟩ ⟨q2, ns2, a2, b2⟩ = ((a == a2) && (b == b2) && sameI ns ns2) := rfl
                  rw [fin0] at hgo
                  cases hI : sameI ns ns2 with
                  | false =>
                    rw [hI] at hsm hgo
                    have hgo' : eqTgs ts us = false := by rw [hgo, Bool.and_false, Bool.false_and]
                    cases hip <;> cases hiq <;>
                    · simp [s42_0, g0, g1, g5, Nat.beq, joinCells, hil, hil', hin, hx, hy, hcell, hcell2, h84, hsm]
                      refine hret _ _ ?_
                      simp [Nat.beq]
                      exact hR _ _ (by rw [hgo'])
                  | true =>
                    rw [hI, Bool.and_true] at hgo
                    rw [hI] at hsm
                    cases ha : a == a2 with
                    | false =>
                      have hgo' : eqTgs ts us = false := by rw [hgo, ha, Bool.false_and, Bool.false_and]
                      cases hip <;> cases hiq <;>
                      · simp [s42_0, g0, g1, g5, Nat.beq, joinCells, eqCells, hil, hil', hin, hx, hy, hcell, hcell2, h84, hsm, ha]
                        refine hret _ _ ?_
                        simp [Nat.beq]
                        exact hR _ _ (by rw [hgo'])
                    | true =>
                      cases hbq : b == b2 with
                      | false =>
                        have hgo' : eqTgs ts us = false := by rw [hgo, hbq, Bool.and_false, Bool.false_and]
                        cases hip <;> cases hiq <;>
                        · simp [s42_0, g0, g1, g5, Nat.beq, joinCells, eqCells, hil, hil', hin, hx, hy, hcell, hcell2, h84, hsm, ha, hbq]
                          refine hret _ _ ?_
                          simp [Nat.beq]
                          exact hR _ _ (by rw [hgo'])
                      | true =>
                        have hgo' : eqTgs ts us = eqTgs (ts.drop (i + 1)) (us.drop (i + 1)) := by rw [hgo, ha, hbq, Bool.true_and, Bool.true_and]
                        cases hip <;> cases hiq <;>
                        · simp [s42_0, g0, g1, g5, Nat.beq, joinCells, eqCells, hil, hil', hin, hx, hy, hcell, hcell2, h84, hsm, ha, hbq]
                          refine hnor (ts.length - (i + 1)) _ _ (by omega) ⟨i + 1, rfl, by omega, by simp [Nat.beq, g0], by simp [Nat.beq, g1], by simp [Nat.beq, w1], hgo'⟩
                · have hil' : ¬ (i : Int) < (ts.length : Int) := by omega
                  simp [s42_0, g0, g1, g5, Nat.beq, hil, hil']
                  refine hex _ _ _ ?_
                  simp [Nat.beq]
                  refine hR _ _ ?_
                  rw [hgo, List.drop_of_length_le (by omega), List.drop_of_length_le (by omega)]
                  rfl
        · have hne' : ¬ (ts.length : Int) = (us.length : Int) := by omega
          rw [eqTgs_len hne] at hR
          cases ht with
          | z b => cases hu with
            | z b => exact absurd rfl hne
            | sl _ hus =>
              have h1 : ¬ (0 : Int) = (us.length : Int) := hne'
              have h2 : ¬ 0 = us.length := hne
              have h3 : ¬ us = [] := fun h => hne (by rw [h])
              simp [s42, Nat.beq, h1, h2, h3]
              exact hR _ _ rfl
          | sl _ hts => cases hu with
            | z b =>
              have h1 : ¬ (ts.length : Int) = 0 := hne'
              have h2 : ¬ ts.length = 0 := hne
              have h3 : ¬ ts = [] := fun h => hne (by rw [h])
              simp [s42, Nat.beq, h1, h2, h3]
              exact hR _ _ rfl
            | sl _ hus =>
              simp [s42, Nat.beq, hne, hne']
              exact hR _ _ rfl
      · cases hg
    · cases hg
  · cases hg

theorem eq82_ev (h83 : T.pure 83 = some gSame) {L d : Nat} {q q2 : PV} {ns ns2 : List Int} (hip : IntsP q ns) (hiq : IntsP q2 ns2) (hss : ns.length ≤ 1000000) (a b a2 b2 : ByteArray) (ρ : Store) :
    Gt (evF T L (d + 1) 82 [.agg [q, .str a, .str b], .agg [q2, .str a2, .str b2]] ρ) fun v _ => v = .bool (eqTg ⟨q, ns, a, b⟩ ⟨q2, ns2, a2, b2⟩) := by
  have hB : T.body 82 = some s82 := by rw [hb]; rfl
  refine Gt_evF hB rfl fun R hR => ?_
  have hsm : gSame [q, q2] = some (.bool (sameI ns ns2)) := by
    simp only [gSame, hip.of, hiq.of]
    rw [if_pos hss]
  have fin0 : eqTg ⟨q, ns, a, b⟩ ⟨q2, ns2, a2, b2⟩ = ((a == a2) && (b == b2) && sameI ns ns2) := rfl
  rw [fin0] at hR
  cases ha : a == a2 with
  | false =>
    rw [ha] at hR
    cases hip <;> cases hiq <;>
    · simp [s82, Nat.beq, joinCells, nCells, eqCells, ha]
      exact hR _ _ rfl
  | true =>
    cases hbq : b == b2 with
    | false =>
      rw [ha, hbq] at hR
      cases hip <;> cases hiq <;>
      · simp [s82, Nat.beq, joinCells, nCells, eqCells, ha, hbq]
        exact hR _ _ rfl
    | true =>
      rw [ha, hbq] at hR
      cases hip <;> cases hiq <;>
      · simp [s82, Nat.beq, joinCells, nCells, eqCells, ha, hbq, h83, hsm]
        exact hR _ _ rfl

theorem eq81_ev (h83 : T.pure 83 = some gSame) {L d : Nat} {x y : PV} {ts us : List Tg} (ht : TgsP x ts) (hu : TgsP y us) (hsh : ts.length ≤ 1000000 ∧ ∀ t, t ∈ ts → t.iv.length ≤ 1000000) (hL : 1000000 < L) (ρ : Store) :
    Gt (evF T L (d + 2) 81 [x, y, .fn 82 []] ρ) fun v _ => v = .bool (eqTgs ts us) := by
  have hB : T.body 81 = some s81 := by rw [hb]; rfl
  refine Gt_evF hB rfl fun R hR => ?_
  by_cases hne : ts.length = us.length
  · have hne' : (ts.length : Int) = (us.length : Int) := by omega
    by_cases h0 : ts.length = 0
    · have hl0 : ts = [] := List.length_eq_zero_iff.1 h0
      subst hl0
      have hn0 : us = [] := List.length_eq_zero_iff.1 hne.symm
      subst hn0
      cases ht with
      | z b =>
        have key : ∀ y', TgsP y' [] → Wk T (evF T L (d + 1)) L [.code s81.body] (Env.of [.z b, y', .fn 82 []] 0) ρ (finQ s81.res R) := by
          intro y' hq
          cases hq <;>
          · simp [s81, Nat.beq]
            refine Wk_loop (fun k e ρ1 => k = 0 ∧ e 16 = .int .i64 0 ∧ e 17 = .int .i64 0) 0 (by omega) ⟨rfl, by simp [Nat.beq], by simp [Nat.beq]⟩ ?_
            rintro k e ρ1 ⟨rfl, g0, g5⟩ R2 hnor hex hret
            simp [s81_0, Nat.beq, g0, g5]
            refine hex _ _ _ ?_
            simp [Nat.beq]
            exact hR _ _ rfl
        exact key _ hu
      | sl _ hts =>
        have key : ∀ y', TgsP y' [] → Wk T (evF T L (d + 1)) L [.code s81.body] (Env.of [.sl 3 [], y', .fn 82 []] 0) ρ (finQ s81.res R) := by
          intro y' hq
          cases hq <;>
          · simp [s81, Nat.beq]
            refine Wk_loop (fun k e ρ1 => k = 0 ∧ e 16 = .int .i64 0 ∧ e 17 = .int .i64 0) 0 (by omega) ⟨rfl, by simp [Nat.beq], by simp [Nat.beq]⟩ ?_
            rintro k e ρ1 ⟨rfl, g0, g5⟩ R2 hnor hex hret
            simp [s81_0, Nat.beq, g0, g5]
            refine hex _ _ _ ?_
            simp [Nat.beq]
            exact hR _ _ rfl
        exact key _ hu
    · cases ht with
      | z b => exact absurd rfl h0
      | sl _ hts =>
        cases hu with
        | z b => exact absurd hne h0
        | sl _ hus =>
          simp [s81, Nat.beq, hne, hne']
          refine Wk_loop (fun k e ρ1 => ∃ i : Nat, k = ts.length - i ∧ i ≤ ts.length ∧ e 1 = .sl 3 (us.map Tg.cells) ∧ e 2 = .fn 82 [] ∧ e 15 = .sl 3 (ts.map Tg.cells) ∧ e 16 = .int .i64 ts.length ∧ e 17 = .int .i64 (i : Nat) ∧ eqTgs ts us = eqTgs (ts.drop i) (us.drop i)) ts.length (by omega)
            ⟨0, by simp, by omega, by simp [Nat.beq], by simp [Nat.beq], by simp [Nat.beq], by simp [Nat.beq, hne], by simp [Nat.beq], rfl⟩ ?_
          rintro k e ρ1 ⟨i, rfl, hi, g1, g2, g15, g16, g17, hgo⟩ R2 hnor hex hret
          by_cases hil : i < ts.length
          · have hil' : (i : Int) < (ts.length : Int) := by omega
            have hin : i < us.length := by omega
            have w1 : IntKind.i64.wrap ((i : Int) + 1) = ((i + 1 : Nat) : Int) := by rw [wrap_i64 (by omega) (by omega)]; omega
            rw [List.drop_eq_getElem_cons hil, List.drop_eq_getElem_cons hin] at hgo
            have hip := hts ts[i] (List.getElem_mem hil)
            have hiq := hus us[i] (List.getElem_mem hin)
            have hss := hsh.2 ts[i] (List.getElem_mem hil)
            obtain ⟨⟨q, ns, a, b⟩, hx⟩ : ∃ x, ts[i] = x := ⟨_, rfl⟩
            obtain ⟨⟨q2, ns2, a2, b2⟩, hy⟩ : ∃ x, us[i] = x := ⟨_, rfl⟩
            rw [hx] at hgo hip hss
            rw [hy] at hgo hiq
            replace hss : ns.length ≤ 1000000 := hss
            replace hip : IntsP q ns := hip
            replace hiq : IntsP q2 ns2 := hiq
            have hcell : Tg.cells ⟨q, ns, a, b⟩ = [q, .str a, .str b] := rfl
            have hcell2 : Tg.cells ⟨q2, ns2, a2, b2⟩ = [q2, .str a2, .str b2] := rfl
            simp only [eqTgs] at hgo
            have he82 := fun ρ => eq82_ev hb h83 (L := L) (d := d) hip hiq hss a b a2 b2 ρ
            have w8 : IntKind.i64.wrap 8 = 8 := rfl
            cases hE : eqTg ⟨q, ns, a, b⟩ ⟨q2, ns2, a2, b2⟩ with
            | false =>
              rw [hE] at he82 hgo
              rw [Bool.false_and] at hgo
              cases hip <;> cases hiq <;>
              · simp [s81_0, g1, g2, g15, g16, g17, Nat.beq, joinCells, nCells, spliceAt, one, hil, hil', hin, hx, hy, hcell, hcell2]
                refine stepV_gt (he82 _) ?_
                rintro v ρ2 rfl
                simp [Nat.beq]
                refine hret _ _ ?_
                simp [Nat.beq]
                exact hR _ _ (by rw [hgo])
            | true =>
              rw [hE] at he82 hgo
              rw [Bool.true_and] at hgo
              cases hip <;> cases hiq <;>
              · simp [s81_0, g1, g2, g15, g16, g17, Nat.beq, joinCells, nCells, spliceAt, one, hil, hil', hin, hx, hy, hcell, hcell2]
                refine stepV_gt (he82 _) ?_
                rintro v ρ2 rfl
                simp [Nat.beq, g17, w1]
                refine hnor (ts.length - (i + 1)) _ _ (by omega) ⟨i + 1, rfl, by omega, by simp [Nat.beq, g1], by simp [Nat.beq, g2], by simp [Nat.beq, g15], by simp [Nat.beq, g16], by simp [Nat.beq, w1], hgo⟩
          · have hil' : ¬ (i : Int) < (ts.length : Int) := by omega
            simp [s81_0, g1, g2, g15, g16, g17, Nat.beq, hil, hil']
            refine hex _ _ _ ?_
            simp [Nat.beq]
            refine hR _ _ ?_
            rw [hgo, List.drop_of_length_le (by omega), List.drop_of_length_le (by omega)]
            rfl
  · have hne' : ¬ (ts.length : Int) = (us.length : Int) := by omega
    rw [eqTgs_len hne] at hR
    cases ht with
    | z b => cases hu with
      | z b => exact absurd rfl hne
      | sl _ hus =>
        have h1 : ¬ (0 : Int) = (us.length : Int) := hne'
        have h2 : ¬ 0 = us.length := hne
        have h3 : ¬ us = [] := fun h => hne (by rw [h])
        simp [s81, Nat.beq, h1, h2, h3]
        exact hR _ _ rfl
    | sl _ hts => cases hu with
      | z b =>
        have h1 : ¬ (ts.length : Int) = 0 := hne'
        have h2 : ¬ ts.length = 0 := hne
        have h3 : ¬ ts = [] := fun h => hne (by rw [h])
        simp [s81, Nat.beq, h1, h2, h3]
        exact hR _ _ rfl
      | sl _ hus =>
        simp [s81, Nat.beq, hne, hne']
        exact hR _ _ rfl

theorem equal41_ok (h83 : T.pure 83 = some gSame) : ∀ args r, gEqT args = some r → ∃ L d n, evPure T L d n 41 args = some r := by
  intro args r hg
  have hB : T.body 41 = some s41 := by rw [hb]; rfl
  unfold gEqT at hg
  split at hg
  · rename_i x y
    split at hg
    · rename_i ts us ht hu
      split at hg
      · rename_i hsh
        cases hg
        refine pure_of (L := 2000000) (d := 3) (Gt_evF hB rfl fun R hR => ?_) fun _ => rfl
        simp [s41, Nat.beq]
        refine stepV_gt (eq81_ev hb h83 (d := 0) (tgsOf_some ht) (tgsOf_some hu) (shortT_is hsh) (by omega) []) ?_
        rintro v ρ rfl
        simp [Nat.beq]
        exact hR _ _ rfl
      · cases hg
    · cases hg
  · cases hg
end

def baseS : BT G := .node .nil 83 gSame (.node .nil 84 gSame .nil)
theorem k83 : Contract Tryz.prog 83 gSame := level (b := .nil) trivial (enter_of (s := s83) rfl) pure_same (same83_ok rfl)
theorem k84 : Contract Tryz.prog 84 gSame := level (b := .nil) trivial (enter_of (s := s84) rfl) pure_same (same84_ok rfl)
theorem baseS_ok : baseS.All (Contract Tryz.prog) := ⟨trivial, k83, ⟨trivial, k84, trivial⟩⟩
theorem k41 : Contract Tryz.prog 41 gEqT := level baseS_ok (enter_of (s := s41) rfl) pure_eqT (equal41_ok rfl rfl)
theorem k42 : Contract Tryz.prog 42 gEqT := level baseS_ok (enter_of (s := s42) rfl) pure_eqT (equal42_ok rfl rfl)

end Go.Proofs.YtkccoijckckhmaaGreatDoor.Ev

namespace Go.Proofs.YtkccoijckckhmaaGreatDoor.Ev
open Go Go.RowKit

def gLaw25 : List PV → Option PV
  | [p, x, y] => match intsOf p, tgsOf x, tgsOf y with
    | some _, some _, some _ => some (.bool true)
    | _, _, _ => none
  | _ => none

theorem few_small {l : List Tg} (h : fewB l = true) : smallT l = true ∧ shortT l = true ∧ l.length ≤ 62 := by
  unfold fewB at h
  rw [Bool.and_eq_true, Bool.or_eq_true, Bool.and_eq_true, Nat.ble_eq, Nat.ble_eq, Nat.ble_eq] at h
  obtain ⟨h1, h2⟩ := h
  have hl : l.length ≤ 62 := by omega
  have h3 : ∀ t, t ∈ l → t.iv.length ≤ 8 ∧ t.num.size ≤ 45 ∧ t.den.size ≤ 45 := fun t ht => by
    have := List.all_eq_true.1 h2 t ht
    unfold fewT at this
    rw [Bool.and_eq_true, Bool.and_eq_true, Nat.ble_eq, Nat.ble_eq, Nat.ble_eq] at this
    exact ⟨this.1.1, this.1.2, this.2⟩
  refine ⟨List.all_eq_true.2 fun t ht => ?_, ?_, hl⟩
  · rw [Bool.and_eq_true, Nat.ble_eq, Nat.ble_eq]
    have := h3 t ht
    omega
  · unfold shortT
    rw [Bool.and_eq_true, Nat.ble_eq]
    refine ⟨by omega, List.all_eq_true.2 fun t ht => ?_⟩
    rw [Nat.ble_eq]
    have := h3 t ht
    omega

theorem pure_law25 : ∀ args r, gLaw25 args = some r → ∀ p, p ∈ args → Pure p := fun args r h => by
  unfold gLaw25 at h; split at h
  · split at h
    · rename_i h1 h2 h3
      intro p hp
      rcases List.mem_cons.1 hp with rfl | hp
      · exact (intsOf_some h1).pure
      · exact pure2 (tgsOf_some h2).pure (tgsOf_some h3).pure p hp
    · cases h
  · cases h

theorem known25 : gMemo 12 memo37 [] = some (.bool true) := rfl

section
variable {T : Tab} (hb : T.body = bodies.get)
include hb
set_option maxRecDepth 10000
set_option maxHeartbeats 1600000

theorem law25_ok (h37 : T.pure 37 = some (gMemo 12 memo37)) (h38 : T.pure 38 = some gFew) (h39 : T.pure 39 = some gDCheck) (h40 : T.pure 40 = some gDCheck)
    (h41 : T.pure 41 = some gEqT) (h42 : T.pure 42 = some gEqT) : ∀ args r, gLaw25 args = some r → ∃ L d n, evPure T L d n 8 args = some r := by
  intro args r hg
  have hB : T.body 8 = some s8 := by rw [hb]; rfl
  unfold gLaw25 at hg
  split at hg
  · rename_i p x y
    split at hg
    · rename_i l ts us hl ht hu
      cases hg
      refine pure_of (L := 1) (d := 1) (Gt_evF hB rfl fun R hR => ?_) fun _ => rfl
      have hk : gMemo 12 memo37 [] = some (.bool true) := known25
      have fx : gFew [x] = some (.bool (fewB ts)) := by simp only [gFew, ht]
      have fy : gFew [y] = some (.bool (fewB us)) := by simp only [gFew, hu]
      have mid : ¬ 8 < l.length → (∀ p', IntsP p' l → p' = p → ∀ x', TgsP x' ts → x' = x → ∀ y', TgsP y' us → y' = y → Wk T (evF T 1 0) 1 [.code s8.body] (Env.of [p', x', y'] 0) [] (finQ s8.res R)) := by
        intro h8 p' hp ep x' hx ex y' hy ey
        have h8' : ¬ (8 : Int) < (l.length : Int) := by omega
        subst ep ex ey
        cases fa : fewB ts with
        | false =>
          rw [fa] at fx
          cases hp <;> cases hx <;>
          · simp [s8, Nat.beq, h37, hk, h38, fx, h8, h8']
            exact hR _ _ rfl
        | true =>
          rw [fa] at fx
          obtain ⟨s1, s2, s3⟩ := few_small fa
          cases fb : fewB us with
          | false =>
            rw [fb] at fy
            cases hp <;> cases hx <;> cases hy <;>
            · simp [s8, Nat.beq, h37, hk, h38, fx, fy, h8, h8']
              exact hR _ _ rfl
          | true =>
            rw [fb] at fy
            have hc : gDCheck [p', x'] = some (.int .i64 (eTgs l ts)) := by
              simp only [gDCheck, hl, ht]
              rw [if_pos s1]
            have he : gEqT [x', y'] = some (.bool (eqTgs ts us)) := by
              simp only [gEqT, ht, hu]
              rw [if_pos s2]
            have hs : gEqT [x', x'] = some (.bool true) := by
              simp only [gEqT, ht]
              rw [if_pos s2, eqTgs_refl]
            generalize eTgs l ts = E at hc
            generalize eqTgs ts us = B at he
            cases hp <;> cases hx <;> cases hy <;>
            · simp [s8, Nat.beq, h37, hk, h38, fx, fy, h8, h8', h39, h40, hc, h41, h42, he, hs]
              exact hR _ _ rfl
      by_cases h8 : 8 < l.length
      · have h8' : (8 : Int) < (l.length : Int) := by omega
        cases intsOf_some hl with
        | z b => simp at h8
        | sl _ =>
          simp [s8, Nat.beq, h37, hk, h8, h8']
          exact hR _ _ rfl
      · exact mid h8 p (intsOf_some hl) rfl x (tgsOf_some ht) rfl y (tgsOf_some hu) rfl
    · cases hg
  · cases hg
end

def base25 : BT G := .node (.node (.node .nil 37 (gMemo 12 memo37) .nil) 38 gFew .nil) 39 gDCheck (.node (.node .nil 40 gDCheck .nil) 41 gEqT (.node .nil 42 gEqT .nil))
theorem base25_ok : base25.All (Contract Tryz.prog) := ⟨⟨⟨trivial, k37, trivial⟩, k38, trivial⟩, k39, ⟨⟨trivial, k40, trivial⟩, k41, ⟨trivial, k42, trivial⟩⟩⟩

theorem law25 : Contract Tryz.prog 8 gLaw25 := level base25_ok (enter_of (s := s8) rfl) pure_law25 (law25_ok rfl rfl rfl rfl rfl rfl rfl)

end Go.Proofs.YtkccoijckckhmaaGreatDoor.Ev
