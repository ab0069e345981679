/-
  A region that draws its order, inside a round of a range over a function.
  A region that draws its order, where a store may come before a load that the text has ahead of it.
  One drawing region inside a round: two sums in place.
-/
import Derived.Test.YtkccoijckckhmaaGreatDoorM1
import Derived.OrdersIn
import Derived.CallsIn
import Derived.RangeFuncCalls
import Derived.Test.YtkccoijckckhmaaGreatDoorM3
set_option linter.all false

namespace Go.Proofs.YtkccoijckckhmaaGreatDoor.Ev
open Go Go.RowKit

section
variable {P : Program} {ops : Array Oper} {Q : Exit → Act → World → Prop}

theorem oper_toIn (l n : Nat) {o : Oper} (hd : ∀ c, o.op ≠ .defer c) {a : Act} {w : World} {K : Act → World → Prop} (h : o.wp P a w K Q) : o.wpIn (Fence.wide.inRound l) n P a w K Q := by
  refine ⟨fun f _ => trivial, ?_⟩
  rw [Oper.semAt_eq _ _ _ hd]
  unfold Oper.wp at h
  revert h
  generalize (execOp a.eval o).run P w = r
  intro h
  cases r with
  | ok nx w' =>
    cases nx with
    | value v => exact h
    | skip => exact h
    | defer d => exact h
    | enter f args => exact ⟨(fun h' => by cases h'), CallsIn.inRound l (callsIn_wide.2 h)⟩
    | row row args => exact ⟨(fun h' => by cases h'), fun c cs _ => by obtain ⟨v, w'', r, s⟩ := h c cs; exact ⟨v, w'', r, stepsIn_wide.2 s⟩⟩
    | _ => exact h.elim
  | halt hh w' =>
    cases hh with
    | panic v => exact h
    | _ => exact h.elim

theorem oper_mono {o : Oper} {a : Act} {w : World} {K K' : Act → World → Prop} (hk : ∀ a w, K a w → K' a w) (h : o.wp P a w K Q) : o.wp P a w K' Q := by
  unfold Oper.wp at h ⊢
  revert h
  generalize (execOp a.eval o).run P w = r
  intro h
  cases r with
  | ok nx w' =>
    cases nx with
    | value v => exact hk _ _ h
    | skip => exact hk _ _ h
    | defer d => exact hk _ _ h
    | enter f args =>
      refine Calls.mono h fun e w'' h' => ?_
      cases e with
      | returned v => exact hk _ _ h'
      | panicked ch => exact h'
      | outgrown => exact h'
    | row row args => exact Rows.mono h fun v w'' h' => hk _ _ h'
    | _ => exact h.elim
  | halt hh w' =>
    cases hh with
    | panic v => exact h
    | _ => exact h.elim

theorem wpAny_toIn (l n : Nat) (hd : ∀ (i : Nat) o, ops[i]? = some o → ∀ c, o.op ≠ .defer c) (hq : ¬ LetsOut Q) {md : Region.Mode} : ∀ (fuel : Nat) (listed : Array Bool) (a : Act) (w : World), wpAny P md ops Q fuel listed a w → wpAnyIn (Fence.wide.inRound l) n P md ops Q fuel listed a w
  | 0, _, _, _, h => h
  | fuel + 1, listed, a, w, h => by
    refine ⟨h.1, fun i hi => ?_⟩
    have h2 := h.2 i hi
    unfold wpOp at h2
    unfold wpOpIn
    cases ho : ops[i]? with
    | none => rw [ho] at h2; exact wpAny_toIn l n hd hq fuel _ a w h2
    | some o =>
      rw [ho] at h2
      simp only at h2 ⊢
      split
      · rename_i hw
        rw [if_pos hw] at h2
        rcases h2 with h2 | h2
        · exact oper_toIn l n (hd i o ho) (oper_mono (fun a w => wpAny_toIn l n hd hq fuel _ a w) h2)
        · exact absurd h2.2 hq
      · rename_i hw
        rw [if_neg hw] at h2
        exact ⟨fun f _ => trivial, wpAny_toIn l n hd hq fuel _ _ w h2⟩
end

section
variable {P : Program} {T : Tab} {call : FuncId → List PV → Store → Option (PV × Store)} {rc : FuncId → Bool} {N B : Nat} {w0 : World} {ca : Cm} {df : List Deferred}

theorem region_any (hT : ∀ f g, T.pure f = some g → Contract P f g) (hcall : CallOk P call) (hB0 : B ≤ w0.heap.size) {ops : Array Oper} {sl : List SOper} {Q : Exit → Act → World → Prop} {c : Cm} {μ : Mu} {a : Act} {w : World} {e e' : Env} {ρ ρ' : Store}
    (hco : cOpers P rc N ops ops.toList = some sl) (ho : orderOk ops.toList sl = true) (hev : evOps T call sl e ρ = some (e', ρ')) (hat : At B w0 ca N c μ a w e ρ) (hdf : a.defers = df) (hQ : Later (Q .normal) B w0 ca N df c μ e' ρ') : wpAny P .any ops Q ops.size (Array.replicate ops.size false) a { w with drawn := w.drawn + 1 } := by
  obtain ⟨hlen, hget⟩ := cOpers_get hco
  have hlen' : ops.size = sl.length := by simpa using hlen
  have hget' : ∀ (j : Nat) o, ops[j]? = some o → ∃ so, sl[j]? = some so ∧ cOper P rc N ops o = some so := fun j o ho => hget j o (by simpa using ho)
  unfold orderOk at ho
  split at ho
  · cases ho
  · rename_i b hb
    have hord' : ∀ (i j : Nat) p q, i < j → sl[i]? = some p → sl[j]? = some q → clashes p q = true → i ∈ b.getD j [] := by
      intro i j p q hij hp hq hcl
      have hjl : j < sl.length := by
        rcases Nat.lt_or_ge j sl.length with h' | h'
        · exact h'
        · rw [List.getElem?_eq_none h'] at hq; cases hq
      have h1 := List.all_eq_true.1 ho j (List.mem_range.2 hjl)
      have h2 := List.all_eq_true.1 h1 i (List.mem_range.2 hij)
      rw [hp, hq] at h2
      simp only [hcl, Bool.not_true, Bool.false_or] at h2
      simpa using h2
    have hrep : ∀ i, (Array.replicate ops.size false).getD i false = false := by
      intro i
      rw [Array.getD_eq_getD_getElem?, Array.getElem?_replicate]
      split <;> rfl
    obtain ⟨es, rs, vs, t1, t2, t3, t4, t5⟩ := trace_of hev
    refine wpAny_draw (T := T) (call := call) (rc := rc) (e0 := e) (ρ0 := ρ) hT hcall hB0 (df := df) (b := b) hlen' hget' hb hord' ⟨t1, t2, t3, t4, t5⟩ hQ ops.size _ c μ 0 a _ (LeC.refl _) (LeM.refl _) ⟨by simp, ?_, ?_, hat.size, hdf, Nat.zero_le _, ?_, ?_, ?_⟩ ?_
    · intro j o hl
      rw [hrep] at hl; cases hl
    · intro t
      have : curN e sl vs (fun i => (Array.replicate ops.size false).getD i false) sl.length t = e t := by
        have hz : ∀ k, curN e sl vs (fun i => (Array.replicate ops.size false).getD i false) k t = e t := by
          intro k
          induction k with
          | zero => rfl
          | succ k ih =>
            simp only [curN]
            rw [if_neg, ih]
            rintro ⟨h, _⟩
            rw [hrep] at h; cases h
        exact hz _
      rw [this]
      exact hat.env t
    · rw [t2]; exact hat.inv.drew
    · rw [t2]; exact hat.dom
    · intro i so _ _
      rw [hrep]; simp
    · exact Nat.le_trans List.countP_le_length (by simp)

theorem region_in (l n : Nat) (hm : P.follows .mixedOrders = true) (hT : ∀ f g, T.pure f = some g → Contract P f g) (hcall : CallOk P call) (hB0 : B ≤ w0.heap.size) {id : Nat} {ops : Array Oper} {sl : List SOper} {Q : Exit → Act → World → Prop} {c : Cm} {μ : Mu} {a : Act} {w : World} {e e' : Env} {ρ ρ' : Store}
    (hd : ∀ (i : Nat) o, ops[i]? = some o → ∀ c, o.op ≠ .defer c) (hq : ¬ LetsOut Q)
    (hco : cOpers P rc N ops ops.toList = some sl) (ho : orderOk ops.toList sl = true) (hev : evOps T call sl e ρ = some (e', ρ')) (hat : At B w0 ca N c μ a w e ρ) (hdf : a.defers = df) (hQ : Later (Q .normal) B w0 ca N df c μ e' ρ') : (Code.region id ops true).wpIn (Fence.wide.inRound l) n P Q a w :=
  wpIn_region_any hm (wpAny_toIn l n hd hq _ _ _ _ (region_any hT hcall hB0 hco ho hev hat hdf hQ))
end

end Go.Proofs.YtkccoijckckhmaaGreatDoor.Ev

namespace Go.Proofs.YtkccoijckckhmaaGreatDoor.Ev
open Go Go.RowKit

def Cl.loose : Cl → Cl → Bool
  | .R, .W | .R, .G => true
  | _, _ => false
def clashes2 (a b : SOper) : Bool :=
  (a.op.cl.clash b.op.cl && !(a.op.cl.loose b.op.cl)) ||
  (match a.dst with | some d => b.reads.contains d || b.dst == some d | none => false) ||
  (match b.dst with | some d => a.reads.contains d | none => false)

section
variable {P : Program} {T : Tab} {call : FuncId → List PV → Store → Option (PV × Store)} {rc : FuncId → Bool} {N B : Nat} {w0 : World} {ca : Cm} {ops : Array Oper} {sl : List SOper} {e0 e' : Env} {ρ0 ρ' : Store} {es : Nat → Env} {rs : Nat → Store} {vs : Nat → PV}
theorem wpAny_loose (hT : ∀ f g, T.pure f = some g → Contract P f g) (hcall : CallOk P call) (hB0 : B ≤ w0.heap.size) {df : List Deferred} {Q : Exit → Act → World → Prop} {b : List (List Nat)} (hlen : ops.size = sl.length)
    (hco : ∀ (j : Nat) o, ops[j]? = some o → ∃ so, sl[j]? = some so ∧ cOper P rc N ops o = some so) (hb : befores ops.toList [] = some b) (hord : ∀ (i j : Nat) p q, i < j → sl[i]? = some p → sl[j]? = some q → clashes2 p q = true → i ∈ b.getD j [])
    (hload : ∀ (j : Nat) so, sl[j]? = some so → so.op.cl = .R → ∀ m, j ≤ m → m ≤ sl.length → (∀ i p, j < i → i < m → sl[i]? = some p → (p.op.cl = .W ∨ p.op.cl = .G) → j ∉ b.getD i []) → evOp T call (es j) ρ0 so.op = some (vs j, ρ0) → evOp T call (es j) (rs m) so.op = some (vs j, rs m)) (hrs0 : ∀ (j : Nat) so, sl[j]? = some so → so.op.cl = .R → rs j = ρ0)
    (htr : Tr T call sl e0 e' ρ0 ρ' es rs vs) {c0 : Cm} {μ0 : Mu} (hQ : Later (Q .normal) B w0 ca N df c0 μ0 e' ρ') :
    ∀ (fuel : Nat) (listed : Array Bool) (c : Cm) (μ : Mu) (m : Nat) (a : Act) (w : World), LeC c0 c → LeM μ0 μ → Mid B w0 ca N df ops sl e0 rs vs c μ m listed a w → (List.range ops.size).countP (fun i => !listed.getD i false) ≤ fuel → wpAny P .any ops Q fuel listed a w := by
  obtain ⟨_, bl, bs⟩ := befores_spec hb
  simp only [List.length_nil, Nat.zero_add] at bl bs
  have bs' : ∀ (j : Nat) o, ops[j]? = some o → (∀ e, e ∈ o.after.toList → Region.binds .any e = true → e.on < j) ∧ ∀ i, i ∈ b.getD j [] → ∃ e, e ∈ o.after.toList ∧ Region.binds .any e = true ∧ (i = e.on ∨ i ∈ b.getD e.on []) :=
    fun j o ho => bs j o (by simpa using ho)
  -- what comes before something that may be carried out has been
  have down : ∀ (listed : Array Bool), (∀ (j : Nat) o, listed.getD j false = true → ops[j]? = some o → ∀ e, e ∈ o.after.toList → Region.binds .any e = true → listed.getD e.on false = true) →
      ∀ (n j : Nat), j < n → ∀ o, ops[j]? = some o → (∀ e, e ∈ o.after.toList → Region.binds .any e = true → listed.getD e.on false = true) → ∀ i, i ∈ b.getD j [] → listed.getD i false = true := by
    intro listed hcl n
    induction n with
    | zero => intro j hj; omega
    | succ n ih =>
      intro j hj o ho hall i hi
      obtain ⟨h1, h2⟩ := bs' j o ho
      obtain ⟨e, he, hbd, hor⟩ := h2 i hi
      rcases hor with rfl | hin
      · exact hall e he hbd
      · have hlt := h1 e he hbd
        have hjs : j < ops.size := (Array.getElem?_eq_some_iff.1 ho).1
        obtain ⟨o2, ho2⟩ : ∃ o2, ops[e.on]? = some o2 := ⟨_, Array.getElem?_eq_getElem (by omega)⟩
        exact ih e.on (by omega) o2 ho2 (hcl e.on o2 (hall e he hbd) ho2) i hin
  -- when nothing is ready, all has been carried out
  have alldone : ∀ (listed : Array Bool), listed.size = ops.size → Region.ready .any ops listed = [] → ∀ n i, i < n → i < ops.size → listed.getD i false = true := by
    intro listed hls hr n
    induction n with
    | zero => intro i hi; omega
    | succ n ih =>
      intro i hi his
      cases hl : listed.getD i false with
      | true => rfl
      | false =>
        exfalso
        obtain ⟨o, ho⟩ : ∃ o, ops[i]? = some o := ⟨_, Array.getElem?_eq_getElem his⟩
        have : i ∈ Region.ready .any ops listed := by
          rw [mem_ready]
          refine ⟨?_, o, ho, fun e he hbd => ?_⟩
          · have hlt : i < listed.size := by omega
            simp only [Array.getD_eq_getD_getElem?, Array.getElem?_eq_getElem hlt, Option.getD_some] at hl ⊢
            exact hl
          · have hlt := (bs' i o ho).1 e (by simpa using he) hbd
            exact ih e.on (by omega) (by omega)
        rw [hr] at this
        cases this
  have finish : ∀ (listed : Array Bool) (c : Cm) (μ : Mu) (m : Nat) (a : Act) (w : World), LeC c0 c → LeM μ0 μ → Mid B w0 ca N df ops sl e0 rs vs c μ m listed a w → Region.ready .any ops listed = [] → Q .normal a w := by
    intro listed c μ m a w hc hμ hmid hr
    have hall := alldone listed hmid.lsize hr ops.size
    have hrm : rs m = ρ' := by
      rw [← htr.rn]
      have := htr.same (sl.length - m) m (by have := hmid.hm; omega) fun i so h1 h2 h3 => by
        cases h : isAW so.op.cl with
        | false => rfl
        | true =>
          have := (hmid.aw i so h3 h).1 (hall i (by omega) (by omega))
          omega
      rw [show m + (sl.length - m) = sl.length from by have := hmid.hm; omega] at this
      exact this.symm
    refine hQ a w c μ hc hμ ⟨hrm ▸ hmid.inv, hrm ▸ hmid.dom, fun t => ?_, hmid.size⟩ hmid.defers
    have := hmid.env t
    rwa [curN_eq htr.e0 (fun j so h => (htr.step j so h).2) (Nat.le_refl _) (fun i hi _ => hall i (by omega) (by omega)) (fun i hi hw => by
      rw [List.getElem?_eq_none hi] at hw; cases hw), htr.en] at this
  intro fuel
  induction fuel with
  | zero =>
    intro listed c μ m a w hc hμ hmid hcnt
    have hr : Region.ready .any ops listed = [] := by
      cases hrr : Region.ready .any ops listed with
      | nil => rfl
      | cons i l =>
        exfalso
        have hi : i ∈ Region.ready .any ops listed := by rw [hrr]; exact List.mem_cons_self ..
        rw [mem_ready] at hi
        obtain ⟨hl, o, ho, _⟩ := hi
        have his : i < ops.size := (Array.getElem?_eq_some_iff.1 ho).1
        have hlf : listed.getD i false = false := by
          have hlt : i < listed.size := by rw [hmid.lsize]; exact his
          simp only [Array.getD_eq_getD_getElem?, Array.getElem?_eq_getElem hlt, Option.getD_some] at hl ⊢
          exact hl
        have : 0 < (List.range ops.size).countP (fun i => !listed.getD i false) := List.countP_pos_iff.2 ⟨i, List.mem_range.2 his, by rw [hlf]; rfl⟩
        omega
    exact ⟨hr, finish listed c μ m a w hc hμ hmid hr⟩
  | succ fuel ih =>
    intro listed c μ m a w hc hμ hmid hcnt
    refine ⟨fun hr => finish listed c μ m a w hc hμ hmid hr, fun j hj => ?_⟩
    rw [mem_ready] at hj
    obtain ⟨hl, o, ho, hall⟩ := hj
    have hjs : j < ops.size := (Array.getElem?_eq_some_iff.1 ho).1
    have hlf : listed.getD j false = false := by
      have hlt : j < listed.size := by rw [hmid.lsize]; exact hjs
      simp only [Array.getD_eq_getD_getElem?, Array.getElem?_eq_getElem hlt, Option.getD_some] at hl ⊢
      exact hl
    obtain ⟨so, hso, hcop⟩ := hco j o ho
    obtain ⟨k1, k2, k3, k4⟩ := cOper_spec hcop
    have hall' : ∀ e, e ∈ o.after.toList → Region.binds .any e = true → listed.getD e.on false = true := fun e he hbd => hall e (by simpa using he) hbd
    have hbef := down listed hmid.closed (j + 1) j (by omega) o ho hall'
    have F1 : ∀ i p, i < j → sl[i]? = some p → clashes2 p so = true → listed.getD i false = true := fun i p hi hp hcl => hbef i (hord i j p so hi hp hso hcl)
    have F2 : ∀ k p, j < k → sl[k]? = some p → clashes2 so p = true → listed.getD k false = false := by
      intro k p hk hp hcl
      cases hlk : listed.getD k false with
      | false => rfl
      | true =>
        exfalso
        have hks : k < ops.size := by
          rw [hlen]
          rcases Nat.lt_or_ge k sl.length with h' | h'
          · exact h'
          · rw [List.getElem?_eq_none h'] at hp; cases hp
        obtain ⟨ok, hok⟩ : ∃ o, ops[k]? = some o := ⟨_, Array.getElem?_eq_getElem hks⟩
        have := down listed hmid.closed (k + 1) k (by omega) ok hok (hmid.closed k ok hlk hok) j (hord j k so p hk hso hp hcl)
        rw [hlf] at this
        cases this
    have cl_dst_reads : ∀ p q : SOper, ∀ t, p.dst = some t → t ∈ q.reads → clashes2 p q = true := by
      intro p q t hp hq
      unfold clashes2
      rw [hp]
      simp only [mem_contains hq, Bool.true_or, Bool.or_true]
    have cl_reads_dst : ∀ p q : SOper, ∀ t, t ∈ p.reads → q.dst = some t → clashes2 p q = true := by
      intro p q t hp hq
      unfold clashes2
      rw [hq]
      simp only [mem_contains hp, Bool.or_true]
    have cl_dst_dst : ∀ p q : SOper, ∀ t, p.dst = some t → q.dst = some t → clashes2 p q = true := by
      intro p q t hp hq
      unfold clashes2
      rw [hp, hq]
      simp
    have cl_cl : ∀ p q : SOper, p.op.cl.clash q.op.cl = true → p.op.cl.loose q.op.cl = false → clashes2 p q = true := by
      intro p q h h2
      unfold clashes2
      rw [h, h2]
      rfl
    -- what the operation reads is as in the text's order
    have hread : ∀ t, t ∈ so.reads → curN e0 sl vs (fun i => listed.getD i false) sl.length t = es j t := by
      intro t ht
      refine curN_eq htr.e0 (fun j so h => (htr.step j so h).2) (by omega) (fun i hi hw => ?_) (fun i hi hw => ?_)
      · cases hp : sl[i]? with
        | none => rw [hp] at hw; cases hw
        | some p => rw [hp] at hw; exact F1 i p hi hp (cl_dst_reads p so t hw ht)
      · rcases Nat.lt_or_ge j i with h' | h'
        · cases hp : sl[i]? with
          | none => rw [hp] at hw; cases hw
          | some p => rw [hp] at hw; exact F2 i p h' hp (cl_reads_dst so p t ht hw)
        · have : i = j := by omega
          subst this
          exact hlf
    let es' : Env := fun t => if t ∈ so.reads then es j t else .un
    have henv : EnvR c μ a es' := by
      intro t
      show Rd c μ _ (if t ∈ so.reads then es j t else .un)
      split
      · rename_i ht
        rw [← hread t ht]
        exact hmid.env t
      · exact .un _
    have hes : ∀ t, t ∈ so.op.reads → es j t = es' t := by
      intro t ht
      have : t ∈ so.reads := List.mem_append_left _ ht
      show _ = if t ∈ so.reads then es j t else .un
      rw [if_pos this]
    have hwant : want es' so.guard = want (es j) so.guard := by
      cases hg : so.guard with
      | none => rfl
      | some tb =>
        obtain ⟨t, bb⟩ := tb
        have : t ∈ so.reads := by
          unfold SOper.reads
          rw [hg]
          exact List.mem_append_right _ (by simp)
        simp only [want]
        show (match (if t ∈ so.reads then es j t else .un) with | .bool c => some (c == bb) | .tup [] => some false | _ => none) = _
        rw [if_pos this]
        rfl
    -- the store, as far as it has been written
    have hAWlt : ∀ i p, i < j → sl[i]? = some p → isAW p.op.cl = true → isAW so.op.cl = true → i < m := by
      intro i p hi hp h1 h2
      refine (hmid.aw i p hp h1).1 (F1 i p hi hp (cl_cl p so ?_ ?_))
      · revert h1 h2
        cases p.op.cl <;> cases so.op.cl <;> simp [isAW, Cl.clash]
      · revert h1 h2
        cases p.op.cl <;> cases so.op.cl <;> simp [isAW, Cl.loose]
    have hAWgt : ∀ k p, j < k → sl[k]? = some p → isAW p.op.cl = true → isAW so.op.cl = true → listed.getD k false = false := by
      intro k p hk hp h1 h2
      refine F2 k p hk hp (cl_cl so p ?_ ?_)
      · revert h1 h2
        cases so.op.cl <;> cases p.op.cl <;> simp [isAW, Cl.clash]
      · revert h1 h2
        cases so.op.cl <;> cases p.op.cl <;> simp [isAW, Cl.loose]
    -- the next state
    have next : ∀ (c' : Cm) (μ' : Mu) (m' : Nat) (v : Value) (w' : World), LeC c c' → LeM μ μ' → m' ≤ sl.length → Inv B w0 ca c' μ' (rs m') w' → Dom μ' (rs m') → Rd c' μ' v (vs j) →
        (∀ (i : Nat) so, sl[i]? = some so → isAW so.op.cl = true → ((listed.setIfInBounds j true).getD i false = true ↔ i < m')) →
        wpAny P .any ops Q fuel (listed.setIfInBounds j true) (a.put o.dst v) w' := by
      intro c' μ' m' v w' hlc hlm hm' hinv hdom hv haw
      refine ih (listed.setIfInBounds j true) c' μ' m' _ w' (hc.trans hlc) (hμ.trans hlm) ⟨?_, ?_, ?_, by rw [put_size]; exact hmid.size, by rw [put_defers]; exact hmid.defers, hm', hinv, hdom, haw⟩ ?_
      · simp [hmid.lsize]
      · intro i oi hli hoi e he hbd
        by_cases hij : i = j
        · subst hij
          rw [ho] at hoi; cases hoi
          exact getD_set_true (hall' e he hbd)
        · rw [getD_set_ne false (Ne.symm hij)] at hli
          exact getD_set_true (hmid.closed i oi hli hoi e he hbd)
      · intro t
        by_cases hd : o.dst = some t
        · have htN := k4 t hd
          have hcur : curN e0 sl vs (fun i => (listed.setIfInBounds j true).getD i false) sl.length t = vs j := by
            have hgen : ∀ k, j < k → k ≤ sl.length → curN e0 sl vs (fun i => (listed.setIfInBounds j true).getD i false) k t = vs j := by
              intro k
              induction k with
              | zero => intro h; omega
              | succ k ihk =>
                intro hk hkl
                simp only [curN]
                rcases Nat.lt_or_ge j k with h' | h'
                · rw [if_neg, ihk h' (by omega)]
                  rintro ⟨h1, h2⟩
                  rw [getD_set_ne false (by omega)] at h1
                  cases hp : sl[k]? with
                  | none => rw [hp] at h2; cases h2
                  | some p =>
                    rw [hp] at h2
                    have := F2 k p h' hp (cl_dst_dst so p t (by rw [k3]; exact hd) h2)
                    rw [h1] at this; cases this
                · have : k = j := by omega
                  subst this
                  rw [if_pos]
                  refine ⟨?_, by rw [hso]; simp only [Option.bind_some]; rw [k3]; exact hd⟩
                  have hlt : k < listed.size := by rw [hmid.lsize]; exact hjs
                  simp [hlt]
            exact hgen sl.length (by omega) (Nat.le_refl _)
          rw [hcur, hd]
          have hts : t < a.tmps.size := by rw [hmid.size]; exact htN
          simp only [Act.put, Array.getD_eq_getD_getElem?, Array.getElem?_setIfInBounds_self_of_lt hts, Option.getD_some]
          exact hv
        · have hcur : curN e0 sl vs (fun i => (listed.setIfInBounds j true).getD i false) sl.length t = curN e0 sl vs (fun i => listed.getD i false) sl.length t := by
            refine curN_congr _ fun i hi hw => ?_
            by_cases hij : i = j
            · subst hij
              rw [hso] at hw
              simp only [Option.bind_some] at hw
              rw [k3] at hw
              exact absurd hw hd
            · exact getD_set_ne false (Ne.symm hij)
          rw [hcur]
          have hsame : (a.put o.dst v).tmps.getD t undef = a.tmps.getD t undef := by
            cases hdd : o.dst with
            | none => rfl
            | some u =>
              have hne : u ≠ t := fun h => hd (by rw [hdd, h])
              simp [Act.put, Array.getElem?_setIfInBounds_ne hne]
          rw [hsame]
          exact (hmid.env t).mono hlc hlm
      · have hlt : j < listed.size := by rw [hmid.lsize]; exact hjs
        have := countP_lt (p := fun i => !(listed.setIfInBounds j true).getD i false) (q := fun i => !listed.getD i false) (List.range ops.size) (fun x _ hx => by
          by_cases hxj : x = j
          · subst hxj; rw [hlf]; rfl
          · rw [getD_set_ne false (Ne.symm hxj)] at hx; exact hx) j (List.mem_range.2 hjs) (by rw [hlf]; rfl) (by simp [hlt])
        omega
    unfold wpOp
    simp only [ho]
    rcases (htr.step j so hso).1 with ⟨hw, hv⟩ | ⟨hw, hv, hr⟩
    · have hwd := want_wanted k2 (fun t b _ => henv t) (hwant.trans hw)
      rw [hwd, if_pos rfl]
      left
      rw [evOp.congr hes] at hv
      cases hcl : isAW so.op.cl with
      | true =>
        have hmj : m ≤ j := by
          rcases Nat.lt_or_ge j m with h' | h'
          · have := (hmid.aw j so hso hcl).2 h'
            rw [hlf] at this; cases this
          · exact h'
        have hrj : rs j = rs m := by
          have := htr.same (j - m) m (by omega) fun i p h1 h2 h3 => by
            cases h : isAW p.op.cl with
            | false => rfl
            | true =>
              have := hAWlt i p (by omega) h3 h hcl
              omega
          rwa [show m + (j - m) = j from by omega] at this
        rw [hrj] at hv
        refine (wrote_sound hT hcall hB0 k1 hmid.inv hmid.dom henv hv) _ _ ?_
        rintro u w1 ⟨c1, μ1, q1, q2, q3, q4, q5⟩
        refine next c1 μ1 (j + 1) u w1 q1 q2 (by omega) q3 q4 q5 fun i p hp haw => ?_
        by_cases hij : i = j
        · subst hij
          have hlt : i < listed.size := by rw [hmid.lsize]; exact hjs
          simp [hlt]
        · rw [getD_set_ne false (Ne.symm hij), hmid.aw i p hp haw]
          rcases Nat.lt_or_ge i j with h' | h'
          · have := hAWlt i p h' hp haw hcl
            omega
          · have h2 := hAWgt i p (by omega) hp haw hcl
            have := hmid.aw i p hp haw
            rw [h2] at this
            have : ¬ i < m := fun h => by have := this.2 h; cases this
            omega
      | false =>
        have hst : rs (j + 1) = rs j := evOp.quietStore hcl hv
        have quiet : ∃ ρ2, Inv B w0 ca c μ ρ2 w ∧ (so.op.cl = .P ∨ so.op.cl = .R) ∧ evOp T call es' ρ2 so.op = some (vs j, ρ2) := by
          rw [hst] at hv
          cases hc2 : so.op.cl with
          | A => rw [hc2] at hcl; cases hcl
          | W => rw [hc2] at hcl; cases hcl
          | G => rw [hc2] at hcl; cases hcl
          | P => exact ⟨rs m, hmid.inv, .inl rfl, evOp.anyStore hc2 hv _⟩
          | R =>
            by_cases hjm : j ≤ m
            · refine ⟨rs m, hmid.inv, .inr rfl, ?_⟩
              rw [hrs0 j so hso hc2] at hv
              rw [← evOp.congr hes] at hv ⊢
              refine hload j so hso hc2 m hjm hmid.hm (fun i p h1 h2 h3 h4 hin => ?_) hv
              have hli := (hmid.aw i p h3 (by rcases h4 with h4 | h4 <;> (rw [h4]; rfl))).2 h2
              have his : i < ops.size := by have := hmid.hm; omega
              obtain ⟨oi, hoi⟩ : ∃ o, ops[i]? = some o := ⟨_, Array.getElem?_eq_getElem his⟩
              have := down listed hmid.closed (i + 1) i (by omega) oi hoi (hmid.closed i oi hli hoi) j hin
              rw [hlf] at this; cases this
            refine ⟨rs j, ?_, .inr rfl, hv⟩
            rcases Nat.lt_or_ge m j with h' | h'
            · have x1 := htr.weak (j - m) m (by omega) fun i p h1 h2 h3 hW => by
                have hli := F1 i p (by omega) h3 (cl_cl p so (by rw [hW, hc2]; rfl) (by rw [hW, hc2]; rfl))
                have := (hmid.aw i p h3 (by rw [hW]; rfl)).1 hli
                omega
              rw [show m + (j - m) = j from by omega] at x1
              exact hmid.inv.weak hmid.dom x1
            · exact absurd h' (by omega)
        obtain ⟨ρ2, y1, y2, y3⟩ := quiet
        refine (quiet_sound hT k1 y2 y1 henv y3).2 _ _ ?_
        rintro u w1 ⟨c1, q1, q2, q3, q4, q5⟩
        refine next c1 μ m u w1 q1 (LeM.refl _) hmid.hm (hmid.inv.grow (Nat.le_trans hB0 hmid.inv.below.size) q3 q1 q2 q4) hmid.dom q5 fun i p hp haw => ?_
        by_cases hij : i = j
        · subst hij
          rw [hso] at hp; cases hp
          rw [hcl] at haw; cases haw
        · rw [getD_set_ne false (Ne.symm hij)]
          exact hmid.aw i p hp haw
    · have hwd := want_wanted k2 (fun t b _ => henv t) (hwant.trans hw)
      rw [hwd]
      simp only [Bool.false_eq_true, if_false]
      -- an operation that is not carried out
      cases hcl : isAW so.op.cl with
      | false =>
        refine next c μ m undef w (LeC.refl _) (LeM.refl _) hmid.hm hmid.inv hmid.dom (by rw [hv]; exact rd_undef c μ) fun i p hp haw => ?_
        by_cases hij : i = j
        · subst hij
          rw [hso] at hp; cases hp
          rw [hcl] at haw; cases haw
        · rw [getD_set_ne false (Ne.symm hij)]
          exact hmid.aw i p hp haw
      | true =>
        have hmj : m ≤ j := by
          rcases Nat.lt_or_ge j m with h' | h'
          · have := (hmid.aw j so hso hcl).2 h'
            rw [hlf] at this; cases this
          · exact h'
        have hrj : rs j = rs m := by
          have := htr.same (j - m) m (by omega) fun i p h1 h2 h3 => by
            cases h : isAW p.op.cl with
            | false => rfl
            | true =>
              have := hAWlt i p (by omega) h3 h hcl
              omega
          rwa [show m + (j - m) = j from by omega] at this
        refine next c μ (j + 1) undef w (LeC.refl _) (LeM.refl _) (by omega) (by rw [hr, hrj]; exact hmid.inv) (by rw [hr, hrj]; exact hmid.dom) (by rw [hv]; exact rd_undef c μ) fun i p hp haw => ?_
        by_cases hij : i = j
        · subst hij
          have hlt : i < listed.size := by rw [hmid.lsize]; exact hjs
          simp [hlt]
        · rw [getD_set_ne false (Ne.symm hij), hmid.aw i p hp haw]
          rcases Nat.lt_or_ge i j with h' | h'
          · have := hAWlt i p h' hp haw hcl
            omega
          · have h2 := hAWgt i p (by omega) hp haw hcl
            have := hmid.aw i p hp haw
            rw [h2] at this
            have : ¬ i < m := fun h => by have := this.2 h; cases this
            omega

end

end Go.Proofs.YtkccoijckckhmaaGreatDoor.Ev

namespace Go.Proofs.YtkccoijckckhmaaGreatDoor.Ev
open Go Go.RowKit

def noDefer (ops : Array Oper) : Bool := ops.all fun o => match o.op with | .defer _ => false | _ => true
theorem noDefer_spec {ops : Array Oper} (h : noDefer ops = true) : ∀ (i : Nat) o, ops[i]? = some o → ∀ c, o.op ≠ .defer c := by
  intro i o ho c hc
  unfold noDefer at h
  rw [Array.all_eq_true_iff_forall_mem] at h
  have := h o (Array.mem_of_getElem? ho)
  rw [hc] at this
  cases this

def sl13 : List SOper := [⟨some 48, .ld 1 false (.t 4), none⟩, ⟨some 49, .mv (.t 9), none⟩, ⟨some 50, .mv (.t 11), none⟩, ⟨some 51, .bin .mul (.t 49) (.t 50), none⟩, ⟨some 52, .mv (.t 9), none⟩, ⟨some 53, .mv (.t 13), none⟩, ⟨some 54, .bin .mul (.t 52) (.t 53), none⟩, ⟨some 55, .mm false [.t 51, .t 54], none⟩, ⟨some 56, .bin .add (.t 48) (.t 55), none⟩,
  ⟨some 57, .ld 1 false (.t 5), none⟩, ⟨some 58, .mv (.t 9), none⟩, ⟨some 59, .mv (.t 11), none⟩, ⟨some 60, .bin .mul (.t 58) (.t 59), none⟩, ⟨some 61, .mv (.t 9), none⟩, ⟨some 62, .mv (.t 13), none⟩, ⟨some 63, .bin .mul (.t 61) (.t 62), none⟩, ⟨some 64, .mm true [.t 60, .t 63], none⟩, ⟨some 65, .bin .add (.t 57) (.t 64), none⟩,
  ⟨none, .st 1 (.t 4) (.t 56), none⟩, ⟨none, .st 1 (.t 5) (.t 65), none⟩]

def noTab : Tab := ⟨fun _ => none, fun _ => none⟩
def noCall : FuncId → List PV → Store → Option (PV × Store) := fun _ _ _ => none
def env13 (k x y : Int) : Env := fun t => if t = 4 then .mp 0 1 0 0 else if t = 5 then .mp 1 1 0 0 else if t = 9 then .int .i64 k else if t = 11 then .int .i64 x else if t = 13 then .int .i64 y else .un

set_option maxRecDepth 10000
theorem ev13 (k x y low high : Int) (r : Tok) : ∃ e', evOps noTab noCall sl13 (env13 k x y) [⟨1, [[.int .i64 low]], true⟩, ⟨1, [[.int .i64 high]], true⟩, r] =
    some (e', [⟨1, [[.int .i64 (IntKind.i64.wrap (low + min (IntKind.i64.wrap (k * x)) (IntKind.i64.wrap (k * y))))]], true⟩, ⟨1, [[.int .i64 (IntKind.i64.wrap (high + max (IntKind.i64.wrap (k * x)) (IntKind.i64.wrap (k * y))))]], true⟩, r]) := by
  have h4 : env13 k x y 4 = .mp 0 1 0 0 := rfl
  have h5 : env13 k x y 5 = .mp 1 1 0 0 := rfl
  have h9 : env13 k x y 9 = .int .i64 k := rfl
  have h11 : env13 k x y 11 = .int .i64 x := rfl
  have h13 : env13 k x y 13 = .int .i64 y := rfl
  simp [sl13, evOps, Nat.beq, h4, h5, h9, h11, h13, joinCells, nCells, spliceAt, one]

theorem st_set {T : Tab} {call : FuncId → List PV → Store → Option (PV × Store)} {e : Env} {ρ ρ' : Store} {n : Nat} {x v : SV} {id esz i j : Nat} {p : PV} (hx : x.ev e = .mp id esz i j) (h : evOp T call e ρ (.st n x v) = some (p, ρ')) : ∃ t, ρ' = ρ.set id t := by
  simp only [evOp, hx] at h
  split at h
  · split at h
    · split at h
      · split at h
        · cases h; exact ⟨_, rfl⟩
        · cases h
      · cases h
    · cases h
  · cases h

def okLoose (ops : Array Oper) : Bool := match befores ops.toList [] with
  | none => false
  | some b => ((List.range sl13.length).all fun j => (List.range j).all fun i =>
      match sl13[i]?, sl13[j]? with
      | some p, some o => !(clashes2 p o) || (b.getD j []).contains i
      | _, _ => true) && (b.getD 19 []).contains 9 && (b.getD 18 []).contains 0 && (b.getD 19 []).contains 0

theorem sl13_cases {j : Nat} {so : SOper} (h : sl13[j]? = some so) : j < 20 := by
  rcases Nat.lt_or_ge j 20 with h' | h'
  · exact h'
  · rw [List.getElem?_eq_none (by simpa [sl13] using h')] at h; cases h

theorem region13_in (l n : Nat) {P : Program} (hm : P.follows .mixedOrders = true) {id : Nat} {ops : Array Oper} (hd : noDefer ops = true) (hco : cOpers P (fun _ => false) 68 ops ops.toList = some sl13) (ho : okLoose ops = true) {B : Nat} {w0 : World} {ca : Cm} (hB0 : B ≤ w0.heap.size) {Q : Exit → Act → World → Prop} {c : Cm} {μ : Mu} {a : Act} {w : World} {k x y low high : Int} {r : Tok} {e' : Env} {ρ' : Store} (hq : ¬ LetsOut Q)
    (hev : evOps noTab noCall sl13 (env13 k x y) [⟨1, [[.int .i64 low]], true⟩, ⟨1, [[.int .i64 high]], true⟩, r] = some (e', ρ')) (hat : At B w0 ca 68 c μ a w (env13 k x y) [⟨1, [[.int .i64 low]], true⟩, ⟨1, [[.int .i64 high]], true⟩, r]) (hdf : a.defers = []) (hQ : Later (Q .normal) B w0 ca 68 [] c μ e' ρ') : (Code.region id ops true).wpIn (Fence.wide.inRound l) n P Q a w := by
  obtain ⟨hlen, hget⟩ := cOpers_get hco
  have hlen' : ops.size = sl13.length := by simpa using hlen
  have hget' : ∀ (j : Nat) o, ops[j]? = some o → ∃ so, sl13[j]? = some so ∧ cOper P (fun _ => false) 68 ops o = some so := fun j o ho => hget j o (by simpa using ho)
  unfold okLoose at ho
  split at ho
  · cases ho
  · rename_i b hb
    rw [Bool.and_eq_true, Bool.and_eq_true, Bool.and_eq_true] at ho
    obtain ⟨⟨⟨ho, h199⟩, h180⟩, h190⟩ := ho
    have hord' : ∀ (i j : Nat) p q, i < j → sl13[i]? = some p → sl13[j]? = some q → clashes2 p q = true → i ∈ b.getD j [] := by
      intro i j p q hij hp hq hcl
      have hjl : j < sl13.length := by
        rcases Nat.lt_or_ge j sl13.length with h' | h'
        · exact h'
        · rw [List.getElem?_eq_none h'] at hq; cases hq
      have h1 := List.all_eq_true.1 ho j (List.mem_range.2 hjl)
      have h2 := List.all_eq_true.1 h1 i (List.mem_range.2 hij)
      rw [hp, hq] at h2
      simp only [hcl, Bool.not_true, Bool.false_or] at h2
      simpa using h2
    have hrep : ∀ i, (Array.replicate ops.size false).getD i false = false := by
      intro i
      rw [Array.getD_eq_getD_getElem?, Array.getElem?_replicate]
      split <;> rfl
    obtain ⟨es, rs, vs, t1, t2, t3, t4, t5⟩ := trace_of hev
    have htr : Tr noTab noCall sl13 (env13 k x y) e' [⟨1, [[.int .i64 low]], true⟩, ⟨1, [[.int .i64 high]], true⟩, r] ρ' es rs vs := ⟨t1, t2, t3, t4, t5⟩
    have hslots : ∀ j, j ≤ 20 → es j 4 = .mp 0 1 0 0 ∧ es j 5 = .mp 1 1 0 0 := by
      intro j
      induction j with
      | zero => intro _; rw [t1]; exact ⟨rfl, rfl⟩
      | succ j ih =>
        intro hj
        obtain ⟨i4, i5⟩ := ih (by omega)
        obtain ⟨so, hso⟩ : ∃ so, sl13[j]? = some so := ⟨_, List.getElem?_eq_getElem (by simp [sl13]; omega)⟩
        have hs := (t5 j so hso).2
        have hdst : ∀ d, so.dst = some d → 48 ≤ d := by
          intro d hd
          have := sl13_cases hso
          obtain rfl | rfl | rfl | rfl | rfl | rfl | rfl | rfl | rfl | rfl | rfl | rfl | rfl | rfl | rfl | rfl | rfl | rfl | rfl | rfl : j = 0 ∨ j = 1 ∨ j = 2 ∨ j = 3 ∨ j = 4 ∨ j = 5 ∨ j = 6 ∨ j = 7 ∨ j = 8 ∨ j = 9 ∨ j = 10 ∨ j = 11 ∨ j = 12 ∨ j = 13 ∨ j = 14 ∨ j = 15 ∨ j = 16 ∨ j = 17 ∨ j = 18 ∨ j = 19 := by omega
          all_goals (cases hso; cases hd <;> omega)
        rw [hs, Env.put_at, Env.put_at]
        rw [if_neg (fun h => by have := hdst 4 h; omega), if_neg (fun h => by have := hdst 5 h; omega)]
        exact ⟨i4, i5⟩
    have haw : ∀ (i : Nat) so, i < 18 → sl13[i]? = some so → isAW so.op.cl = false := by
      intro j so hj hso
      obtain rfl | rfl | rfl | rfl | rfl | rfl | rfl | rfl | rfl | rfl | rfl | rfl | rfl | rfl | rfl | rfl | rfl | rfl : j = 0 ∨ j = 1 ∨ j = 2 ∨ j = 3 ∨ j = 4 ∨ j = 5 ∨ j = 6 ∨ j = 7 ∨ j = 8 ∨ j = 9 ∨ j = 10 ∨ j = 11 ∨ j = 12 ∨ j = 13 ∨ j = 14 ∨ j = 15 ∨ j = 16 ∨ j = 17 := by omega
      all_goals (cases hso; rfl)
    have hrs : ∀ m, m ≤ 18 → rs m = [⟨1, [[.int .i64 low]], true⟩, ⟨1, [[.int .i64 high]], true⟩, r] := by
      intro m hm
      have := htr.same m 0 (by simp [sl13]; omega) fun i so _ h2 h3 => haw i so (by omega) h3
      rw [Nat.zero_add] at this
      rw [this, t2]
    have hR : ∀ (j : Nat) so, sl13[j]? = some so → so.op.cl = .R → j = 0 ∨ j = 9 := by
      intro j so hso hcl
      have := sl13_cases hso
      obtain rfl | rfl | rfl | rfl | rfl | rfl | rfl | rfl | rfl | rfl | rfl | rfl | rfl | rfl | rfl | rfl | rfl | rfl | rfl | rfl : j = 0 ∨ j = 1 ∨ j = 2 ∨ j = 3 ∨ j = 4 ∨ j = 5 ∨ j = 6 ∨ j = 7 ∨ j = 8 ∨ j = 9 ∨ j = 10 ∨ j = 11 ∨ j = 12 ∨ j = 13 ∨ j = 14 ∨ j = 15 ∨ j = 16 ∨ j = 17 ∨ j = 18 ∨ j = 19 := by omega
      all_goals (first | exact .inl rfl | exact .inr rfl | (cases hso; cases hcl))
    refine wpIn_region_any hm (wpAny_toIn l n (noDefer_spec hd) hq _ _ _ _ ?_)
    refine wpAny_loose (T := noTab) (call := noCall) (rc := fun _ => false) (e0 := env13 k x y) (ρ0 := [⟨1, [[.int .i64 low]], true⟩, ⟨1, [[.int .i64 high]], true⟩, r]) (fun f g h => by cases h) (fun g args ρ r ρ' h => by cases h) hB0 (df := []) (b := b) hlen' hget' hb hord' ?_ (fun j so h1 h2 => hrs j (by rcases hR j so h1 h2 with h | h <;> omega)) htr hQ ops.size _ c μ 0 a _ (LeC.refl _) (LeM.refl _) ⟨by simp, ?_, ?_, hat.size, hdf, Nat.zero_le _, ?_, ?_, ?_⟩ ?_
    · intro j so hso hcl m hjm hml hbef hv
      have hml2 : m ≤ 20 := by simpa [sl13] using hml
      rcases hR j so hso hcl with rfl | rfl
      · have hm18 : m ≤ 18 := by
          rcases Nat.lt_or_ge 18 m with h | h
          · exact absurd (by simpa using h180) (hbef 18 _ (by omega) h rfl (.inl rfl))
          · exact h
        rw [hrs m hm18]; exact hv
      · have hm19 : m ≤ 19 := by
          rcases Nat.lt_or_ge 19 m with h | h
          · exact absurd (by simpa using h199) (hbef 19 _ (by omega) h rfl (.inl rfl))
          · exact h
        rcases Nat.lt_or_ge m 19 with h | h
        · rw [hrs m (by omega)]; exact hv
        · have : m = 19 := by omega
          subst this
          cases hso
          have h5 := (hslots 9 (by omega)).2
          have h18 := (t5 18 _ rfl).1
          have h184 := (hslots 18 (by omega)).1
          rcases h18 with ⟨_, h18⟩ | ⟨h18, _⟩
          · rw [hrs 18 (by omega)] at h18
            obtain ⟨t, ht⟩ := st_set (T := noTab) (call := noCall) (e := es 18) (x := .t 4) h184 h18
            rw [ht]
            simp only [evOp, SV.ev, h5] at hv ⊢
            simp [joinCells] at hv
            simp [joinCells, hv]
          · cases h18
    · intro j o hl
      rw [hrep] at hl; cases hl
    · intro t
      have : curN (env13 k x y) sl13 vs (fun i => (Array.replicate ops.size false).getD i false) sl13.length t = env13 k x y t := by
        have hz : ∀ n, curN (env13 k x y) sl13 vs (fun i => (Array.replicate ops.size false).getD i false) n t = env13 k x y t := by
          intro n
          induction n with
          | zero => rfl
          | succ n ih =>
            simp only [curN]
            rw [if_neg, ih]
            rintro ⟨h, _⟩
            rw [hrep] at h; cases h
        exact hz _
      rw [this]
      exact hat.env t
    · rw [t2]; exact hat.inv.drew
    · rw [t2]; exact hat.dom
    · intro i so _ _
      rw [hrep]; simp
    · exact Nat.le_trans List.countP_le_length (by simp)

theorem minmax_in (l n : Nat) {P : Program} (hm : P.follows .mixedOrders = true) {id : Nat} {ops : Array Oper} (hd : noDefer ops = true) (hco : cOpers P (fun _ => false) 68 ops ops.toList = some sl13) (ho : okLoose ops = true) {a : Act} {w : World} {B L H S : Nat} {low high k x y : Int} {el2 el3 el4 : TypeId}
    (hl : Laid w) (hB : 5 ≤ B) (hBw : B ≤ w.heap.size) (hBL : B ≤ L) (hBH : B ≤ H) (hBS : B ≤ S) (n1 : L ≠ H) (n2 : L ≠ S) (n3 : H ≠ S) (bL : w.heap[L]? = some (.cells #[.int .i64 low] el2 (0, 0))) (bH : w.heap[H]? = some (.cells #[.int .i64 high] el3 (0, 0))) (bS : w.heap[S]? = some (.cells #[.bool false] el4 (0, 0)))
    (hsz : a.tmps.size = 68) (hdf : a.defers = []) (t4 : a.tmps.getD 4 undef = .pointer (some ⟨L, 0, none⟩)) (t5 : a.tmps.getD 5 undef = .pointer (some ⟨H, 0, none⟩)) (t9 : a.tmps.getD 9 undef = .int .i64 k) (t11 : a.tmps.getD 11 undef = .int .i64 x) (t13 : a.tmps.getD 13 undef = .int .i64 y)
    {Q : Exit → Act → World → Prop} (hq : ¬ LetsOut Q)
    (hQ : ∀ a' w' f2 f3 f4, w'.heap[L]? = some (.cells #[.int .i64 (IntKind.i64.wrap (low + min (IntKind.i64.wrap (k * x)) (IntKind.i64.wrap (k * y))))] f2 (0, 0)) → w'.heap[H]? = some (.cells #[.int .i64 (IntKind.i64.wrap (high + max (IntKind.i64.wrap (k * x)) (IntKind.i64.wrap (k * y))))] f3 (0, 0)) → w'.heap[S]? = some (.cells #[.bool false] f4 (0, 0)) →
      (∀ b, b ≠ L → b ≠ H → b ≠ S → ∀ o u, w.cell? ⟨b, o, none⟩ = some u → w'.cell? ⟨b, o, none⟩ = some u) → Below B w w' → (∀ (b : Nat) (o : Obj), w.heap[b]? = some o → o.isCells = false → w'.heap[b]? = some o) → Q .normal a' w') : (Code.region id ops true).wpIn (Fence.wide.inRound l) n P Q a w := by
  obtain ⟨e', hev⟩ := ev13 k x y low high ⟨1, [[.bool false]], true⟩
  let c : Cm := fun b o => if b = L ∨ b = H ∨ b = S then none else w.cell? ⟨b, o, none⟩
  let μ : Mu := fun i => if i = 0 then some (L, 1) else if i = 1 then some (H, 1) else if i = 2 then some (S, 1) else none
  have hcc : ∀ b o u, c b o = some u → w.cell? ⟨b, o, none⟩ = some u := by
    intro b o u h
    simp only [c] at h
    split at h
    · cases h
    · exact h
  have tok : ∀ (b : Nat) (v : Value) (p : PV) (el : TypeId), (b = L ∨ b = H ∨ b = S) → w.heap[b]? = some (.cells #[v] el (0, 0)) → Rd c μ v p → TokOk c μ ⟨1, [[p]], true⟩ b 1 w := by
    intro b v p el hb hbl hr
    refine ⟨fun o => by simp only [c]; rw [if_pos hb], by simp, by simp, #[v], el, hbl, rfl, ?_⟩
    intro i j x hx
    match i, j, hx with
    | 0, 0, hx => cases hx; exact hr
    | 0, j + 1, hx => simp [cellAt] at hx
    | i + 1, j, hx => simp [cellAt] at hx
  have hI : Inv B w c c μ [⟨1, [[.int .i64 low]], true⟩, ⟨1, [[.int .i64 high]], true⟩, ⟨1, [[.bool false]], true⟩] w := by
    refine ⟨Below.refl _ _, hcc, ?_, ?_, ?_, ?_, fun _ _ _ _ h => h, ⟨hl, hB⟩, fun _ _ h _ => h⟩
    · intro i b N h
      simp only [μ] at h
      split at h
      · cases h; exact hBL
      · split at h
        · cases h; exact hBH
        · split at h
          · cases h; exact hBS
          · cases h
    · intro i t b N h1 h2 _
      match i, h1, h2 with
      | 0, h1, h2 => cases h1; cases h2; exact tok _ _ _ _ (.inl rfl) bL (.int _ _)
      | 1, h1, h2 => cases h1; cases h2; exact tok _ _ _ _ (.inr (.inl rfl)) bH (.int _ _)
      | 2, h1, h2 => cases h1; cases h2; exact tok _ _ _ _ (.inr (.inr rfl)) bS (.bool _)
      | i + 3, h1, h2 => simp at h1
    · intro i t h1 h2
      match i, h1 with
      | 0, h1 => cases h1; cases h2
      | 1, h1 => cases h1; cases h2
      | 2, h1 => cases h1; cases h2
      | i + 3, h1 => simp at h1
    · intro i j k1 k2 b N1 N2 h1 h2 _ _ m1 m2
      match i, j, h1, h2, m1, m2 with
      | 0, 0, _, _, _, _ => rfl
      | 1, 1, _, _, _, _ => rfl
      | 2, 2, _, _, _, _ => rfl
      | 0, 1, _, _, m1, m2 => cases m1; cases m2; exact absurd rfl n1
      | 0, 2, _, _, m1, m2 => cases m1; cases m2; exact absurd rfl n2
      | 1, 0, _, _, m1, m2 => cases m1; cases m2; exact absurd rfl n1
      | 1, 2, _, _, m1, m2 => cases m1; cases m2; exact absurd rfl n3
      | 2, 0, _, _, m1, m2 => cases m1; cases m2; exact absurd rfl n2
      | 2, 1, _, _, m1, m2 => cases m1; cases m2; exact absurd rfl n3
      | i + 3, _, h1, _, _, _ => simp at h1
      | 0, j + 3, _, h2, _, _ => simp at h2
      | 1, j + 3, _, h2, _, _ => simp at h2
      | 2, j + 3, _, h2, _, _ => simp at h2
  have hE : EnvR c μ a (env13 k x y) := by
    intro t
    unfold env13
    split
    · rename_i h; subst h; rw [t4]; exact .mp 0 1 0 0 L 1 rfl
    · split
      · rename_i h; subst h; rw [t5]; exact .mp 1 1 0 0 H 1 rfl
      · split
        · rename_i h; subst h; rw [t9]; exact .int _ _
        · split
          · rename_i h; subst h; rw [t11]; exact .int _ _
          · split
            · rename_i h; subst h; rw [t13]; exact .int _ _
            · exact .un _
  have hdom : Dom μ [⟨1, [[.int .i64 low]], true⟩, ⟨1, [[.int .i64 high]], true⟩, ⟨1, [[.bool false]], true⟩] := by
    intro i hi
    simp only [List.length_cons, List.length_nil] at hi
    simp only [μ]
    rw [if_neg (by omega), if_neg (by omega), if_neg (by omega)]
  refine region13_in (B := B) (w0 := w) (ca := c) l n hm hd hco ho hBw hq hev ⟨hI, hdom, hE, hsz⟩ hdf ?_
  intro a' w' c' μ' hc' hm' hat _
  have out : ∀ (i b : Nat) (p : PV) (v : Value), μ i = some (b, 1) → (∀ u, Rd c' μ' u p → u = v) → ([(⟨1, [[.int .i64 (IntKind.i64.wrap (low + min (IntKind.i64.wrap (k * x)) (IntKind.i64.wrap (k * y))))]], true⟩ : Tok), ⟨1, [[.int .i64 (IntKind.i64.wrap (high + max (IntKind.i64.wrap (k * x)) (IntKind.i64.wrap (k * y))))]], true⟩, ⟨1, [[.bool false]], true⟩])[i]? = some ⟨1, [[p]], true⟩ → ∃ f, w'.heap[b]? = some (.cells #[v] f (0, 0)) := by
    intro i b p v hmu hv hi
    obtain ⟨_, _, _, arr, el, h4, h5, h6⟩ := hat.inv.tok i _ b 1 hi (hm' _ _ hmu) rfl
    have h7 := hv _ (h6 0 0 p rfl)
    refine ⟨el, ?_⟩
    rw [h4]
    have : arr = #[v] := by
      apply Array.ext
      · simpa using h5
      · intro j hj1 hj2
        have : j = 0 := by simp at hj2; omega
        subst this
        simp only [Nat.zero_mul, Nat.add_zero] at h7
        rw [Array.getD_eq_getD_getElem?, Array.getElem?_eq_getElem hj1] at h7
        simpa using h7
    rw [this]
  obtain ⟨f2, o2⟩ := out 0 L _ (.int .i64 _) rfl (fun u h => by cases h; rfl) rfl
  obtain ⟨f3, o3⟩ := out 1 H _ (.int .i64 _) rfl (fun u h => by cases h; rfl) rfl
  obtain ⟨f4, o4⟩ := out 2 S _ (.bool false) rfl (fun u h => by cases h; rfl) rfl
  refine hQ a' w' f2 f3 f4 o2 o3 o4 (fun b h1 h2 h3 o u hu => ?_) hat.inv.below hat.inv.rest
  refine hat.inv.cells b o u (hc' _ _ _ ?_)
  show (if b = L ∨ b = H ∨ b = S then none else w.cell? ⟨b, o, none⟩) = some u
  rw [if_neg (by rintro (h | h | h) <;> contradiction)]
  exact hu

end Go.Proofs.YtkccoijckckhmaaGreatDoor.Ev
