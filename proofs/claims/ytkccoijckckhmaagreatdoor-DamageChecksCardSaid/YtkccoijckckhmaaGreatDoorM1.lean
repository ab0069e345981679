/-
  The operations that make rows of the store, or write them.
  The operations that make rows of the store, or write them: each does what the evaluator says.
  Append, and calls that share the store.
  All operations that work on the store in one theorem; regions in the order of the text.
  Regions: in the order of the text; and in whatever order their edges allow.
  Regions in the order of the text.
  Regions in whatever order their edges allow.
  A region that draws its order comes to what the text's order comes to.
  Code, loops, functions: the evaluator's answer is the machine's; and how a contract comes out of it.
  Functions: the evaluator's answer is what the call returns; and the contract that comes out of it.
-/
import Derived.Test.YtkccoijckckhmaaGreatDoorM0
import Derived.Scope
set_option linter.all false

namespace Go.Proofs.YtkccoijckckhmaaGreatDoor.Ev
open Go Go.RowKit

/-- Array cells from the first on read as these; there may be more. -/
def RdP (c : Cm) (μ : Mu) (vs : Array Value) (ps : List PV) : Prop := ps.length ≤ vs.size ∧ ∀ (i : Nat) x, ps[i]? = some x → Rd c μ (vs.getD i undef) x

theorem TokOk.flat {c : Cm} {μ : Mu} {k : Tok} {b N : Nat} {w : World} (h : TokOk c μ k b N w) : ∃ arr el, w.heap[b]? = some (.cells arr el (0, 0)) ∧ arr.size = N ∧ RdP c μ arr k.es.flatten := by
  obtain ⟨t1, t2, t3, arr, el, t4, t5, t6⟩ := h
  refine ⟨arr, el, t4, t5, by rw [flat_len t2]; omega, fun i x e => ?_⟩
  have hlt : i < k.es.length * k.esz := by
    rcases Nat.lt_or_ge i (k.es.length * k.esz) with h' | h'
    · exact h'
    · rw [List.getElem?_eq_none (by rw [flat_len t2]; exact h')] at e; cases e
  have hz : 0 < k.esz := by
    rcases Nat.eq_zero_or_pos k.esz with h' | h'
    · rw [h'] at hlt; simp at hlt
    · exact h'
  have := flat_at t2 (i / k.esz) (i % k.esz) ((Nat.div_lt_iff_lt_mul hz).2 hlt) (Nat.mod_lt _ hz)
  have hidx : i / k.esz * k.esz + i % k.esz = i := by rw [Nat.mul_comm]; exact Nat.div_add_mod _ _
  rw [hidx] at this
  rw [this] at e
  have := t6 _ _ x e
  rwa [hidx] at this

theorem TokOk.of_flat {c : Cm} {μ : Mu} {k : Tok} {b N : Nat} {w : World} (hc : ∀ o, c b o = none) (hl : ∀ cs, cs ∈ k.es → cs.length = k.esz) {arr : Array Value} {el : TypeId} (h4 : w.heap[b]? = some (.cells arr el (0, 0))) (h5 : arr.size = N) (h6 : RdP c μ arr k.es.flatten) : TokOk c μ k b N w := by
  refine ⟨hc, hl, by have := h6.1; rw [flat_len hl] at this; omega, arr, el, h4, h5, fun i j x e => ?_⟩
  have := cellAt_lt hl e
  refine h6.2 _ x ?_
  rw [flat_at hl i j this.1 this.2.1]
  exact e

theorem spliceP {c : Cm} {μ : Mu} {off : Nat} {cs : Array Value} {v : List Value} {ps qs : List PV} (h : RdP c μ cs ps) (hv : RdL c μ v qs) (hl : off ≤ ps.length) (hl2 : off + qs.length ≤ cs.size) :
    RdP c μ ((v.zipIdx 0).foldl (fun (cs : Array Value) (p : Value × Nat) => cs.setIfInBounds (off + p.2) p.1) cs) (spliceAt ps off qs) := by
  have hvl := hv.length
  have hlen : (spliceAt ps off qs).length = off + qs.length + (ps.length - (off + qs.length)) := by simp [spliceAt]; omega
  refine ⟨by rw [setFold_size, hlen]; have := h.1; omega, fun i x e => ?_⟩
  rw [setFold_get off v 0 cs i (by omega)]
  unfold spliceAt at e
  simp only [Nat.add_zero, Nat.sub_zero, hvl]
  rw [List.append_assoc, List.getElem?_append] at e
  simp only [List.length_take, Nat.min_eq_left hl] at e
  split at e
  · rename_i hi
    rw [if_neg (by omega)]
    rw [List.getElem?_take, if_pos hi] at e
    exact h.2 i x e
  · rename_i hi
    rw [List.getElem?_append] at e
    split at e
    · rename_i hi2
      rw [if_pos (by omega)]
      exact hv.get (i - off) x e
    · rename_i hi2
      rw [if_neg (by omega)]
      rw [List.getElem?_drop] at e
      rw [show off + qs.length + (i - off - qs.length) = i from by omega] at e
      exact h.2 i x e

theorem one_rd {c : Cm} {μ : Mu} {v : Value} {p : PV} (h : Rd c μ v p) (ho : one p = true) : v.oneCell' = true := by
  cases h <;> first | rfl | cases ho

/-- Cells stored one behind another into a block of the call's own. -/
theorem storeCells_run {P : Program} {b off : Nat} {el : TypeId} : ∀ (vs : List Value) (i : Nat) (w : World) (arr : Array Value), (∀ v, v ∈ vs → v.oneCell' = true) → w.heap[b]? = some (.cells arr el (0, 0)) → off + i + vs.length ≤ arr.size →
    ∃ w', (storeCells ⟨b, off, none⟩ vs i).run P w = .ok () w' ∧ w'.heap[b]? = some (.cells ((vs.zipIdx i).foldl (fun (cs : Array Value) (p : Value × Nat) => cs.setIfInBounds (off + p.2) p.1) arr) el (0, 0)) ∧ (∀ B, B ≤ b → Below B w w') ∧ (∀ k, k ≠ b → w'.heap[k]? = w.heap[k]?) ∧ w'.heap.size = w.heap.size
  | [], i, w, arr, _, h, _ => ⟨w, rfl, h, fun _ _ => Below.refl _ _, fun _ _ => rfl, rfl⟩
  | v :: vs, i, w, arr, ho, h, hl => by
    simp only [List.length_cons] at hl
    have hcell : w.cell? ⟨b, off + i, none⟩ = some (arr.getD (off + i) undef) := cell_of_heap h rfl (by omega)
    have hfr : w.frozen? ⟨b, off + i, none⟩ = false := by simp [World.frozen?, h]
    have hst : (store ((⟨b, off, none⟩ : Addr).add i) v).run P w = .ok () (w.setCell ⟨b, off + i, none⟩ v) := by
      rw [addr_add, run_store P w _ v .plain (ho v (List.mem_cons_self ..)), hcell]
      simp [hfr]
    have hw1 : (w.setCell ⟨b, off + i, none⟩ v).heap[b]? = some (.cells (arr.setIfInBounds (off + i) v) el (0, 0)) := by
      simp [World.setCell, Array.getElem?_modify, h]
    obtain ⟨w', r1, r2, r3, r4, r5⟩ := storeCells_run (P := P) (b := b) (off := off) vs (i + 1) (w.setCell ⟨b, off + i, none⟩ v) (arr.setIfInBounds (off + i) v) (fun u hu => ho u (List.mem_cons_of_mem _ hu)) hw1 (by simp; omega)
    refine ⟨w', ?_, ?_, fun B hB => ((Below.refl B w).setCell (p := ⟨b, off + i, none⟩) hB v).trans (r3 B hB), fun k hk => ?_, ?_⟩
    · simp only [storeCells, Sem.run_bind, hst, Result.andThen_ok]
      exact r1
    · simpa [List.zipIdx_cons] using r2
    · rw [r4 k hk]
      exact Below.heap_setCell _ _ _ _ hk
    · rw [r5]; simp

/-- A store leaves what it does not write. -/
theorem Inv.store {B : Nat} {w0 : World} {ca : Cm} {c : Cm} {μ : Mu} {ρ : Store} {w w' : World} (hI : Inv B w0 ca c μ ρ w) {id b N : Nat} {k k' : Tok} (hk : ρ[id]? = some k) (hm : μ id = some (b, N)) (hl : k.live = true) (hB : ∀ B, B ≤ b → Below B w w') (ho : ∀ j, j ≠ b → w'.heap[j]? = w.heap[j]?)
    (hk' : k'.live = true) (hnew : TokOk c μ k' b N w') : Inv B w0 ca c μ (ρ.set id k') w' := by
  have hcb : ∀ o, c b o = none := (hI.tok id k b N hk hm hl).1
  have hidl : id < ρ.length := by
    rcases Nat.lt_or_ge id ρ.length with h' | h'
    · exact h'
    · simp [List.getElem?_eq_none h'] at hk
  have hget : ∀ (id2 : Nat) k2, (ρ.set id k')[id2]? = some k2 → (id2 = id ∧ k2 = k') ∨ (id2 ≠ id ∧ ρ[id2]? = some k2) := by
    intro id2 k2 h
    rw [List.getElem?_set] at h
    split at h
    · rename_i heq
      cases h; exact .inl ⟨heq.symm, rfl⟩
    · rename_i hne; exact .inr ⟨fun h' => hne h'.symm, h⟩
  refine ⟨hI.below.trans (hB B (hI.low id b N hm)), ?_, hI.low, ?_, ?_, ?_, hI.old, hI.base, fun b2 o h1 h2 => by
    have h3 := hI.rest b2 o h1 h2
    by_cases hbb : b2 = b
    · exfalso
      obtain ⟨_, _, _, arr, el, t4, _⟩ := hI.tok id k b N hk hm hl
      rw [hbb, t4] at h3
      cases h3
      cases h2
    · rw [ho b2 hbb]; exact h3⟩
  · intro b2 o u h
    have hne : b2 ≠ b := fun h' => by rw [h', hcb o] at h; cases h
    have := hI.cells b2 o u h
    rw [← this]
    exact World.cell?_of_block (w := w) (ho b2 hne)
  · intro id2 k2 b2 N2 h hm2 hl2
    rcases hget id2 k2 h with ⟨rfl, rfl⟩ | ⟨hne, h⟩
    · rw [hm] at hm2; cases hm2; exact hnew
    · obtain ⟨t1, t2, t3, arr, el, t4, t5, t6⟩ := hI.tok id2 k2 b2 N2 h hm2 hl2
      have hb2 : b2 ≠ b := fun h' => hne (by subst h'; exact hI.inj id2 id k2 k b2 N2 N h hk hl2 hl hm2 hm)
      exact ⟨t1, t2, t3, arr, el, by rw [ho b2 hb2]; exact t4, t5, t6⟩
  · intro id2 k2 h hd
    rcases hget id2 k2 h with ⟨rfl, rfl⟩ | ⟨hne, h⟩
    · rw [hk'] at hd; cases hd
    · exact hI.dead id2 k2 h hd
  · intro i1 i2 k1 k2 b2 N1 N2 h1 h2 l1 l2 m1 m2
    have z : ∀ (i : Nat) kk, (ρ.set id k')[i]? = some kk → kk.live = true → ∃ kk', ρ[i]? = some kk' ∧ kk'.live = true := by
      intro i kk h l
      rcases hget i kk h with ⟨rfl, rfl⟩ | ⟨_, h⟩
      · exact ⟨k, hk, hl⟩
      · exact ⟨kk, h, l⟩
    obtain ⟨k1', a1, a2⟩ := z i1 k1 h1 l1
    obtain ⟨k2', b1, b2'⟩ := z i2 k2 h2 l2
    exact hI.inj i1 i2 k1' k2' b2 N1 N2 a1 b1 a2 b2' m1 m2

def Mu.add (μ : Mu) (id : Nat) (p : Nat × Nat) : Mu := fun i => if i = id then some p else μ i

theorem Mu.add_le {μ : Mu} {id : Nat} {p : Nat × Nat} (h : μ id = none) : LeM μ (μ.add id p) := by
  intro i q hq
  unfold Mu.add
  split
  · rename_i he; subst he; rw [h] at hq; cases hq
  · exact hq

/-- A new row of the store, in a block that no other live row has. -/
theorem Inv.push {B : Nat} {w0 : World} {ca : Cm} {c : Cm} {μ : Mu} {ρ : Store} {w : World} (hI : Inv B w0 ca c μ ρ w) (hd : Dom μ ρ) {b N : Nat} {k : Tok} (hk : k.live = true) (hB : B ≤ b) (hnew : TokOk c (μ.add ρ.length (b, N)) k b N w)
    (hne : ∀ (id : Nat) k2 N2, ρ[id]? = some k2 → k2.live = true → μ id ≠ some (b, N2)) : Inv B w0 ca c (μ.add ρ.length (b, N)) (ρ ++ [k]) w ∧ Dom (μ.add ρ.length (b, N)) (ρ ++ [k]) := by
  have hle : LeM μ (μ.add ρ.length (b, N)) := Mu.add_le (hd _ (Nat.le_refl _))
  have hget : ∀ (id : Nat) k2, (ρ ++ [k])[id]? = some k2 → (id = ρ.length ∧ k2 = k) ∨ (id < ρ.length ∧ ρ[id]? = some k2) := by
    intro id k2 h
    rw [List.getElem?_append] at h
    split at h
    · rename_i hlt; exact .inr ⟨hlt, h⟩
    · rename_i hge
      cases hz : id - ρ.length with
      | zero => rw [hz] at h; cases h; exact .inl ⟨by omega, rfl⟩
      | succ n => rw [hz] at h; simp at h
  have hold : ∀ (id : Nat), id < ρ.length → (μ.add ρ.length (b, N)) id = μ id := fun id h => by unfold Mu.add; rw [if_neg (by omega)]
  have hself : (μ.add ρ.length (b, N)) ρ.length = some (b, N) := by simp [Mu.add]
  refine ⟨⟨hI.below, hI.cells, ?_, ?_, ?_, ?_, hI.old, hI.base, hI.rest⟩, ?_⟩
  · intro id b2 N2 h
    unfold Mu.add at h
    split at h
    · cases h; exact hB
    · exact hI.low id b2 N2 h
  · intro id k2 b2 N2 h hm hl
    rcases hget id k2 h with ⟨rfl, rfl⟩ | ⟨hlt, h⟩
    · rw [hself] at hm; cases hm; exact hnew
    · rw [hold id hlt] at hm
      obtain ⟨t1, t2, t3, arr, el, t4, t5, t6⟩ := hI.tok id k2 b2 N2 h hm hl
      exact ⟨t1, t2, t3, arr, el, t4, t5, fun i j x e => (t6 i j x e).mono (LeC.refl _) hle⟩
  · intro id k2 h hdd
    rcases hget id k2 h with ⟨rfl, rfl⟩ | ⟨hlt, h⟩
    · rw [hk] at hdd; cases hdd
    · exact hI.dead id k2 h hdd
  · intro i1 i2 k1 k2 b2 N1 N2 h1 h2 l1 l2 m1 m2
    rcases hget i1 k1 h1 with ⟨rfl, rfl⟩ | ⟨hlt1, g1⟩ <;> rcases hget i2 k2 h2 with ⟨rfl, rfl⟩ | ⟨hlt2, g2⟩
    · rfl
    · rw [hself] at m1; cases m1; rw [hold i2 hlt2] at m2; exact absurd m2 (hne i2 k2 N2 g2 l2)
    · rw [hself] at m2; cases m2; rw [hold i1 hlt1] at m1; exact absurd m1 (hne i1 k1 N1 g1 l1)
    · rw [hold i1 hlt1] at m1; rw [hold i2 hlt2] at m2; exact hI.inj i1 i2 k1 k2 b2 N1 N2 g1 g2 l1 l2 m1 m2
  · intro id h
    simp at h
    unfold Mu.add
    rw [if_neg (by omega)]
    exact hd id (by omega)

theorem Inv.live_lt {B : Nat} {w0 : World} {ca : Cm} {c : Cm} {μ : Mu} {ρ : Store} {w : World} (hI : Inv B w0 ca c μ ρ w) {id b N : Nat} {k : Tok} (hk : ρ[id]? = some k) (hl : k.live = true) (hm : μ id = some (b, N)) : b < w.heap.size := by
  obtain ⟨t1, t2, t3, arr, el, t4, t5, t6⟩ := hI.tok id k b N hk hm hl
  rcases Nat.lt_or_ge b w.heap.size with h' | h'
  · exact h'
  · simp [Array.getElem?_eq_none h'] at t4

/-- What an operation that works on the store leaves. -/
def Wrote (B : Nat) (w0 : World) (ca : Cm) (c : Cm) (μ : Mu) (ρ' : Store) (p : PV) (v : Value) (w' : World) : Prop :=
  ∃ c' μ', LeC c c' ∧ LeM μ μ' ∧ Inv B w0 ca c' μ' ρ' w' ∧ Dom μ' ρ' ∧ Rd c' μ' v p

/-- A new block, and its row. -/
theorem Inv.newRow {B : Nat} {w0 : World} {ca : Cm} {c : Cm} {μ : Mu} {ρ : Store} {w w' : World} (hI : Inv B w0 ca c μ ρ w) (hB0 : B ≤ w0.heap.size) (hd : Dom μ ρ) {arr : Array Value} {el : TypeId} (hb : Below w.heap.size w w') (hw : w'.heap[w.heap.size]? = some (.cells arr el (0, 0)))
    {k : Tok} (hk : k.live = true) (hl : ∀ cs, cs ∈ k.es → cs.length = k.esz) (hr : RdP c μ arr k.es.flatten) : Inv B w0 ca c (μ.add ρ.length (w.heap.size, arr.size)) (ρ ++ [k]) w' ∧ Dom (μ.add ρ.length (w.heap.size, arr.size)) (ρ ++ [k]) := by
  have hBw : B ≤ w.heap.size := Nat.le_trans hB0 hI.below.size
  have hle : LeM μ (μ.add ρ.length (w.heap.size, arr.size)) := Mu.add_le (hd _ (Nat.le_refl _))
  have hnone : ∀ o, c w.heap.size o = none := by
    intro o
    cases h : c w.heap.size o with
    | none => rfl
    | some u => have := World.block_lt_of_cell? w _ (hI.cells _ _ _ h); simp at this
  have hI' : Inv B w0 ca c μ ρ w' := hI.grow hBw hb (LeC.refl _) (fun _ _ _ => rfl) (fun b o u h => by
    have hc := hI.cells b o u h
    rw [hb.cell (p := ⟨b, o, none⟩) (World.block_lt_of_cell? w _ hc)]
    exact hc)
  refine hI'.push hd hk hBw (TokOk.of_flat hnone hl hw rfl ⟨hr.1, fun i x e => (hr.2 i x e).mono (LeC.refl _) hle⟩) ?_
  intro id k2 N2 h2 l2 hm
  have := hI.live_lt h2 l2 hm
  omega

end Go.Proofs.YtkccoijckckhmaaGreatDoor.Ev

namespace Go.Proofs.YtkccoijckckhmaaGreatDoor.Ev
open Go Go.RowKit

section
variable {P : Program} {T : Tab} {call : FuncId → List PV → Store → Option (PV × Store)} {rc : FuncId → Bool} {c : Cm} {μ : Mu} {a : Act} {e : Env} {w : World} {o : Oper} {ρ : Store} {B : Nat} {w0 : World} {ca : Cm}

theorem below_alloc (w : World) (ob : Obj) : Below w.heap.size w (w.alloc ob) := (Below.refl _ _).alloc (Nat.le_refl _) _
theorem heap_alloc_new (w : World) (ob : Obj) : (w.alloc ob).heap[w.heap.size]? = some ob := by simp [World.alloc, -World.alloc_eq]

theorem RdL.toP {vs : Array Value} {ps : List PV} (h : RdL c μ vs.toList ps) : RdP c μ vs ps := by
  have := RdA.of_list h
  exact ⟨by rw [this.1]; exact Nat.le_refl _, this.2⟩

theorem w_box (hI : Inv B w0 ca c μ ρ w) (hB0 : B ≤ w0.heap.size) (hd : Dom μ ρ) (he : EnvR c μ a e) {t : TypeId} {x : Operand} {sx : SV} {n : Nat} {cs : List PV} (ho : o.op = .box t x) (hx : cSV x = some sx) (hn : nCells n (sx.ev e) = some cs) :
    OpRuns P o a w (Wrote B w0 ca c μ (ρ ++ [⟨n, [cs], true⟩]) (.mp ρ.length n 0 0)) := by
  obtain ⟨n1, n2, n3⟩ := nCells_rd (cSV_rd he hx) hn
  have hrun : (execOp a.eval o).run P w = .ok (.value (.pointer (some ⟨w.heap.size, 0, none⟩))) (w.alloc (.cells (a.eval x).cells t)) := by
    simp [execOp, ho, Instr.box, newVar, newRow]
  refine OpRuns.of_value hrun ?_
  obtain ⟨h1, h2⟩ := hI.newRow hB0 hd (below_alloc w _) (heap_alloc_new w _) (k := ⟨n, [cs], true⟩) rfl (fun d hd => by rw [List.mem_singleton.1 hd]; exact n2) (by simpa using RdL.toP n3)
  refine ⟨c, _, LeC.refl _, Mu.add_le (hd _ (Nat.le_refl _)), h1, h2, ?_⟩
  have := Rd.mp (c := c) (μ := μ.add ρ.length (w.heap.size, (a.eval x).cells.size)) ρ.length n 0 0 w.heap.size _ (by simp [Mu.add]; rfl)
  simpa using this

theorem w_alc (hI : Inv B w0 ca c μ ρ w) (hB0 : B ≤ w0.heap.size) (hd : Dom μ ρ) {t : TypeId} {z : List PV} (ho : o.op = .alloc t) (hz : zeroT P t = some z) :
    OpRuns P o a w (Wrote B w0 ca c μ (ρ ++ [⟨z.length, [z], true⟩]) (.mp ρ.length z.length 0 0)) := by
  obtain ⟨v, hv, hv1, hv2⟩ := zeroT_run (P := P) (w := w) (c := c) (μ := μ) hz
  have hrun : (execOp a.eval o).run P w = .ok (.value (.pointer (some ⟨w.heap.size, 0, none⟩))) (w.alloc (.cells v.cells t)) := by
    simp [execOp, ho, Instr.alloc, hv, newVar, newRow]
  refine OpRuns.of_value hrun ?_
  obtain ⟨h1, h2⟩ := hI.newRow hB0 hd (below_alloc w _) (heap_alloc_new w _) (k := ⟨z.length, [z], true⟩) rfl (fun d hd => by rw [List.mem_singleton.1 hd]) (by simpa using RdL.toP hv2)
  refine ⟨c, _, LeC.refl _, Mu.add_le (hd _ (Nat.le_refl _)), h1, h2, ?_⟩
  have := Rd.mp (c := c) (μ := μ.add ρ.length (w.heap.size, v.cells.size)) ρ.length z.length 0 0 w.heap.size _ (by simp [Mu.add]; rfl)
  simpa using this

theorem wrap_small {n : Int} (h0 : 0 ≤ n) (h1 : n ≤ 1073741824) : IntKind.i64.wrap n = n := by
  have hm : n % (2 ^ IntKind.i64.bits : Int) = n := Int.emod_eq_of_lt h0 (by show n < 2 ^ 64; omega)
  unfold IntKind.wrap
  simp only [hm]
  rw [if_neg]
  have : ¬ (n ≥ (2 ^ (IntKind.i64.bits - 1) : Int)) := by show ¬ (n ≥ (2 ^ 63 : Int)); omega
  simp [this]

theorem w_mks (hI : Inv B w0 ca c μ ρ w) (hB0 : B ≤ w0.heap.size) (hd : Dom μ ρ) (he : EnvR c μ a e) {t el : TypeId} {l cp : Operand} {sl scp : SV} {i : TypeInfo} {z : List PV} (ho : o.op = .makeSlice t l cp) (ht : P.underlying t = some (.slice el)) (hl : cSV l = some sl) (hcp : cSV cp = some scp) (hi : P.info? el = some i) (hz : zeroT P el = some z)
    (hby : i.bytes ≤ 65536) (hs0 : i.size ≠ 0) (hzl : z.length = i.size) {n m : Int} (hn : sl.ev e = .int .i64 n) (hm : scp.ev e = .int .i64 m) (h0 : 0 ≤ n) (h1 : n ≤ m) (h2 : m ≤ 1073741824) :
    OpRuns P o a w (Wrote B w0 ca c μ (ρ ++ [⟨i.size, List.replicate n.toNat z, true⟩]) (.ms ρ.length i.size 0 n.toNat)) := by
  obtain ⟨v, hv, hv1, hv2⟩ := zeroT_run (P := P) (w := w) (c := c) (μ := μ) hz
  have e1 := cSV_rd he hl
  have e2 := cSV_rd he hcp
  rw [hn] at e1
  rw [hm] at e2
  have hwn := wrap_small h0 (by omega : n ≤ 1073741824)
  have hwm := wrap_small (by omega : 0 ≤ m) h2
  have hbytes : ((i.bytes : Int) * m ≤ 2 ^ 48) := by
    have : (i.bytes : Int) * m ≤ 65536 * 1073741824 := Int.mul_le_mul (by omega) h2 (by omega) (by omega)
    omega
  let zs : Array Value := if m.toNat * i.size = 0 then #[] else v.cells
  let arr : Array Value := (Array.range (m.toNat * i.size)).map (zs[· % zs.size]!)
  have hrun : (execOp a.eval o).run P w = .ok (.value (.slice (some ⟨w.heap.size, 0, none⟩) n.toNat m.toNat)) (w.alloc (.cells arr el)) := by
    have hc1 : ¬ (m < 0) := by omega
    have hc2 : ¬ (2 ^ 48 < (i.bytes : Int) * m) := by omega
    have hc3 : ¬ (n < 0) := by omega
    have hc4 : ¬ (m < n) := by omega
    by_cases hz0 : m.toNat * i.size = 0
    · simp [execOp, ho, Instr.makeSlice, run_underlying ht, asInt, asIntOf, rd_int e1, rd_int e2, typeInfo, hi, hwn, hwm, hc1, hc2, hc3, hc4, sizeOf, hz0, newRow, arr, zs]
      intro hc; omega
    · simp [execOp, ho, Instr.makeSlice, run_underlying ht, asInt, asIntOf, rd_int e1, rd_int e2, typeInfo, hi, hwn, hwm, hc1, hc2, hc3, hc4, sizeOf, hz0, newRow, arr, zs, hv]
      intro hc; omega
  refine OpRuns.of_value hrun ?_
  have hzr : m.toNat ≠ 0 → RdA c μ zs z := by
    intro h
    have : ¬ (m.toNat * i.size = 0) := Nat.mul_ne_zero h hs0
    simp only [zs, this, if_false]
    exact RdA.of_list hv2
  have hlR : ∀ k, ∀ cs, cs ∈ List.replicate k z → cs.length = i.size := fun k cs h => by rw [(List.mem_replicate.1 h).2]; exact hzl
  have hP : RdP c μ arr (List.replicate n.toNat z).flatten := by
    refine ⟨?_, fun j x hx => ?_⟩
    · rw [flat_len (hlR _)]
      simp only [List.length_replicate, arr, Array.size_map, Array.size_range]
      exact Nat.mul_le_mul_right _ (by omega)
    · have hj : j < n.toNat * i.size := by
        rcases Nat.lt_or_ge j (n.toNat * i.size) with h' | h'
        · exact h'
        · rw [List.getElem?_eq_none (by rw [flat_len (hlR _)]; simpa using h')] at hx; cases hx
      have hm0 : m.toNat ≠ 0 := by
        intro h
        have : n.toNat = 0 := by omega
        rw [this, Nat.zero_mul] at hj
        omega
      have hA := replicate_flat_rd (n := m.toNat) (hzr hm0) (by rw [hzl]; exact hs0)
      rw [hzl] at hA
      refine hA.2 j x ?_
      have hsp : List.replicate m.toNat z = List.replicate n.toNat z ++ List.replicate (m.toNat - n.toNat) z := by
        rw [List.replicate_append_replicate]; congr 1; omega
      rw [hsp, List.flatten_append, List.getElem?_append_left (by rw [flat_len (hlR _)]; simpa using hj)]
      exact hx
  obtain ⟨h1', h2'⟩ := hI.newRow hB0 hd (below_alloc w _) (heap_alloc_new w _) (k := ⟨i.size, List.replicate n.toNat z, true⟩) rfl (hlR _) hP
  refine ⟨c, _, LeC.refl _, Mu.add_le (hd _ (Nat.le_refl _)), h1', h2', ?_⟩
  have := Rd.ms (c := c) (μ := μ.add ρ.length (w.heap.size, arr.size)) ρ.length i.size 0 n.toNat w.heap.size arr.size m.toNat (by simp [Mu.add]) (by omega) (by simp [arr])
  simpa using this

theorem w_st (hI : Inv B w0 ca c μ ρ w) (hd : Dom μ ρ) (he : EnvR c μ a e) {t : TypeId} {x v : Operand} {sx sv : SV} {n : Nat} (ho : o.op = .store t x v) (hs : sizeT P t = some n) (hx : cSV x = some sx) (hv : cSV v = some sv) {id esz i j : Nat} {k : Tok} {cs vs : List PV}
    (hp : sx.ev e = .mp id esz i j) (hk : ρ[id]? = some k) (hz : k.esz = esz) (hl : k.live = true) (hi : k.es[i]? = some cs) (hvs : nCells n (sv.ev e) = some vs) (hj : j + n ≤ cs.length) (h1 : vs.all one = true) :
    OpRuns P o a w (Wrote B w0 ca c μ (ρ.set id ⟨esz, k.es.set i (spliceAt cs j vs), true⟩) (.tup [])) := by
  subst hz
  have e1 := cSV_rd he hx
  rw [hp] at e1
  obtain ⟨b, N, hm, hu⟩ := rd_mp e1
  obtain ⟨n1, n2, n3⟩ := nCells_rd (cSV_rd he hv) hvs
  have htok := hI.tok id k b N hk hm hl
  have hlen := htok.2.1
  obtain ⟨arr, el, t4, t5, t6⟩ := htok.flat
  have hcl := hlen cs (List.mem_of_getElem? hi)
  have hil : i < k.es.length := by
    rcases Nat.lt_or_ge i k.es.length with h' | h'
    · exact h'
    · simp [List.getElem?_eq_none h'] at hi
  have hcells : ∀ u, u ∈ (a.eval v).cells.toList → u.oneCell' = true := by
    intro u hu'
    obtain ⟨q, hq⟩ := List.mem_iff_getElem?.1 hu'
    have hql : q < vs.length := by
      rw [← n3.length]
      rcases Nat.lt_or_ge q (a.eval v).cells.toList.length with h' | h'
      · exact h'
      · rw [List.getElem?_eq_none h'] at hq; cases hq
    have hx' := n3.get q vs[q] (List.getElem?_eq_getElem hql)
    have : (a.eval v).cells.toList.getD q undef = u := by simp only [List.getD]; rw [hq]; rfl
    rw [this] at hx'
    exact one_rd hx' (List.all_eq_true.1 h1 _ (List.getElem_mem hql))
  have hfl : i * k.esz + k.esz ≤ k.es.flatten.length := by
    rw [flat_len hlen]
    have : (i + 1) * k.esz ≤ k.es.length * k.esz := Nat.mul_le_mul_right _ hil
    rwa [Nat.succ_mul] at this
  have hsz : i * k.esz + j + (a.eval v).cells.toList.length ≤ arr.size := by
    have := t6.1
    rw [Array.length_toList, n1]
    omega
  obtain ⟨w', r1, r2, r3, r4, r5⟩ := storeCells_run (P := P) (b := b) (off := i * k.esz + j) (el := el) (a.eval v).cells.toList 0 w arr hcells t4 (by simpa using hsz)
  have hrun : (execOp a.eval o).run P w = .ok .skip w' := by
    simp only [execOp, ho, Instr.storeAt, Instr.sureAddr, hu, storeVar, Sem.run_bind, Sem.run_pure, Result.andThen_ok, sizeT_run hs]
    rw [if_neg (by rw [n1]; simp)]
    rw [r1]
    rfl
  refine OpRuns.of_skip hrun ?_
  have hes : (k.es.set i (spliceAt cs j vs)).flatten = spliceAt k.es.flatten (i * k.esz + j) vs := by
    have hsl : (spliceAt cs j vs).length = k.esz := by simp [spliceAt]; omega
    rw [flat_set hlen i _ hsl hil]
    have hcs : cs = (k.es.flatten.drop (i * k.esz)).take k.esz := by
      apply List.ext_getElem?
      intro q
      rw [List.getElem?_take]
      split
      · rename_i hq
        rw [List.getElem?_drop, flat_at hlen i q hil hq]
        simp [cellAt, hi]
      · rename_i hq
        rw [List.getElem?_eq_none (by omega)]
    unfold spliceAt
    rw [hcs]
    apply List.ext_getElem?
    intro q
    simp only [List.getElem?_append, List.getElem?_take, List.getElem?_drop, List.length_append, List.length_take, List.length_drop]
    have hnv : vs.length = n := n2
    repeat' split
    all_goals first | (exfalso; omega) | rfl | (congr 1; omega) | (rw [List.getElem?_eq_none]; omega) | (symm; rw [List.getElem?_eq_none]; omega)
  have hl' : ∀ d, d ∈ k.es.set i (spliceAt cs j vs) → d.length = k.esz := set_len hlen (by simp [spliceAt]; omega)
  have hnew : TokOk c μ ⟨k.esz, k.es.set i (spliceAt cs j vs), true⟩ b N w' := by
    refine TokOk.of_flat htok.1 hl' r2 (by rw [setFold_size]; exact t5) ?_
    show RdP c μ _ (k.es.set i (spliceAt cs j vs)).flatten
    rw [hes]
    exact spliceP t6 n3 (by omega) (by rw [n2]; rw [Array.length_toList, n1] at hsz; exact hsz)
  refine ⟨c, μ, LeC.refl _, LeM.refl _, hI.store hk hm hl r3 r4 rfl hnew, fun q hq => hd q (by simpa using hq), ?_⟩
  exact .tup #[] [] rfl (fun i x h => by simp at h)

end
end Go.Proofs.YtkccoijckckhmaaGreatDoor.Ev

namespace Go.Proofs.YtkccoijckckhmaaGreatDoor.Ev
open Go Go.RowKit

theorem growBy_le (n : Nat) : ∀ r c, Builtin.growBy n r c ≤ max c (2 * n + 768)
  | 0, c => by simp [Builtin.growBy]; omega
  | r + 1, c => by
    simp only [Builtin.growBy]
    split
    · omega
    · rename_i h
      have := growBy_le n r (c + (c + 768) / 4)
      omega

theorem nextcap_le {n c : Nat} (h : c < n) (hn : n ≤ 1073741824) : Builtin.nextslicecap n c ≤ 4294967296 := by
  unfold Builtin.nextslicecap
  split
  · omega
  · split
    · omega
    · have := growBy_le n 4 c; omega

section
variable {P : Program} {T : Tab} {call : FuncId → List PV → Store → Option (PV × Store)} {rc : FuncId → Bool} {c : Cm} {μ : Mu} {a : Act} {e : Env} {w : World} {o : Oper} {ρ ρ' : Store} {B : Nat} {w0 : World} {ca : Cm}

theorem loadCells_at {b off : Nat} {cs : List PV} (h : CellsAt c μ w b off cs) {n : Nat} (hn : n = cs.length) : ∃ arr, (loadCells ⟨b, off, none⟩ n).run P w = .ok arr w ∧ RdA c μ arr cs := by
  subst hn
  let f : Nat → Value := fun j => ((w.cell? ⟨b, off + j, none⟩).getD undef)
  have hf : ∀ j (hj : j < cs.length), w.cell? ⟨b, off + j, none⟩ = some (f j) ∧ Rd c μ (f j) cs[j] := by
    intro j hj
    obtain ⟨u, h1, h2⟩ := h j cs[j] (by simp)
    have : f j = u := by show (w.cell? ⟨b, off + j, none⟩).getD undef = u; rw [h1]; rfl
    rw [this]
    exact ⟨h1, h2⟩
  have := loadCellsFrom_run (P := P) (w := w) (b := b) (off := off) (f := f) cs.length 0 #[] (fun j hj => by simpa using (hf j hj).1)
  refine ⟨_, this, by simp, fun i x ex => ?_⟩
  have hi : i < cs.length := by
    rcases Nat.lt_or_ge i cs.length with h' | h'
    · exact h'
    · simp [List.getElem?_eq_none h'] at ex
  have h2 := (hf i hi).2
  rw [List.getElem?_eq_getElem hi] at ex
  cases ex
  simpa [hi] using h2

theorem CellsAt.of_sl {v : Value} {esz : Nat} {es : List (List PV)} (hc : ∀ b o u, c b o = some u → w.cell? ⟨b, o, none⟩ = some u) (h : Rd c μ v (.sl esz es)) :
    ∃ b off cap, v = .slice (some ⟨b, off, none⟩) es.length cap ∧ es.length ≤ cap ∧ (∀ cs, cs ∈ es → cs.length = esz) ∧ CellsAt c μ w b off es.flatten := by
  obtain ⟨b, off, cap, f, rfl, h1, h2, h3, h4⟩ := rd_sl h
  refine ⟨b, off, cap, rfl, h1, h2, fun k x ex => ?_⟩
  have hk : k < es.length * esz := by
    rcases Nat.lt_or_ge k (es.length * esz) with h' | h'
    · exact h'
    · rw [List.getElem?_eq_none (by rw [flat_len h2]; exact h')] at ex; cases ex
  have hz : 0 < esz := by
    rcases Nat.eq_zero_or_pos esz with h' | h'
    · rw [h'] at hk; simp at hk
    · exact h'
  have := flat_at h2 (k / esz) (k % esz) ((Nat.div_lt_iff_lt_mul hz).2 hk) (Nat.mod_lt _ hz)
  have hidx : k / esz * esz + k % esz = k := by rw [Nat.mul_comm]; exact Nat.div_add_mod _ _
  rw [hidx] at this
  rw [this] at ex
  refine ⟨f (k / esz) (k % esz), ?_, h4 _ _ x ex⟩
  have := hc _ _ _ (h3 _ _ x ex)
  rwa [Nat.add_assoc, hidx] at this

theorem CellsAt.of_ms (hI : Inv B w0 ca c μ ρ w) {v : Value} {id esz off n : Nat} {k : Tok} (h : Rd c μ v (.ms id esz off n)) (hk : ρ[id]? = some k) (hz : k.esz = esz) (hn : off + n ≤ k.es.length) :
    ∃ b N cap, μ id = some (b, N) ∧ v = .slice (some ⟨b, off * esz, none⟩) n cap ∧ n ≤ cap ∧ (off + cap) * esz ≤ N ∧ (∀ cs, cs ∈ (k.es.drop off).take n → cs.length = esz) ∧ CellsAt c μ w b (off * esz) ((k.es.drop off).take n).flatten := by
  subst hz
  obtain ⟨b, N, cap, hm, rfl, h1, h2⟩ := rd_ms h
  have hl : ∀ cs, cs ∈ (k.es.drop off).take n → cs.length = k.esz := by
    intro cs hcs
    have hin := List.mem_of_mem_drop (List.mem_of_mem_take hcs)
    cases hl : k.live with
    | true => exact (hI.tok id k b N hk hm hl).2.1 cs hin
    | false => rw [hI.dead id k hk hl] at hin; cases hin
  refine ⟨b, N, cap, hm, rfl, h1, h2, hl, fun q x ex => ?_⟩
  have hlen : ((k.es.drop off).take n).length = n := by simp; omega
  have hq : q < n * k.esz := by
    rcases Nat.lt_or_ge q (n * k.esz) with h' | h'
    · exact h'
    · rw [List.getElem?_eq_none (by rw [flat_len hl, hlen]; exact h')] at ex; cases ex
  have hz : 0 < k.esz := by
    rcases Nat.eq_zero_or_pos k.esz with h' | h'
    · rw [h'] at hq; simp at hq
    · exact h'
  have hdiv := (Nat.div_lt_iff_lt_mul hz).2 hq
  have := flat_at hl (q / k.esz) (q % k.esz) (by rw [hlen]; exact hdiv) (Nat.mod_lt _ hz)
  have hidx : q / k.esz * k.esz + q % k.esz = q := by rw [Nat.mul_comm]; exact Nat.div_add_mod _ _
  rw [hidx] at this
  rw [this] at ex
  obtain ⟨cs, k1, k2⟩ := cellAt_some ex
  rw [List.getElem?_take, if_pos hdiv, List.getElem?_drop] at k1
  obtain ⟨u, u1, u2⟩ := CellsAt.of_tok hI hk hm k1 _ x k2
  refine ⟨u, ?_, u2⟩
  rw [← u1]
  congr 2
  rw [Nat.add_mul]
  omega

/-- What is appended, as the machine reads it. -/
theorem appSrc (hI : Inv B w0 ca c μ ρ w) {v : Value} {p : PV} {esz : Nat} {new : List (List PV)} (h : Rd c μ v p) (hp : appElems esz ρ p = some new) :
    (∀ cs, cs ∈ new → cs.length = esz) ∧ (Builtin.lenOf v).run P w = .ok new.length w ∧ ∃ arr, (Builtin.firstCells esz new.length v).run P w = .ok arr w ∧ RdA c μ arr new.flatten := by
  cases p with
  | z b =>
    cases hp
    obtain ⟨ad, rfl⟩ := rd_z h
    refine ⟨(fun cs h => (by cases h)), rfl, #[], ?_, rfl, (fun i x e => (by simp at e))⟩
    cases ad with
    | none => rfl
    | some ad => simp [Builtin.firstCells, loadCells, loadCellsFrom]
  | sl esz' es =>
    simp only [appElems] at hp
    split at hp
    · rename_i hz
      subst hz
      cases hp
      obtain ⟨b, off, cap, rfl, h1, h2, h3⟩ := CellsAt.of_sl hI.cells h
      obtain ⟨arr, r1, r2⟩ := loadCells_at (P := P) h3 (n := new.length * esz') (by rw [flat_len h2])
      exact ⟨h2, rfl, arr, r1, r2⟩
    · cases hp
  | ms id esz' off n =>
    simp only [appElems] at hp
    split at hp
    · rename_i k hk
      split at hp
      · rename_i hz
        obtain ⟨rfl, hz2, hn⟩ := hz
        cases hp
        obtain ⟨b, N, cap, hm, rfl, h1, h2, h3, h4⟩ := CellsAt.of_ms hI h hk hz2 hn
        have hlen : ((k.es.drop off).take n).length = n := by simp; omega
        obtain ⟨arr, r1, r2⟩ := loadCells_at (P := P) h4 (n := ((k.es.drop off).take n).length * esz') (by rw [flat_len h3])
        exact ⟨h3, by rw [hlen]; rfl, arr, r1, r2⟩
      · cases hp
    · cases hp
  | str s =>
    simp only [appElems] at hp
    split at hp
    · rename_i hz
      subst hz
      cases hp
      rw [rd_str h]
      refine ⟨fun cs h => ?_, ?_, s.data.map (fun b => Value.int .u8 b.toNat), ?_, ?_⟩
      · obtain ⟨b, _, rfl⟩ := List.mem_map.1 h; rfl
      · simp [Builtin.lenOf]
      · simp [Builtin.firstCells]
      · have hl : ∀ cs, cs ∈ (s.data.toList.map fun b => [PV.int .u8 b.toNat]) → cs.length = 1 := fun cs h => by
          obtain ⟨b, _, rfl⟩ := List.mem_map.1 h; rfl
        refine ⟨by rw [flat_len hl]; simp, fun i x ex => ?_⟩
        have hi : i < s.data.size := by
          rcases Nat.lt_or_ge i s.data.size with h' | h'
          · exact h'
          · rw [List.getElem?_eq_none (by rw [flat_len hl]; simpa using h')] at ex; cases ex
        have := flat_at hl i 0 (by simpa using hi) (by omega)
        rw [Nat.mul_one, Nat.add_zero] at this
        rw [this] at ex
        obtain ⟨cs, k1, k2⟩ := cellAt_some ex
        rw [List.getElem?_map] at k1
        obtain ⟨b, hb⟩ : ∃ b, s.data[i]? = some b := ⟨_, Array.getElem?_eq_getElem hi⟩
        have hb' : s.data.toList[i]? = some b := by simpa using hb
        rw [hb'] at k1
        cases k1
        cases k2
        simp [hb]
        exact .int _ _
    · cases hp
  | _ => cases hp


theorem Inv.drew (hI : Inv B w0 ca c μ ρ w) : Inv B w0 ca c μ ρ w.drew := ⟨hI.below.drew, hI.cells, hI.low, hI.tok, hI.dead, hI.inj, hI.old, hI.base, hI.rest⟩

/-- What an append of m elements does. -/
structure AppRun (P : Program) (c : Cm) (μ : Mu) (w : World) (el esz m : Nat) (new : List (List PV)) (s : Value) (run : Sem Value) : Prop where
  inplace : ∀ base sLen sCap, s = .slice base sLen sCap → sLen + m ≤ sCap → ∃ arr, RdA c μ arr new.flatten ∧
    run.run P w = (match base with | none => .ok (.slice base (sLen + m) sCap) w | some ad => ((storeCells (ad.add (sLen * esz)) arr.toList).run P w).andThen fun _ w' => .ok (.slice base (sLen + m) sCap) w')
  grow : ∀ base sLen sCap, s = .slice base sLen sCap → sCap < sLen + m → sLen + m ≤ 1073741824 → ∀ olds, (Builtin.firstCells esz sLen s).run P w.drew = .ok olds w.drew → ∃ arr rest cap, RdA c μ arr new.flatten ∧ sLen + m ≤ cap ∧ Array.size rest = (cap - (sLen + m)) * esz ∧
    run.run P w = .ok (.slice (some ⟨w.heap.size, 0, none⟩) (sLen + m) cap) (w.drew.alloc (.cells (olds ++ arr ++ rest) el))

theorem zeroCells_size (z : Array Value) (n : Nat) : (Builtin.zeroCells z n).size = n * z.size := by simp [Builtin.zeroCells]

theorem grown_le (w : World) (need old el : Nat) : need ≤ grownCap w need old el := Nat.le_add_right _ _

theorem appRun_of (hI : Inv B w0 ca c μ ρ w) {t u ty el : TypeId} {i : TypeInfo} {z : Value} (ht : P.underlying t = some (.slice el)) (hu : (∃ e2, P.underlying u = some (.slice e2)) ∨ P.underlying u = some .string) (hi : P.info? el = some i) (hz : i.zero = some z) (hzs : z.cells.size = i.size) (hby : i.bytes ≤ 65536)
    {s v : Value} {p : PV} {new : List (List PV)} (hv : Rd c μ v p) (hp : appElems i.size ρ p = some new) : AppRun P c μ w el i.size new.length new s (Builtin.append_ #[t, u] ty #[s, v]) := by
  obtain ⟨h1, h2, arr, h3, h4⟩ := appSrc (P := P) hI hv hp
  obtain ⟨h1', h2', arr', h3', h4'⟩ := appSrc (P := P) hI.drew hv hp
  have hzero : ∀ d, P.underlying u = some d → (match d with | .int _ => true | _ => false) = false := by
    intro d hd
    rcases hu with ⟨e2, h⟩ | h <;> rw [h] at hd <;> cases hd <;> rfl
  obtain ⟨du, hdu⟩ : ∃ d, P.underlying u = some d := by rcases hu with ⟨e2, h⟩ | h <;> exact ⟨_, h⟩
  have hnz := hzero du hdu
  constructor
  · rintro base sLen sCap rfl hle
    refine ⟨arr, h4, ?_⟩
    rcases hu with ⟨e2, hd⟩ | hd
    all_goals
      cases base with
      | none => simp [Builtin.append_, run_underlying ht, run_underlying hd, sizeOf, typeInfo, hi, h2, hle, h3]
      | some ad => simp [Builtin.append_, run_underlying ht, run_underlying hd, sizeOf, typeInfo, hi, h2, hle, h3]
  · rintro base sLen sCap rfl hlt hle olds ho
    refine ⟨arr', Builtin.zeroCells z.cells (grownCap w (sLen + new.length) sCap el - (sLen + new.length)), grownCap w (sLen + new.length) sCap el, h4', grown_le .., by rw [zeroCells_size, hzs], ?_⟩
    have hn : ¬ (sLen + new.length ≤ sCap) := by omega
    have h63' : ¬ (9223372036854775807 < ((sLen : Int) + (new.length : Int))) := by omega
    have hnc := nextcap_le hlt hle
    have h48' : ¬ (281474976710656 < Builtin.nextslicecap (sLen + new.length) sCap * i.bytes) := by
      have : Builtin.nextslicecap (sLen + new.length) sCap * i.bytes ≤ 4294967296 * 65536 := Nat.mul_le_mul hnc hby
      omega
    rcases hu with ⟨e2, hd⟩ | hd
    all_goals
      simp [Builtin.append_, run_underlying ht, run_underlying hd, sizeOf, typeInfo, zeroValue, hi, hz, h2, hn, h63', h48', Question.forced, h3', ho, newRow, grownCap]

theorem zero_rd {z : Value} {zs : List PV} (hz : RdL c μ z.cells.toList zs) (h0 : zs.length ≠ 0) (m : Nat) : RdA c μ (Builtin.zeroCells z.cells m) (List.replicate m zs).flatten := by
  have hA := RdA.of_list hz
  have := replicate_flat_rd (n := m) hA h0
  unfold Builtin.zeroCells
  rw [hA.1]
  have hs := hA.1
  simp only [hs] at this
  exact this

theorem appRun_zeros (_hI : Inv B w0 ca c μ ρ w) {t u ty el : TypeId} {i : TypeInfo} {k : IntKind} {zs : List PV} (ht : P.underlying t = some (.slice el)) (hu : P.underlying u = some (.int k)) (hi : P.info? el = some i) (hz : zeroT P el = some zs) (hzs : zs.length = i.size) (h0 : i.size ≠ 0) (hby : i.bytes ≤ 65536)
    {s : Value} {m : Int} (hm0 : 0 ≤ m) (hm1 : m ≤ 1073741824) : AppRun P c μ w el i.size m.toNat (List.replicate m.toNat zs) s (Builtin.append_ #[t, u] ty #[s, .int .i64 m]) := by
  obtain ⟨z, hzv, hz1, hz2⟩ := zeroT_run (P := P) (w := w) (c := c) (μ := μ) hz
  obtain ⟨z', hzv', hz1', hz2'⟩ := zeroT_run (P := P) (w := w.drew) (c := c) (μ := μ) hz
  have hw := wrap_small hm0 hm1
  have hneg : ¬ (m < 0) := by omega
  have hbig : ¬ (281474976710656 < m * (i.bytes : Int)) := by
    have : m * (i.bytes : Int) ≤ 1073741824 * 65536 := Int.mul_le_mul hm1 (by omega) (by omega) (by omega)
    omega
  have hzz : z' = z := by
    unfold zeroT at hz
    simp only [hi] at hz
    cases hiz : i.zero with
    | none => rw [hiz] at hz; cases hz
    | some q =>
      have e1 : (zeroValue el).run P w = .ok q w := by simp [zeroValue, typeInfo, hi, hiz]
      have e2 : (zeroValue el).run P w.drew = .ok q w.drew := by simp [zeroValue, typeInfo, hi, hiz]
      rw [e1] at hzv; rw [e2] at hzv'
      cases hzv; cases hzv'; rfl
  subst hzz
  have hrd := zero_rd hz2 (by rw [hzs]; exact h0) m.toNat
  have harr : ∀ w2 : World, (zeroValue el).run P w2 = .ok z' w2 → (if m.toNat * i.size = 0 then pure #[] else do pure (Builtin.zeroCells (← zeroValue el).cells m.toNat) : Sem (Array Value)).run P w2 = .ok (Builtin.zeroCells z'.cells m.toNat) w2 := by
    intro w2 hw2
    by_cases h : m.toNat * i.size = 0
    · have : m.toNat = 0 := by
        rcases Nat.mul_eq_zero.1 h with h' | h'
        · exact h'
        · exact absurd h' h0
      simp [h, this, Builtin.zeroCells]
    · simp [h, hw2]
  constructor
  · rintro base sLen sCap rfl hle
    refine ⟨_, hrd, ?_⟩
    have hh := harr w hzv
    by_cases hmz : m.toNat * i.size = 0
    all_goals
      simp only [hmz, if_true, if_false] at hh
      cases base with
      | none => simp [Builtin.append_, run_underlying ht, run_underlying hu, sizeOf, typeInfo, hi, asInt, asIntOf, hw, hneg, hbig, hle, hmz, hzv]
      | some ad =>
        simp [Builtin.append_, run_underlying ht, run_underlying hu, sizeOf, typeInfo, hi, asInt, asIntOf, hw, hneg, hbig, hle, hmz, hzv]
        try (have hm00 : m.toNat = 0 := (Nat.mul_eq_zero.1 hmz).resolve_right h0
             simp [hm00, Builtin.zeroCells])
  · rintro base sLen sCap rfl hlt hle olds ho
    refine ⟨_, Builtin.zeroCells z'.cells (grownCap w (sLen + m.toNat) sCap el - (sLen + m.toNat)), grownCap w (sLen + m.toNat) sCap el, hrd, grown_le .., by rw [zeroCells_size, hz1, hzs], ?_⟩
    have hh := harr w.drew hzv'
    have hn : ¬ (sLen + m.toNat ≤ sCap) := by omega
    have h63' : ¬ (9223372036854775807 < ((sLen : Int) + max m 0)) := by omega
    have hnc := nextcap_le hlt hle
    have h48' : ¬ (281474976710656 < Builtin.nextslicecap (sLen + m.toNat) sCap * i.bytes) := by
      have : Builtin.nextslicecap (sLen + m.toNat) sCap * i.bytes ≤ 4294967296 * 65536 := Nat.mul_le_mul hnc hby
      omega
    by_cases hmz : m.toNat * i.size = 0
    all_goals
      simp only [hmz, if_true, if_false] at hh
      simp [Builtin.append_, run_underlying ht, run_underlying hu, sizeOf, typeInfo, hi, asInt, asIntOf, hw, hneg, hbig, hn, h63', h48', hmz, hzv', Question.forced, ho, newRow, grownCap]
      try (have hm00 : m.toNat = 0 := (Nat.mul_eq_zero.1 hmz).resolve_right h0
           have hr0 : Array.range 0 = #[] := rfl
           simp [hm00, Builtin.zeroCells, hr0])


/-- An append, whatever is appended. -/
theorem w_app (hI : Inv B w0 ca c μ ρ w) (hB0 : B ≤ w0.heap.size) (hd : Dom μ ρ) {s : Value} {ps p : PV} {el esz : Nat} {new : List (List PV)} {run : Sem Value} (hs : Rd c μ s ps) (hnl : ∀ cs, cs ∈ new → cs.length = esz) (hev : appTo esz ps new ρ = some (p, ρ'))
    (hA : AppRun P c μ w el esz new.length new s run) {o : Oper} {a : Act} (hrun : ∀ v w', run.run P w = .ok v w' → (execOp a.eval o).run P w = .ok (.value v) w') : OpRuns P o a w (Wrote B w0 ca c μ ρ' p) := by
  unfold appTo at hev
  split at hev
  · rename_i hone
    split at hev
    · rename_i b
      obtain ⟨ad, rfl⟩ := rd_z hs
      split at hev
      · rename_i hz
        cases hev
        obtain ⟨arr, h1, h2⟩ := hA.inplace ad 0 0 rfl (by omega)
        have harr : arr = #[] := by
          have hnew : new = [] := List.eq_nil_of_length_eq_zero hz
          have := h1.1
          rw [hnew] at this
          exact Array.eq_empty_of_size_eq_zero (by simpa using this)
        have hr : run.run P w = .ok (.slice ad 0 0) w := by
          rw [h2, harr, hz]
          cases ad <;> simp [storeCells]
        exact OpRuns.of_value (hrun _ _ hr) ⟨c, μ, LeC.refl _, LeM.refl _, hI, hd, hs⟩
      · rename_i hz
        split at hev
        · rename_i hle
          cases hev
          have hold : (Builtin.firstCells esz 0 (.slice ad 0 0)).run P w.drew = .ok #[] w.drew := by
            cases ad <;> simp [Builtin.firstCells, loadCells, loadCellsFrom]
          obtain ⟨arr, rest, cap, h1, h2, h3, h4⟩ := hA.grow ad 0 0 rfl (by omega) (by omega) #[] hold
          simp only [Nat.zero_add] at h2 h3 h4
          refine OpRuns.of_value (hrun _ _ h4) ?_
          have hfl : new.flatten.length = new.length * esz := flat_len hnl
          have hP : RdP c μ (#[] ++ arr ++ rest) new.flatten := by
            refine ⟨by simp only [Array.empty_append, Array.size_append]; rw [h1.1]; omega, fun i x ex => ?_⟩
            have hi : i < arr.size := by
              rw [h1.1]
              rcases Nat.lt_or_ge i new.flatten.length with h' | h'
              · exact h'
              · rw [List.getElem?_eq_none h'] at ex; cases ex
            have := h1.2 i x ex
            simp only [Array.empty_append, Array.getD_eq_getD_getElem?, Array.getElem?_append_left hi]
            simpa using this
          have hb : Below w.heap.size w (w.drew.alloc (.cells (#[] ++ arr ++ rest) el)) := ((Below.refl _ _).drew).alloc (Nat.le_refl _) _
          obtain ⟨k1, k2⟩ := hI.newRow hB0 hd hb (heap_alloc_new w.drew _) (k := ⟨esz, new, true⟩) rfl hnl hP
          refine ⟨c, _, LeC.refl _, Mu.add_le (hd _ (Nat.le_refl _)), k1, k2, ?_⟩
          have hsz : (#[] ++ arr ++ rest).size = cap * esz := by
            simp only [Array.empty_append, Array.size_append, h1.1, hfl, h3]
            rw [← Nat.add_mul]
            congr 1
            omega
          have := Rd.ms (c := c) (μ := μ.add ρ.length (w.heap.size, (#[] ++ arr ++ rest).size)) ρ.length esz 0 new.length w.heap.size _ cap (by simp [Mu.add]; rfl) h2 (by rw [Nat.zero_add]; simpa using Nat.le_of_eq hsz.symm)
          simpa using this
        · cases hev
    · rename_i id esz' off n
      split at hev
      · rename_i k hk
        split at hev
        · rename_i hcond
          obtain ⟨rfl, hz, rfl, hn, hl, hle⟩ := hcond
          cases hev
          obtain ⟨b, N, cap, hm, rfl, hc1, hc2⟩ := rd_ms hs
          have htok := hI.tok id k b N hk hm hl
          obtain ⟨arr0, el0, t4, t5, t6⟩ := htok.flat
          have hkl : ∀ cs, cs ∈ k.es → cs.length = esz' := by rw [← hz]; exact htok.2.1
          have htl : ∀ cs, cs ∈ k.es.take n → cs.length = esz' := fun cs h => hkl cs (List.mem_of_mem_take h)
          have hnl2 : ∀ cs, cs ∈ k.es.take n ++ new → cs.length = esz' := fun cs h => by
            rcases List.mem_append.1 h with h | h
            · exact htl cs h
            · exact hnl cs h
          have htake : (k.es.take n).flatten.length = n * esz' := by rw [flat_len htl, List.length_take, Nat.min_eq_left hn]
          have hnewl : new.flatten.length = new.length * esz' := flat_len hnl
          have htk : ∀ (i : Nat) x, (k.es.take n).flatten[i]? = some x → k.es.flatten[i]? = some x := by
            intro i x ex
            rw [← List.take_append_drop n k.es, List.flatten_append, List.getElem?_append_left]
            · exact ex
            · rcases Nat.lt_or_ge i (k.es.take n).flatten.length with h' | h'
              · exact h'
              · rw [List.getElem?_eq_none h'] at ex; cases ex
          -- the old row is given up
          have hidl : id < ρ.length := by
            rcases Nat.lt_or_ge id ρ.length with h' | h'
            · exact h'
            · simp [List.getElem?_eq_none h'] at hk
          have hget : ∀ (id2 : Nat) k2, (ρ.set id ⟨esz', [], false⟩)[id2]? = some k2 → (id2 = id ∧ k2 = ⟨esz', [], false⟩) ∨ (id2 ≠ id ∧ ρ[id2]? = some k2) := by
            intro id2 k2 h
            rw [List.getElem?_set] at h
            split at h
            · rename_i heq; cases h; exact .inl ⟨heq.symm, rfl⟩
            · rename_i hne; exact .inr ⟨fun h' => hne h'.symm, h⟩
          have hI2 : ∀ w2, Inv B w0 ca c μ ρ w2 → Inv B w0 ca c μ (ρ.set id ⟨esz', [], false⟩) w2 := by
            intro w2 h2
            refine ⟨h2.below, h2.cells, h2.low, ?_, ?_, ?_, h2.old, h2.base, h2.rest⟩
            · intro id2 k2 b2 N2 h hm2 hl2
              rcases hget id2 k2 h with ⟨_, rfl⟩ | ⟨_, h⟩
              · cases hl2
              · exact h2.tok id2 k2 b2 N2 h hm2 hl2
            · intro id2 k2 h hd2
              rcases hget id2 k2 h with ⟨_, rfl⟩ | ⟨_, h⟩
              · rfl
              · exact h2.dead id2 k2 h hd2
            · intro i1 i2 k1 k2 b2 N1 N2 h1 h2' l1 l2 m1 m2
              rcases hget i1 k1 h1 with ⟨_, rfl⟩ | ⟨_, g1⟩
              · cases l1
              · rcases hget i2 k2 h2' with ⟨_, rfl⟩ | ⟨_, g2⟩
                · cases l2
                · exact h2.inj i1 i2 k1 k2 b2 N1 N2 g1 g2 l1 l2 m1 m2
          have hd2 : Dom μ (ρ.set id ⟨esz', [], false⟩) := fun q hq => hd q (by simpa using hq)
          have hlen2 : (ρ.set id ⟨esz', [], false⟩).length = ρ.length := by simp
          by_cases hcap : n + new.length ≤ cap
          · -- in place
            obtain ⟨arr, h1, h2⟩ := hA.inplace _ n cap rfl hcap
            simp only [Nat.zero_mul, addr_add, Nat.zero_add] at h2
            have hcells : ∀ u, u ∈ arr.toList → u.oneCell' = true := by
              intro u hu'
              obtain ⟨q, hq⟩ := List.mem_iff_getElem?.1 hu'
              have hql : q < new.flatten.length := by
                rw [← h1.1]
                rcases Nat.lt_or_ge q arr.size with h' | h'
                · exact h'
                · rw [List.getElem?_eq_none (by simpa using h')] at hq; cases hq
              have hx' := h1.2 q _ (List.getElem?_eq_getElem hql)
              have hgq : arr.getD q undef = u := by
                have : arr[q]? = some u := by simpa using hq
                simp [this]
              rw [hgq] at hx'
              refine one_rd hx' ?_
              obtain ⟨cs, m1, m2⟩ := List.mem_flatten.1 (List.getElem_mem hql)
              exact List.all_eq_true.1 (List.all_eq_true.1 hone cs m1) _ m2
            have hNle : (n + new.length) * esz' ≤ N := by
              have : (n + new.length) * esz' ≤ (0 + cap) * esz' := Nat.mul_le_mul_right _ (by omega)
              omega
            have hst : n * esz' + 0 + arr.toList.length ≤ arr0.size := by
              rw [t5, Array.length_toList, h1.1, hnewl, Nat.add_zero, ← Nat.add_mul]
              exact hNle
            obtain ⟨w', r1, r2, r3, r4, r5⟩ := storeCells_run (P := P) (b := b) (off := n * esz') (el := el0) arr.toList 0 w arr0 hcells t4 hst
            rw [r1] at h2
            refine OpRuns.of_value (hrun _ _ h2) ?_
            have hP : RdP c μ ((arr.toList.zipIdx 0).foldl (fun (cs : Array Value) (p : Value × Nat) => cs.setIfInBounds (n * esz' + p.2) p.1) arr0) (k.es.take n ++ new).flatten := by
              have h0 : RdP c μ arr0 (k.es.take n).flatten := ⟨by have := t6.1; rw [flat_len hkl] at this; rw [htake]; have : n * esz' ≤ k.es.length * esz' := Nat.mul_le_mul_right _ hn; omega, fun i x ex => t6.2 i x (htk i x ex)⟩
              have hsp := spliceP (off := n * esz') h0 h1.toList (by rw [htake]; exact Nat.le_refl _) (by rw [hnewl, t5, ← Nat.add_mul]; exact hNle)
              have : spliceAt (k.es.take n).flatten (n * esz') new.flatten = (k.es.take n ++ new).flatten := by
                unfold spliceAt
                rw [List.flatten_append, List.take_of_length_le (by rw [htake]; exact Nat.le_refl _), List.drop_of_length_le (by rw [htake]; omega), List.append_nil]
              rwa [this] at hsp
            have hI3 : Inv B w0 ca c μ (ρ.set id ⟨esz', [], false⟩) w' := by
              have hIw := hI.store hk hm hl r3 r4 (k' := ⟨esz', k.es.take n ++ new, true⟩) rfl (TokOk.of_flat htok.1 hnl2 r2 (by rw [setFold_size]; exact t5) hP)
              refine ⟨hIw.below, hIw.cells, hIw.low, ?_, ?_, ?_, hIw.old, hIw.base, hIw.rest⟩
              · intro id2 k2 b2 N2 h hm2 hl2
                rcases hget id2 k2 h with ⟨_, rfl⟩ | ⟨hne, h⟩
                · cases hl2
                · exact hIw.tok id2 k2 b2 N2 (by rw [List.getElem?_set, if_neg (fun h' => hne h'.symm)]; exact h) hm2 hl2
              · intro id2 k2 h hdd
                rcases hget id2 k2 h with ⟨_, rfl⟩ | ⟨_, h⟩
                · rfl
                · exact hI.dead id2 k2 h hdd
              · exact (hI2 w hI).inj
            obtain ⟨k1, k2⟩ := hI3.push hd2 (b := b) (N := N) (k := ⟨esz', k.es.take n ++ new, true⟩) rfl (hI.low id b N hm)
              (TokOk.of_flat htok.1 hnl2 r2 (by rw [setFold_size]; exact t5) ⟨hP.1, fun i x ex => (hP.2 i x ex).mono (LeC.refl _) (by rw [hlen2]; exact Mu.add_le (hd _ (Nat.le_refl _)))⟩)
              (fun id2 k2 N2 h hl2 hm2 => by
                rcases hget id2 k2 h with ⟨_, rfl⟩ | ⟨hne, h⟩
                · cases hl2
                · exact hne (hI.inj id2 id k2 k b N2 N h hk hl2 hl hm2 hm))
            rw [hlen2] at k1 k2
            refine ⟨c, _, LeC.refl _, Mu.add_le (hd _ (Nat.le_refl _)), k1, k2, ?_⟩
            have := Rd.ms (c := c) (μ := μ.add ρ.length (b, N)) ρ.length esz' 0 (n + new.length) b N cap (by simp [Mu.add]) hcap (by simpa using hc2)
            simpa using this
          · -- a new block
            obtain ⟨b2, N2, cap2, hm2, hv2, _, _, hl2, hat⟩ := CellsAt.of_ms hI.drew hs hk hz (by omega : 0 + n ≤ k.es.length)
            cases hv2
            rw [hm] at hm2
            cases hm2
            rw [List.drop_zero] at hat
            obtain ⟨olds, o1, o2⟩ := loadCells_at (P := P) hat (n := n * esz') htake.symm
            obtain ⟨arr, rest, cap', h1, h2, h3, h4⟩ := hA.grow _ n cap rfl (by omega) hle olds o1
            refine OpRuns.of_value (hrun _ _ h4) ?_
            have hos : olds.size = n * esz' := by rw [o2.1, htake]
            have has : arr.size = new.length * esz' := by rw [h1.1, hnewl]
            have hP : RdP c μ (olds ++ arr ++ rest) (k.es.take n ++ new).flatten := by
              rw [List.flatten_append]
              refine ⟨by simp only [List.length_append, Array.size_append, htake, hnewl, hos, has]; omega, fun i x ex => ?_⟩
              rw [List.getElem?_append] at ex
              rw [Array.getD_eq_getD_getElem?]
              split at ex
              · rename_i hi
                have := o2.2 i x ex
                rw [Array.append_assoc, Array.getElem?_append_left (by omega)]
                simpa using this
              · rename_i hi
                have := h1.2 _ x ex
                have hi2 : i - (k.es.take n).flatten.length < arr.size := by
                  rw [h1.1]
                  rcases Nat.lt_or_ge (i - (k.es.take n).flatten.length) new.flatten.length with h' | h'
                  · exact h'
                  · rw [List.getElem?_eq_none h'] at ex; cases ex
                rw [Array.append_assoc, Array.getElem?_append_right (by omega), Array.getElem?_append_left (by omega)]
                rw [hos, ← htake]
                simpa using this
            have hb : Below w.heap.size w (w.drew.alloc (.cells (olds ++ arr ++ rest) el)) := ((Below.refl _ _).drew).alloc (Nat.le_refl _) _
            obtain ⟨k1, k2⟩ := (hI2 w hI).newRow hB0 hd2 hb (heap_alloc_new w.drew _) (k := ⟨esz', k.es.take n ++ new, true⟩) rfl hnl2 hP
            rw [hlen2] at k1 k2
            refine ⟨c, _, LeC.refl _, Mu.add_le (hd _ (Nat.le_refl _)), k1, k2, ?_⟩
            have hsz : (olds ++ arr ++ rest).size = cap' * esz' := by
              simp only [Array.size_append, hos, has, h3]
              rw [← Nat.add_mul, ← Nat.add_mul]
              congr 1
              omega
            have := Rd.ms (c := c) (μ := μ.add ρ.length (w.heap.size, (olds ++ arr ++ rest).size)) ρ.length esz' 0 (n + new.length) w.heap.size _ cap' (by simp [Mu.add]; rfl) h2 (by rw [Nat.zero_add]; simpa using Nat.le_of_eq hsz.symm)
            simpa using this
        · cases hev
      · cases hev
    · cases hev
  · cases hev

theorem cpySrc (hI : Inv B w0 ca c μ ρ w) {v : Value} {p : PV} {esz : Nat} {new : List (List PV)} (h : Rd c μ v p) (hp : cpyElems esz ρ p = some new) (m : Nat) (hm : m ≤ new.length) :
    (∀ cs, cs ∈ new → cs.length = esz) ∧ (Builtin.lenOf v).run P w = .ok new.length w ∧ ∃ arr, (Builtin.firstCells esz m v).run P w = .ok arr w ∧ RdA c μ arr (new.take m).flatten := by
  have pre : ∀ {b off : Nat}, (∀ cs, cs ∈ new → cs.length = esz) → CellsAt c μ w b off new.flatten → ∃ arr, (loadCells ⟨b, off, none⟩ (m * esz)).run P w = .ok arr w ∧ RdA c μ arr (new.take m).flatten := by
    intro b off hl hat
    have hat2 : CellsAt c μ w b off (new.take m).flatten := by
      intro k x ex
      refine hat k x ?_
      rw [← List.take_append_drop m new, List.flatten_append, List.getElem?_append_left]
      · exact ex
      · rcases Nat.lt_or_ge k (new.take m).flatten.length with h' | h'
        · exact h'
        · rw [List.getElem?_eq_none h'] at ex; cases ex
    exact loadCells_at hat2 (by rw [flat_len (fun cs h => hl cs (List.mem_of_mem_take h)), List.length_take, Nat.min_eq_left hm])
  cases p with
  | str s => cases hp
  | z b =>
    cases hp
    obtain ⟨ad, rfl⟩ := rd_z h
    have : m = 0 := by simpa using hm
    subst this
    refine ⟨(fun cs h => (by cases h)), rfl, #[], ?_, rfl, (fun i x e => (by simp at e))⟩
    cases ad with
    | none => rfl
    | some ad => simp [Builtin.firstCells, loadCells, loadCellsFrom]
  | sl esz' es =>
    simp only [cpyElems, appElems] at hp
    split at hp
    · rename_i hz
      subst hz
      cases hp
      obtain ⟨b, off, cap, rfl, h1, h2, h3⟩ := CellsAt.of_sl hI.cells h
      obtain ⟨arr, r1, r2⟩ := pre h2 h3
      exact ⟨h2, rfl, arr, r1, r2⟩
    · cases hp
  | ms id esz' off n =>
    simp only [cpyElems, appElems] at hp
    split at hp
    · rename_i k hk
      split at hp
      · rename_i hz
        obtain ⟨rfl, hz2, hn⟩ := hz
        cases hp
        obtain ⟨b, N, cap, hm, rfl, h1, h2, h3, h4⟩ := CellsAt.of_ms hI h hk hz2 hn
        have hlen : ((k.es.drop off).take n).length = n := by simp; omega
        obtain ⟨arr, r1, r2⟩ := pre h3 h4
        exact ⟨h3, by rw [hlen]; rfl, arr, r1, r2⟩
      · cases hp
    · cases hp
  | _ => cases hp

theorem w_cpy (hI : Inv B w0 ca c μ ρ w) (hd : Dom μ ρ) {dv sv : Value} {sp : PV} {id esz off n : Nat} {k : Tok} {new : List (List PV)} {t u ty el : TypeId} (hdv : Rd c μ dv (.ms id esz off n)) (hsv : Rd c μ sv sp) (hnew : cpyElems esz ρ sp = some new)
    (hk : ρ[id]? = some k) (hz : k.esz = esz) (hl : k.live = true) (hn : off + n ≤ k.es.length) (hone : new.all (fun cs => cs.all one) = true) (ht : P.underlying t = some (.slice el)) (hsz : sizeT P el = some esz) {o : Oper} {a : Act}
    (hrun : ∀ v w', (Builtin.copy_ #[t, u] ty #[dv, sv]).run P w = .ok v w' → (execOp a.eval o).run P w = .ok (.value v) w') :
    OpRuns P o a w (Wrote B w0 ca c μ (ρ.set id ⟨esz, k.es.take off ++ new.take n ++ k.es.drop (off + min new.length n), true⟩) (.int .i64 (min new.length n : Nat))) := by
  subst hz
  obtain ⟨b, N, cap, hm, rfl, hc1, hc2⟩ := rd_ms hdv
  have htok := hI.tok id k b N hk hm hl
  obtain ⟨arr0, el0, t4, t5, t6⟩ := htok.flat
  have hkl := htok.2.1
  obtain ⟨hnl, s1, arr, s2, s3⟩ := cpySrc (P := P) hI hsv hnew (min new.length n) (Nat.min_le_left _ _)
  have hmn : new.take (min new.length n) = new.take n := by
    rcases Nat.le_total new.length n with h | h
    · rw [Nat.min_eq_left h, List.take_of_length_le (Nat.le_refl _), List.take_of_length_le h]
    · rw [Nat.min_eq_right h]
  rw [hmn] at s3
  have hnl2 : ∀ cs, cs ∈ new.take n → cs.length = k.esz := fun cs h => hnl cs (List.mem_of_mem_take h)
  have hnewl : (new.take n).flatten.length = min new.length n * k.esz := by rw [flat_len hnl2, List.length_take, Nat.min_comm]
  have hinfo : (sizeOf el).run P w = .ok k.esz w := by
    unfold sizeT at hsz
    cases hi : P.info? el with
    | none => rw [hi] at hsz; cases hsz
    | some i => rw [hi] at hsz; simp only [Option.map_some, Option.some.injEq] at hsz; simp [sizeOf, typeInfo, hi, hsz]
  have hcells : ∀ u, u ∈ arr.toList → u.oneCell' = true := by
    intro u hu'
    obtain ⟨q, hq⟩ := List.mem_iff_getElem?.1 hu'
    have hql : q < (new.take n).flatten.length := by
      rw [← s3.1]
      rcases Nat.lt_or_ge q arr.size with h' | h'
      · exact h'
      · rw [List.getElem?_eq_none (by simpa using h')] at hq; cases hq
    have hx' := s3.2 q _ (List.getElem?_eq_getElem hql)
    have hgq : arr.getD q undef = u := by
      have : arr[q]? = some u := by simpa using hq
      simp [this]
    rw [hgq] at hx'
    refine one_rd hx' ?_
    obtain ⟨cs, m1, m2⟩ := List.mem_flatten.1 (List.getElem_mem hql)
    exact List.all_eq_true.1 (List.all_eq_true.1 hone cs (List.mem_of_mem_take m1)) _ m2
  have hle : (off + min new.length n) * k.esz ≤ k.es.length * k.esz := Nat.mul_le_mul_right _ (by have := Nat.min_le_right new.length n; omega)
  have hN : k.es.length * k.esz ≤ N := htok.2.2.1
  have hst : off * k.esz + 0 + arr.toList.length ≤ arr0.size := by
    rw [t5, Array.length_toList, s3.1, hnewl, Nat.add_zero, ← Nat.add_mul]
    omega
  obtain ⟨w', r1, r2, r3, r4, r5⟩ := storeCells_run (P := P) (b := b) (off := off * k.esz) (el := el0) arr.toList 0 w arr0 hcells t4 hst
  have hrun' : (Builtin.copy_ #[t, u] ty #[.slice (some ⟨b, off * k.esz, none⟩) n cap, sv]).run P w = .ok (.int .i64 (min new.length n : Nat)) w' := by
    have hmin : Nat.min new.length n = min new.length n := rfl
    simp [Builtin.copy_, run_underlying ht, s1, hinfo, hmin, s2, r1, goInt]
  have htl : (k.es.take off).flatten.length = off * k.esz := by rw [flat_len (fun cs h => hkl cs (List.mem_of_mem_take h)), List.length_take, Nat.min_eq_left (by omega)]
  have hdr : ∀ j, j ≤ k.es.length → k.es.flatten.drop (j * k.esz) = (k.es.drop j).flatten := by
    intro j hj
    have : (k.es.take j).flatten.length = j * k.esz := by rw [flat_len (fun cs h => hkl cs (List.mem_of_mem_take h)), List.length_take, Nat.min_eq_left hj]
    conv => lhs; rw [← List.take_append_drop j k.es, List.flatten_append, ← this]
    exact List.drop_left
  have hP : RdP c μ ((arr.toList.zipIdx 0).foldl (fun (cs : Array Value) (p : Value × Nat) => cs.setIfInBounds (off * k.esz + p.2) p.1) arr0) (k.es.take off ++ new.take n ++ k.es.drop (off + min new.length n)).flatten := by
    have hsp := spliceP (off := off * k.esz) t6 s3.toList (by rw [flat_len hkl]; exact Nat.mul_le_mul_right _ (by omega)) (by rw [hnewl, t5, ← Nat.add_mul]; omega)
    have : spliceAt k.es.flatten (off * k.esz) (new.take n).flatten = (k.es.take off ++ new.take n ++ k.es.drop (off + min new.length n)).flatten := by
      unfold spliceAt
      rw [hnewl, ← Nat.add_mul, hdr _ (by have := Nat.min_le_right new.length n; omega), List.flatten_append, List.flatten_append]
      congr 2
      conv => lhs; rw [← List.take_append_drop off k.es, List.flatten_append, ← htl]
      exact List.take_left
    rwa [this] at hsp
  refine OpRuns.of_value (hrun _ _ hrun') ⟨c, μ, LeC.refl _, LeM.refl _, hI.store hk hm hl r3 r4 rfl (TokOk.of_flat htok.1 ?_ r2 (by rw [setFold_size]; exact t5) hP), fun q hq => hd q (by simpa using hq), .int _ _⟩
  intro cs hcs
  simp only [List.mem_append] at hcs
  rcases hcs with (h | h) | h
  · exact hkl cs (List.mem_of_mem_take h)
  · exact hnl2 cs h
  · exact hkl cs (List.mem_of_mem_drop h)

end
end Go.Proofs.YtkccoijckckhmaaGreatDoor.Ev

namespace Go.Proofs.YtkccoijckckhmaaGreatDoor.Ev
open Go Go.RowKit

/-- What is asked of the calls that share the store. -/
def CallOk (P : Program) (call : FuncId → List PV → Store → Option (PV × Store)) : Prop :=
  ∀ g args ρ r ρ', call g args ρ = some (r, ρ') → Enterable P g ∧ ∀ (B : Nat) (w0 : World) (ca : Cm) (c : Cm) (μ : Mu) (w : World) (vs : List Value), B ≤ w0.heap.size → Inv B w0 ca c μ ρ w → Dom μ ρ → RdL c μ vs args →
    Calls P g vs.toArray w (fun e w' => ∃ v, e = .returned v ∧ Wrote B w0 ca c μ ρ' r v w')

theorem Quiet.wrote {B : Nat} {w0 : World} {ca : Cm} {c : Cm} {μ : Mu} {ρ : Store} {w w' : World} {p : PV} {v : Value} (hI : Inv B w0 ca c μ ρ w) (hB0 : B ≤ w0.heap.size) (hd : Dom μ ρ) (h : Quiet c μ w p v w') : Wrote B w0 ca c μ ρ p v w' := by
  obtain ⟨c', h1, h2, h3, h4, h5⟩ := h
  exact ⟨c', μ, h1, LeM.refl _, hI.grow (Nat.le_trans hB0 hI.below.size) h3 h1 h2 h4, hd, h5⟩

def quietOp : Op → Bool
  | .alloc _ | .box .. | .store .. | .makeSlice .. | .panic _ | .call _ => false
  | _ => true

theorem cOp_cl {P : Program} {rc : FuncId → Bool} {op : Op} {so : SOp} (hc : cOp P rc op = some so) (h : quietOp op = true) : so.cl = .P ∨ so.cl = .R := by
  cases op
  case alloc => cases h
  case box => cases h
  case store => cases h
  case makeSlice => cases h
  case panic => cases h
  case call => cases h
  case move => simp only [cOp, Option.map_eq_some_iff] at hc; obtain ⟨_, _, rfl⟩ := hc; exact .inl rfl
  case assign => simp only [cOp, Option.map_eq_some_iff] at hc; obtain ⟨_, _, rfl⟩ := hc; exact .inl rfl
  case unOp => simp only [cOp, Option.map_eq_some_iff] at hc; obtain ⟨_, _, rfl⟩ := hc; exact .inl rfl
  case extract => simp only [cOp, Option.map_eq_some_iff] at hc; obtain ⟨_, _, rfl⟩ := hc; exact .inl rfl
  case nilCheck => simp only [cOp, Option.map_eq_some_iff] at hc; obtain ⟨_, _, rfl⟩ := hc; exact .inl rfl
  case makeFunc f first caps =>
    cases f with
    | func f =>
      simp only [cOp] at hc
      split at hc
      · simp only [Option.map_eq_some_iff] at hc; obtain ⟨_, _, rfl⟩ := hc; exact .inl rfl
      · cases hc
    | _ => cases hc
  case pick => simp only [cOp] at hc; split at hc <;> cases hc; exact .inl rfl
  case binOp =>
    simp only [cOp, cBin] at hc
    repeat' split at hc
    all_goals first | (cases hc; done) | (cases hc; exact .inl rfl)
  case load =>
    simp only [cOp] at hc
    split at hc <;> cases hc <;> exact .inr rfl
  case convert =>
    simp only [cOp] at hc
    repeat' split at hc
    all_goals first | (cases hc; done) | (cases hc; exact .inl rfl) | (cases hc; exact .inr rfl)
  case field => simp only [cOp] at hc; repeat' split at hc
                all_goals first | (cases hc; done) | (cases hc; exact .inl rfl)
  case build => simp only [cOp] at hc; repeat' split at hc
                all_goals first | (cases hc; done) | (cases hc; exact .inl rfl)
  case buildSlice => simp only [cOp] at hc; repeat' split at hc
                     all_goals first | (cases hc; done) | (cases hc; exact .inl rfl)
  case fieldAddr => simp only [cOp] at hc; repeat' split at hc
                    all_goals first | (cases hc; done) | (cases hc; exact .inl rfl)
  case indexAddr => simp only [cOp] at hc; repeat' split at hc
                    all_goals first | (cases hc; done) | (cases hc; exact .inl rfl)
  case index => simp only [cOp] at hc; repeat' split at hc
                all_goals first | (cases hc; done) | (cases hc; exact .inl rfl)
  case slice => simp only [cOp] at hc; repeat' split at hc
                all_goals first | (cases hc; done) | (cases hc; exact .inl rfl)
  case makeInterface => simp only [cOp] at hc; repeat' split at hc
                        all_goals first | (cases hc; done) | (cases hc; exact .inl rfl)
  all_goals cases hc

theorem wrote_sound {P : Program} {T : Tab} {call : FuncId → List PV → Store → Option (PV × Store)} {rc : FuncId → Bool} {c : Cm} {μ : Mu} {a : Act} {e : Env} {w : World} {o : Oper} {ρ ρ' : Store} {B : Nat} {w0 : World} {ca : Cm} {so : SOp} {p : PV}
    (hT : ∀ f g, T.pure f = some g → Contract P f g) (hcall : CallOk P call) (hB0 : B ≤ w0.heap.size) (hc : cOp P rc o.op = some so) (hI : Inv B w0 ca c μ ρ w) (hd : Dom μ ρ) (he : EnvR c μ a e) (hev : evOp T call e ρ so = some (p, ρ')) : OpRuns P o a w (Wrote B w0 ca c μ ρ' p) := by
  have quiet : (so.cl = .P ∨ so.cl = .R) → OpRuns P o a w (Wrote B w0 ca c μ ρ' p) := fun hcl => by
    obtain ⟨rfl, h⟩ := quiet_sound hT hc hcl hI he hev
    exact h.mono fun v w' hq => hq.wrote hI hB0 hd
  cases ho : o.op with
  | alloc t =>
    rw [ho] at hc
    simp only [cOp, Option.map_eq_some_iff] at hc
    obtain ⟨z, hz, rfl⟩ := hc
    cases hev
    exact w_alc hI hB0 hd ho hz
  | box t x =>
    rw [ho] at hc
    simp only [cOp] at hc
    split at hc
    · rename_i n sx hn hx
      cases hc
      simp only [evOp] at hev
      split at hev
      · rename_i cs hcs; cases hev; exact w_box hI hB0 hd he ho hx hcs
      · cases hev
    · cases hc
  | store t x v =>
    rw [ho] at hc
    simp only [cOp] at hc
    split at hc
    · rename_i n sx sv hn hx hv
      cases hc
      simp only [evOp] at hev
      split at hev
      · rename_i id esz i j hp
        split at hev
        · rename_i k hk
          split at hev
          · rename_i hcond
            split at hev
            · rename_i cs vs hi hvs
              split at hev
              · rename_i hcond2
                cases hev
                exact w_st hI hd he ho hn hx hv hp hk hcond.1 hcond.2 hi hvs hcond2.1 hcond2.2
              · cases hev
            · cases hev
          · cases hev
        · cases hev
      · cases hev
    · cases hc
  | makeSlice t l cp =>
    rw [ho] at hc
    simp only [cOp] at hc
    split at hc
    · rename_i el sl scp ht hl hcp
      split at hc
      · rename_i i z hi hz
        split at hc
        · rename_i hcond
          cases hc
          simp only [evOp] at hev
          split at hev
          · rename_i n m hn hm
            split at hev
            · rename_i hr; cases hev; exact w_mks hI hB0 hd he ho ht hl hcp hi hz hcond.1 hcond.2.1 hcond.2.2 hn hm hr.1 hr.2.1 hr.2.2
            · cases hev
          · cases hev
        · cases hc
      · cases hc
    · cases hc
  | panic x => rw [ho] at hc; cases hc; cases hev
  | call cl =>
    rw [ho] at hc
    simp only [cOp, cCall] at hc
    have inl : ∀ {f : Operand} {sf : SV} {sargs : List SV}, cl.callee = .value f → cSV f = some sf → cSVs cl.args.toList = some sargs → so = .callW sf sargs → OpRuns P o a w (Wrote B w0 ca c μ ρ' p) := by
      rintro f sf sargs hcal hf hargs rfl
      simp only [evOp] at hev
      split at hev
      · rename_i g caps hv
        obtain ⟨hen, hC⟩ := hcall g _ ρ p ρ' hev
        have e1 := cSV_rd he hf
        rw [hv] at e1
        obtain ⟨cv, hcv, k1, k2⟩ := rd_fn e1
        have har := (cSVs_rd he hargs).append (RdA.toList ⟨k1, k2⟩)
        have hto : (cl.args.toList.map a.eval ++ cv.toList).toArray = cl.args.map a.eval ++ cv := by apply Array.ext'; simp
        refine call_runs ho hcal hcv hen ?_
        rw [← hto]
        exact hC B w0 ca c μ w _ hB0 hI hd har
      · cases hev
    have two : ∀ {s x : Operand} {ss sx : SV}, cSVs cl.args.toList = some [ss, sx] → ∃ s x, cl.args = #[s, x] ∧ cSV s = some ss ∧ cSV x = some sx := by
      intro _ _ ss sx h
      cases hl : cl.args.toList with
      | nil => rw [hl] at h; cases h
      | cons s l1 =>
        cases l1 with
        | nil => rw [hl] at h; have := cSVs_len h; simp at this
        | cons x l2 =>
          cases l2 with
          | nil =>
            rw [hl] at h
            simp only [cSVs] at h
            split at h
            · rename_i y ys h1 h2
              split at h2
              · rename_i y2 ys2 h3 h4
                cases h4; cases h2; cases h
                exact ⟨s, x, by apply Array.ext'; simpa using hl, h1, h3⟩
              · cases h2
            · cases h
          | cons z l3 => rw [hl] at h; have := cSVs_len h; simp at this
    have tys : ∀ {t u : TypeId}, cl.argTypes.toList = [t, u] → cl.argTypes = #[t, u] := fun h => by apply Array.ext'; simpa using h
    have app : ∀ {s x : Operand} {ss sx : SV} {t u el : TypeId} {i : TypeInfo}, cl.callee = .builtin .append → cl.args = #[s, x] → cl.argTypes = #[t, u] → cSV s = some ss → cSV x = some sx → P.underlying t = some (.slice el) → ((∃ e2, P.underlying u = some (.slice e2)) ∨ P.underlying u = some .string) →
        P.info? el = some i → i.bytes ≤ 65536 → i.zero.isSome = true → i.zero.map (fun v => v.cells.size) = some i.size → so = .app i.size ss sx → OpRuns P o a w (Wrote B w0 ca c μ ρ' p) := by
      rintro s x ss sx t u el i hcal ha hat hs hx ht hu hi hby hz1 hz2 rfl
      obtain ⟨zv, hzv⟩ := Option.isSome_iff_exists.1 hz1
      simp only [evOp] at hev
      split at hev
      · rename_i new hnew
        have hzs : zv.cells.size = i.size := by rw [hzv] at hz2; simpa using hz2
        have hv := cSV_rd he hx
        refine w_app hI hB0 hd (cSV_rd he hs) (appSrc (P := P) hI hv hnew).1 hev (appRun_of (ty := o.type) hI ht hu hi hzv hzs hby hv hnew) ?_
        intro v w' hr
        simp [execOp, ho, resolve, hcal, ha, hat, invoke, builtin, hr]
      · cases hev
    split at hc
    · rename_i f sargs hcal hargs
      split at hc
      · cases hc; exact quiet (.inr rfl)
      · cases hc; exact inl hcal rfl hargs rfl
    · rename_i t sargs hcal hargs
      split at hc
      · cases hc; exact quiet (.inr rfl)
      · cases hc; exact inl hcal rfl hargs rfl
    · split at hc
      · split at hc
        · cases hc; exact quiet (.inl rfl)
        · cases hc; exact quiet (.inl rfl)
        · cases hc
      · cases hc
    · split at hc
      · cases hc; exact quiet (.inl rfl)
      · cases hc
    · split at hc
      · cases hc; exact quiet (.inl rfl)
      · cases hc
    · rename_i sd ssrc hcal hargs
      obtain ⟨s, x, ha, hs, hx⟩ := two (s := .func 0) (x := .func 0) hargs
      split at hc
      · rename_i t u hts
        split at hc
        · rename_i el ht
          split at hc
          · rename_i n hn
            cases hc
            simp only [evOp] at hev
            split at hev
            · rename_i id esz' off m new hdv hnew
              split at hev
              · rename_i k hk
                split at hev
                · rename_i hcond
                  obtain ⟨rfl, h2, h3, h4, h5⟩ := hcond
                  cases hev
                  have hd1 := cSV_rd he hs
                  rw [hdv] at hd1
                  refine w_cpy (ty := o.type) (u := u) hI hd hd1 (cSV_rd he hx) hnew hk h2 h3 h4 h5 ht hn ?_
                  intro v w' hr'
                  simp [execOp, ho, resolve, hcal, ha, tys hts, invoke, builtin, hr']
                · cases hev
              · cases hev
            · cases hev
          · cases hc
        · cases hc
      · cases hc
    · rename_i ss sx hcal hargs
      obtain ⟨s, x, ha, hs, hx⟩ := two (s := .func 0) (x := .func 0) hargs
      split at hc
      · rename_i t u hts
        split at hc
        · rename_i el e2 ht hu
          split at hc
          · rename_i i hi
            split at hc
            · rename_i hcond; cases hc; exact app hcal ha (tys hts) hs hx ht (.inl ⟨e2, hu⟩) hi hcond.1 hcond.2.2.1 hcond.2.2.2 rfl
            · cases hc
          · cases hc
        · rename_i el ht hu
          split at hc
          · rename_i i hi
            split at hc
            · rename_i hcond; cases hc; exact app hcal ha (tys hts) hs hx ht (.inr hu) hi hcond.1 hcond.2.2.1 hcond.2.2.2 rfl
            · cases hc
          · cases hc
        · rename_i el k ht hu
          split at hc
          · rename_i i z hi hz
            split at hc
            · rename_i hcond
              cases hc
              simp only [evOp] at hev
              split at hev
              · rename_i m hm
                split at hev
                · rename_i hr
                  have hv := cSV_rd he hx
                  rw [hm] at hv
                  refine w_app hI hB0 hd (cSV_rd he hs) (new := List.replicate m.toNat z) (fun cs h => by rw [(List.mem_replicate.1 h).2]; exact hcond.2.2) hev
                    (by rw [List.length_replicate]; exact appRun_zeros (ty := o.type) hI ht hu hi hz hcond.2.2 hcond.2.1 hcond.1 hr.1 hr.2) ?_
                  intro v w' hr'
                  simp [execOp, ho, resolve, hcal, ha, tys hts, invoke, builtin, rd_int hv, hr']
                · cases hev
              · cases hev
            · cases hc
          · cases hc
        · cases hc
      · cases hc
    · cases hc
  | _ =>
    refine quiet ?_
    rw [ho] at hc
    exact cOp_cl hc rfl

end Go.Proofs.YtkccoijckckhmaaGreatDoor.Ev

namespace Go.Proofs.YtkccoijckckhmaaGreatDoor.Ev
open Go Go.RowKit

/-- The evaluator asks only for what an operation reads. -/
theorem SV.congr {e e' : Env} {x : SV} (h : ∀ t, t ∈ x.reads → e t = e' t) : x.ev e = x.ev e' := by
  cases x with
  | t n => exact h n (by simp [SV.reads])
  | k v => rfl

theorem SVs.congr {e e' : Env} : ∀ {xs : List SV}, (∀ t, t ∈ xs.flatMap SV.reads → e t = e' t) → xs.map (SV.ev e) = xs.map (SV.ev e')
  | [], _ => rfl
  | x :: xs, h => by
    simp only [List.flatMap_cons, List.mem_append] at h
    rw [List.map_cons, List.map_cons, SV.congr fun t ht => h t (.inl ht), SVs.congr fun t ht => h t (.inr ht)]

theorem optI.congr {e e' : Env} {d : Int} {x : Option SV} (h : ∀ t, t ∈ SVo.reads x → e t = e' t) : optI e d x = optI e' d x := by
  cases x with
  | none => rfl
  | some x => exact congrArg asI (SV.congr h)

theorem fillParts.congr {e e' : Env} : ∀ {ps : List (Nat × Nat × SV)} {cs : List PV}, (∀ t, t ∈ ps.flatMap (·.2.2.reads) → e t = e' t) → fillParts e ps cs = fillParts e' ps cs
  | [], _, _ => rfl
  | (off, n, x) :: ps, cs, h => by
    simp only [List.flatMap_cons, List.mem_append] at h
    simp only [fillParts]
    rw [SV.congr fun t ht => h t (.inl ht)]
    split
    · rw [fillParts.congr fun t ht => h t (.inr ht)]
    · rfl

theorem fillElems.congr {e e' : Env} {esz : Nat} : ∀ {ps : List (Nat × SV)} {es : List (List PV)}, (∀ t, t ∈ ps.flatMap (·.2.reads) → e t = e' t) → fillElems e esz ps es = fillElems e' esz ps es
  | [], _, _ => rfl
  | (i, x) :: ps, es, h => by
    simp only [List.flatMap_cons, List.mem_append] at h
    simp only [fillElems]
    rw [SV.congr fun t ht => h t (.inl ht)]
    split
    · rw [fillElems.congr fun t ht => h t (.inr ht)]
    · rfl

theorem evOp.congr {T : Tab} {call : FuncId → List PV → Store → Option (PV × Store)} {e e' : Env} {ρ : Store} {o : SOp} (h : ∀ t, t ∈ o.reads → e t = e' t) : evOp T call e ρ o = evOp T call e' ρ o := by
  cases o <;> simp only [SOp.reads, List.mem_append] at h
  case alc => rfl
  case pan => rfl
  case bld zero ps => simp only [evOp, fillParts.congr h]
  case bsl esz zero n ps => simp only [evOp, fillElems.congr h]
  case mkf f cs => simp only [evOp, SVs.congr h]
  case mm b xs => simp only [evOp, SVs.congr h]
  case callR f as => simp only [evOp, SV.congr fun t ht => h t (.inl ht), SVs.congr fun t ht => h t (.inr ht)]
  case callW f as => simp only [evOp, SV.congr fun t ht => h t (.inl ht), SVs.congr fun t ht => h t (.inr ht)]
  case pick x y z => simp only [evOp, SV.congr fun t ht => h t (.inl (.inl ht)), SV.congr fun t ht => h t (.inl (.inr ht)), SV.congr fun t ht => h t (.inr ht)]
  case slcs x l hh => simp only [evOp, SV.congr fun t ht => h t (.inl (.inl ht)), optI.congr fun t ht => h t (.inl (.inr ht)), optI.congr fun t ht => h t (.inr ht)]
  case slc n x l hh => simp only [evOp, SV.congr fun t ht => h t (.inl (.inl ht)), optI.congr fun t ht => h t (.inl (.inr ht)), optI.congr fun t ht => h t (.inr ht)]
  all_goals first
    | (simp only [evOp, SV.congr h]; done)
    | (simp only [evOp, SV.congr fun t ht => h t (.inl ht), SV.congr fun t ht => h t (.inr ht)]; done)
    | rfl

/-- An operation of class P asks for no store. -/
theorem evOp.anyStore {T : Tab} {call : FuncId → List PV → Store → Option (PV × Store)} {e : Env} {ρ ρ' : Store} {o : SOp} {p : PV} (hp : o.cl = .P) (h : evOp T call e ρ o = some (p, ρ')) (ρ2 : Store) : evOp T call e ρ2 o = some (p, ρ2) := by
  cases o <;> first
    | (cases hp; done)
    | (simp only [evOp] at h ⊢
       (repeat' split at h) <;> first | (cases h; done) | (cases h; simp_all; done) | (cases h; rfl))

end Go.Proofs.YtkccoijckckhmaaGreatDoor.Ev

namespace Go.Proofs.YtkccoijckckhmaaGreatDoor.Ev
open Go Go.RowKit

theorem cOpers_get {P : Program} {rc : FuncId → Bool} {N : Nat} {ops : Array Oper} : ∀ {l : List Oper} {sl : List SOper}, cOpers P rc N ops l = some sl → l.length = sl.length ∧ ∀ (j : Nat) o, l[j]? = some o → ∃ so, sl[j]? = some so ∧ cOper P rc N ops o = some so
  | [], sl, h => by cases h; exact ⟨rfl, fun j o h => by simp at h⟩
  | o :: l, sl, h => by
    simp only [cOpers] at h
    split at h
    · rename_i so r h1 h2
      cases h
      obtain ⟨k1, k2⟩ := cOpers_get h2
      refine ⟨by simp [k1], fun j o' ho => ?_⟩
      cases j with
      | zero => simp at ho; subst ho; exact ⟨so, rfl, h1⟩
      | succ j => simpa using k2 j o' (by simpa using ho)
    · cases h

theorem cOper_spec {P : Program} {rc : FuncId → Bool} {N : Nat} {ops : Array Oper} {o : Oper} {so : SOper} (h : cOper P rc N ops o = some so) :
    cOp P rc o.op = some so.op ∧ cGuard ops o.guard = some so.guard ∧ so.dst = o.dst ∧ ∀ d, o.dst = some d → d < N := by
  unfold cOper at h
  split at h
  · rename_i op g h1 h2
    split at h
    · rename_i d hd
      split at h
      · rename_i hlt; cases h; exact ⟨h1, h2, hd.symm, fun d' h' => by rw [hd] at h'; cases h'; exact hlt⟩
      · cases h
    · rename_i hd; cases h; exact ⟨h1, h2, hd.symm, fun d' h' => by rw [hd] at h'; cases h'⟩
  · cases h

/-- The guard's word, as the machine has it. -/
theorem want_wanted {c : Cm} {μ : Mu} {ops : Array Oper} {o : Oper} {g : Option (Nat × Bool)} {tmps : Array Value} {e : Env} (hg : cGuard ops o.guard = some g) (hr : ∀ t b, g = some (t, b) → Rd c μ (tmps.getD t undef) (e t)) {b : Bool} (hw : want e g = some b) : Region.wanted o (yielded ops tmps) = b := by
  unfold Region.wanted
  cases ho : o.guard with
  | none => rw [ho] at hg; cases hg; cases hw; rfl
  | some jb =>
    obtain ⟨j, want'⟩ := jb
    rw [ho] at hg
    simp only [cGuard] at hg
    split at hg
    · rename_i t ht
      cases hg
      have h1 := hr t want' rfl
      simp only [want] at hw
      have hy : yielded ops tmps j = (match tmps[t]? with | some (.bool b) => some b | _ => none) := by
        unfold yielded
        rw [ht]
        rfl
      show (yielded ops tmps j == some want') = b
      rw [hy]
      split at hw
      · rename_i x hx
        cases hw
        rw [hx] at h1
        have := rd_bool h1
        have h2 : tmps[t]? = some (.bool x) := by
          cases h3 : tmps[t]? with
          | none => simp [Array.getD_eq_getD_getElem?, h3] at this; cases this
          | some v => simp [Array.getD_eq_getD_getElem?, h3] at this; rw [this]
        rw [h2]
        cases x <;> cases want' <;> rfl
      · rename_i hx
        cases hw
        rw [hx] at h1
        obtain ⟨vs, hv, _⟩ := rd_tup h1
        have h2 : (match tmps[t]? with | some (.bool b) => some b | _ => none) = none := by
          cases h3 : tmps[t]? with
          | none => rfl
          | some v => simp [Array.getD_eq_getD_getElem?, h3] at hv; rw [hv]
        rw [h2]
        rfl
      · cases hw
    · cases hg

theorem put_size (a : Act) (d : Option Tmp) (v : Value) : (a.put d v).tmps.size = a.tmps.size := by cases d <;> simp [Act.put]
theorem put_defers (a : Act) (d : Option Tmp) (v : Value) : (a.put d v).defers = a.defers := by cases d <;> rfl

theorem rd_undef (c : Cm) (μ : Mu) : Rd c μ undef (.tup []) := .tup #[] [] rfl (fun i x h => by simp at h)

/-- How a frame and a world stand to the evaluator's state. -/
structure At (B : Nat) (w0 : World) (ca : Cm) (N : Nat) (c : Cm) (μ : Mu) (a : Act) (w : World) (e : Env) (ρ : Store) : Prop where
  inv : Inv B w0 ca c μ ρ w
  dom : Dom μ ρ
  env : EnvR c μ a e
  size : a.tmps.size = N

/-- What follows may lean on more memory, and on more that is known. -/
def Later (Q : Act → World → Prop) (B : Nat) (w0 : World) (ca : Cm) (N : Nat) (df : List Deferred) (c : Cm) (μ : Mu) (e : Env) (ρ : Store) : Prop :=
  ∀ a w c' μ', LeC c c' → LeM μ μ' → At B w0 ca N c' μ' a w e ρ → a.defers = df → Q a w

theorem wpOps_text {P : Program} {T : Tab} {call : FuncId → List PV → Store → Option (PV × Store)} {rc : FuncId → Bool} {N B : Nat} {w0 : World} {ca : Cm} {ops : Array Oper} {Q : Exit → Act → World → Prop} {df : List Deferred} (hT : ∀ f g, T.pure f = some g → Contract P f g) (hcall : CallOk P call) (hB0 : B ≤ w0.heap.size) {e' : Env} {ρ' : Store} :
    ∀ (sl : List SOper) (k : Nat) (c : Cm) (μ : Mu) (a : Act) (w : World) (e : Env) (ρ : Store), (∀ j, j < sl.length → ∃ o so, ops[k + j]? = some o ∧ sl[j]? = some so ∧ cOper P rc N ops o = some so) → evOps T call sl e ρ = some (e', ρ') →
      At B w0 ca N c μ a w e ρ → a.defers = df → Later (Q .normal) B w0 ca N df c μ e' ρ' → wpOps P ops Q (List.range' k sl.length) a w
  | [], k, c, μ, a, w, e, ρ, _, hev, hat, hdf, hQ => by
    cases hev
    exact hQ a w c μ (LeC.refl _) (LeM.refl _) hat hdf
  | so :: sl, k, c, μ, a, w, e, ρ, hops, hev, hat, hdf, hQ => by
    obtain ⟨o, so', ho, hso, hco⟩ := hops 0 (by simp)
    simp only [List.getElem?_cons_zero, Option.some.injEq] at hso
    subst hso
    rw [Nat.add_zero] at ho
    obtain ⟨hc1, hc2, hc3, hc4⟩ := cOper_spec hco
    simp only [List.length_cons, List.range'_succ]
    rw [wpOps_cons]
    unfold wpOp
    simp only [ho]
    have hrest : ∀ c2 μ2 a2 w2 e2 ρ2, LeC c c2 → LeM μ μ2 → At B w0 ca N c2 μ2 a2 w2 e2 ρ2 → a2.defers = df → evOps T call sl e2 ρ2 = some (e', ρ') → wpOps P ops Q (List.range' (k + 1) sl.length) a2 w2 := by
      intro c2 μ2 a2 w2 e2 ρ2 h1 h2 h3 h4 h5
      have hh : ∀ j, j < sl.length → ∃ o so, ops[k + 1 + j]? = some o ∧ sl[j]? = some so ∧ cOper P rc N ops o = some so := by
        intro j hj
        obtain ⟨o2, so2, q1, q2, q3⟩ := hops (j + 1) (by simpa using hj)
        exact ⟨o2, so2, by rwa [show k + 1 + j = k + (j + 1) from by omega], by simpa using q2, q3⟩
      exact wpOps_text hT hcall hB0 sl (k + 1) c2 μ2 a2 w2 e2 ρ2 hh h5 h3 h4 (fun a3 w3 c3 μ3 k1 k2 k3 k4 => hQ a3 w3 c3 μ3 (h1.trans k1) (h2.trans k2) k3 k4)
    simp only [evOps] at hev
    split at hev
    · rename_i hw
      have hwd := want_wanted hc2 (fun t b _ => hat.env t) hw
      rw [hwd, if_pos rfl]
      split at hev
      · rename_i v ρ1 hv
        left
        refine (wrote_sound hT hcall hB0 hc1 hat.inv hat.dom hat.env hv) _ _ ?_
        rintro u w1 ⟨c1, μ1, k1, k2, k3, k4, k5⟩
        rw [← hc3]
        refine hrest c1 μ1 _ w1 _ ρ1 k1 k2 ⟨k3, k4, ?_, by rw [put_size]; exact hat.size⟩ (by rw [put_defers]; exact hdf) hev
        exact (hat.env.mono k1 k2).put (fun t ht => by rw [hat.size]; exact hc4 t (by rw [← hc3]; exact ht)) k5
      · cases hev
    · rename_i hw
      have hwd := want_wanted hc2 (fun t b _ => hat.env t) hw
      rw [hwd]
      simp only [Bool.false_eq_true, if_false]
      rw [← hc3]
      refine hrest c μ _ w _ ρ (LeC.refl _) (LeM.refl _) ⟨hat.inv, hat.dom, ?_, by rw [put_size]; exact hat.size⟩ (by rw [put_defers]; exact hdf) hev
      exact hat.env.put (fun t ht => by rw [hat.size]; exact hc4 t (by rw [← hc3]; exact ht)) (rd_undef c μ)
    · cases hev

end Go.Proofs.YtkccoijckckhmaaGreatDoor.Ev

namespace Go.Proofs.YtkccoijckckhmaaGreatDoor.Ev
open Go Go.RowKit

theorem trace_of {T : Tab} {call : FuncId → List PV → Store → Option (PV × Store)} : ∀ {sl : List SOper} {e e' : Env} {ρ ρ' : Store}, evOps T call sl e ρ = some (e', ρ') → ∃ (es : Nat → Env) (rs : Nat → Store) (vs : Nat → PV), es 0 = e ∧ rs 0 = ρ ∧ es sl.length = e' ∧ rs sl.length = ρ' ∧
    ∀ (j : Nat) so, sl[j]? = some so → (want (es j) so.guard = some true ∧ evOp T call (es j) (rs j) so.op = some (vs j, rs (j + 1)) ∨ want (es j) so.guard = some false ∧ vs j = .tup [] ∧ rs (j + 1) = rs j) ∧ es (j + 1) = (es j).put so.dst (vs j)
  | [], e, e', ρ, ρ', h => by cases h; exact ⟨fun _ => e, fun _ => ρ, fun _ => .un, rfl, rfl, rfl, rfl, fun j so h => by simp at h⟩
  | so :: sl, e, e', ρ, ρ', h => by
    have build : ∀ v ρ1, (want e so.guard = some true ∧ evOp T call e ρ so.op = some (v, ρ1) ∨ want e so.guard = some false ∧ v = .tup [] ∧ ρ1 = ρ) → evOps T call sl (e.put so.dst v) ρ1 = some (e', ρ') → ∃ (es : Nat → Env) (rs : Nat → Store) (vs : Nat → PV), es 0 = e ∧ rs 0 = ρ ∧ es (so :: sl).length = e' ∧ rs (so :: sl).length = ρ' ∧
        ∀ (j : Nat) so', (so :: sl)[j]? = some so' → (want (es j) so'.guard = some true ∧ evOp T call (es j) (rs j) so'.op = some (vs j, rs (j + 1)) ∨ want (es j) so'.guard = some false ∧ vs j = .tup [] ∧ rs (j + 1) = rs j) ∧ es (j + 1) = (es j).put so'.dst (vs j) := by
      intro v ρ1 h1 h2
      obtain ⟨es, rs, vs, a1, a2, a3, a4, a5⟩ := trace_of h2
      refine ⟨fun j => match j with | 0 => e | j + 1 => es j, fun j => match j with | 0 => ρ | j + 1 => rs j, fun j => match j with | 0 => v | j + 1 => vs j, rfl, rfl, a3, a4, ?_⟩
      intro j so' hj
      cases j with
      | zero =>
        simp only [List.getElem?_cons_zero, Option.some.injEq] at hj
        subst hj
        show (want e so.guard = some true ∧ evOp T call e ρ so.op = some (v, rs 0) ∨ want e so.guard = some false ∧ v = .tup [] ∧ rs 0 = ρ) ∧ es 0 = e.put so.dst v
        rw [a1, a2]
        exact ⟨h1, rfl⟩
      | succ j => exact a5 j so' (by simpa using hj)
    simp only [evOps] at h
    split at h
    · rename_i hw
      split at h
      · rename_i v ρ1 hv; exact build v ρ1 (.inl ⟨hw, hv⟩) h
      · cases h
    · rename_i hw; exact build _ ρ (.inr ⟨hw, rfl, rfl⟩) h
    · cases h

/-- What a slot holds when some operations have been carried out: by the last of them, in the text's order, that writes it. -/
def curN (e : Env) (sl : List SOper) (vs : Nat → PV) (listed : Nat → Bool) : Nat → Nat → PV
  | 0, t => e t
  | k + 1, t => if listed k = true ∧ (sl[k]?).bind (·.dst) = some t then vs k else curN e sl vs listed k t

theorem Env.put_at (e : Env) (d : Option Nat) (v : PV) (t : Nat) : e.put d v t = if d = some t then v else e t := by
  cases d with
  | none => simp [Env.put]
  | some u =>
    simp only [Env.put, Env.set]
    by_cases h : t = u
    · subst h; simp
    · have : Nat.beq t u = false := by
        cases hh : Nat.beq t u with
        | false => rfl
        | true => exact absurd (Nat.eq_of_beq_eq_true hh) h
      rw [this, cond_false, if_neg (fun h' => h (by cases h'; rfl))]

theorem curN_eq {e : Env} {sl : List SOper} {vs : Nat → PV} {listed : Nat → Bool} {es : Nat → Env} (h0 : es 0 = e) (hs : ∀ (j : Nat) so, sl[j]? = some so → es (j + 1) = (es j).put so.dst (vs j)) {t j : Nat} (hj : j ≤ sl.length)
    (h1 : ∀ i, i < j → (sl[i]?).bind (·.dst) = some t → listed i = true) (h2 : ∀ i, j ≤ i → (sl[i]?).bind (·.dst) = some t → listed i = false) : curN e sl vs listed sl.length t = es j t := by
  have a : ∀ k, k ≤ j → curN e sl vs listed k t = es k t := by
    intro k
    induction k with
    | zero => intro _; rw [h0]; rfl
    | succ k ih =>
      intro hk
      obtain ⟨so, hso⟩ : ∃ so, sl[k]? = some so := ⟨_, List.getElem?_eq_getElem (by omega)⟩
      simp only [curN, hso, Option.bind_some]
      rw [hs k so hso, Env.put_at]
      by_cases hd : so.dst = some t
      · rw [if_pos hd, if_pos ⟨h1 k (by omega) (by rw [hso]; exact hd), hd⟩]
      · rw [if_neg hd, if_neg (fun h => hd h.2)]
        exact ih (by omega)
  have b : ∀ d, j + d ≤ sl.length → curN e sl vs listed (j + d) t = es j t := by
    intro d
    induction d with
    | zero => intro _; exact a j (Nat.le_refl _)
    | succ d ih =>
      intro hd
      rw [← Nat.add_assoc]
      simp only [curN]
      rw [if_neg]
      · exact ih (by omega)
      · rintro ⟨hl, hw⟩
        have := h2 (j + d) (by omega) hw
        rw [hl] at this
        cases this
  have := b (sl.length - j) (by omega)
  rwa [show j + (sl.length - j) = sl.length from by omega] at this

theorem curN_congr {e : Env} {sl : List SOper} {vs : Nat → PV} {l l' : Nat → Bool} {t : Nat} : ∀ k, (∀ i, i < k → (sl[i]?).bind (·.dst) = some t → l i = l' i) → curN e sl vs l k t = curN e sl vs l' k t
  | 0, _ => rfl
  | k + 1, h => by
    simp only [curN]
    rw [curN_congr k fun i hi => h i (by omega)]
    by_cases hw : (sl[k]?).bind (·.dst) = some t
    · rw [h k (by omega) hw]
    · rw [if_neg (fun x => hw x.2), if_neg (fun x => hw x.2)]

theorem befores_spec : ∀ {os : List Oper} {acc b : List (List Nat)}, befores os acc = some b → (∀ j, j < acc.length → b.getD j [] = acc.getD j []) ∧ b.length = acc.length + os.length ∧
    ∀ (j : Nat) o, os[j]? = some o → (∀ e, e ∈ o.after.toList → Region.binds .any e = true → e.on < acc.length + j) ∧ ∀ i, i ∈ b.getD (acc.length + j) [] → ∃ e, e ∈ o.after.toList ∧ Region.binds .any e = true ∧ (i = e.on ∨ i ∈ b.getD e.on [])
  | [], acc, b, h => by cases h; exact ⟨fun _ _ => rfl, by simp, fun j o h => by simp at h⟩
  | o :: os, acc, b, h => by
    simp only [befores] at h
    split at h
    · rename_i hall
      obtain ⟨h1, h2, h3⟩ := befores_spec h
      simp only [List.length_append, List.length_cons, List.length_nil] at h1 h2 h3
      refine ⟨fun j hj => ?_, by rw [h2]; simp; omega, fun j o' ho => ?_⟩
      · rw [h1 j (by omega)]
        simp [List.getD, List.getElem?_append_left hj]
      · cases j with
        | zero =>
          simp only [List.getElem?_cons_zero, Option.some.injEq] at ho
          subst ho
          have hon : ∀ e, e ∈ o.after.toList → Region.binds .any e = true → e.on < acc.length := by
            intro e he hb
            simp only [List.all_eq_true, List.mem_map, List.mem_filter, decide_eq_true_eq, forall_exists_index, and_imp] at hall
            exact hall e.on e he hb rfl
          refine ⟨hon, fun i hi => ?_⟩
          rw [Nat.add_zero, h1 acc.length (by omega)] at hi
          simp only [List.getD, List.getElem?_append_right (Nat.le_refl _), Nat.sub_self, List.getElem?_cons_zero, Option.getD_some, List.mem_append, List.mem_map, List.mem_filter, List.mem_flatMap] at hi
          rcases hi with ⟨e, ⟨he, hb⟩, rfl⟩ | ⟨x, ⟨e, ⟨he, hb⟩, rfl⟩, hx⟩
          · exact ⟨e, he, hb, .inl rfl⟩
          · refine ⟨e, he, hb, .inr ?_⟩
            rw [h1 e.on (by have := hon e he hb; omega)]
            simp only [List.getD, List.getElem?_append_left (hon e he hb)]
            exact hx
        | succ j =>
          have := h3 j o' (by simpa using ho)
          rwa [show acc.length + 1 + j = acc.length + (j + 1) from by omega] at this
    · cases h

def isAW : Cl → Bool
  | .A | .W | .G => true
  | _ => false

theorem evOp.quietStore {T : Tab} {call : FuncId → List PV → Store → Option (PV × Store)} {e : Env} {ρ ρ' : Store} {o : SOp} {p : PV} (hp : isAW o.cl = false) (h : evOp T call e ρ o = some (p, ρ')) : ρ' = ρ := by
  cases o <;> first
    | (cases hp; done)
    | (simp only [evOp] at h
       (repeat' split at h) <;> first | (cases h; done) | (cases h; rfl))

theorem evOp.grows {T : Tab} {call : FuncId → List PV → Store → Option (PV × Store)} {e : Env} {ρ ρ' : Store} {o : SOp} {p : PV} (hp : o.cl = .A) (h : evOp T call e ρ o = some (p, ρ')) : ∃ k : Tok, ρ' = ρ ++ [k] ∧ k.live = true := by
  cases o <;> first
    | (cases hp; done)
    | (simp only [evOp] at h
       (repeat' split at h) <;> first | (cases h; done) | (cases h; exact ⟨_, rfl, rfl⟩))

theorem Inv.ext {B : Nat} {w0 : World} {ca : Cm} {c : Cm} {μ : Mu} {ρ ex : Store} {w : World} (h : Inv B w0 ca c μ ρ w) (hd : Dom μ ρ) (hl : ∀ k, k ∈ ex → k.live = true) : Inv B w0 ca c μ (ρ ++ ex) w := by
  have old : ∀ (id : Nat) k b N, (ρ ++ ex)[id]? = some k → μ id = some (b, N) → ρ[id]? = some k := by
    intro id k b N hk hm
    rcases Nat.lt_or_ge id ρ.length with h' | h'
    · rwa [List.getElem?_append_left h'] at hk
    · rw [hd id h'] at hm; cases hm
  refine ⟨h.below, h.cells, h.low, fun id k b N hk hm => h.tok id k b N (old id k b N hk hm) hm, fun id k hk hdd => ?_, fun i1 i2 k1 k2 b N1 N2 h1 h2 l1 l2 m1 m2 => h.inj i1 i2 k1 k2 b N1 N2 (old _ _ _ _ h1 m1) (old _ _ _ _ h2 m2) l1 l2 m1 m2, h.old, h.base, h.rest⟩
  rw [List.getElem?_append] at hk
  split at hk
  · exact h.dead id k hk hdd
  · rw [hl k (List.mem_of_getElem? hk)] at hdd; cases hdd

/-- The other store tells no more of the rows that lie in memory. -/
def Weak (ρ ρ' : Store) : Prop := ρ.length ≤ ρ'.length ∧ ∀ (id : Nat) k, ρ'[id]? = some k → (id < ρ.length → ρ[id]? = some k ∨ k.live = false ∧ k.es = []) ∧ (ρ.length ≤ id → k.live = true ∨ k.es = [])

theorem Weak.refl (ρ : Store) : Weak ρ ρ := ⟨Nat.le_refl _, fun id k hk => ⟨fun _ => .inl hk, fun h => by rw [List.getElem?_eq_none h] at hk; cases hk⟩⟩

theorem Weak.trans {ρ ρ1 ρ2 : Store} (h1 : Weak ρ ρ1) (h2 : Weak ρ1 ρ2) : Weak ρ ρ2 := by
  refine ⟨Nat.le_trans h1.1 h2.1, fun id k hk => ?_⟩
  rcases Nat.lt_or_ge id ρ1.length with h' | h'
  · rcases (h2.2 id k hk).1 h' with h3 | h3
    · exact h1.2 id k h3
    · exact ⟨fun _ => .inr h3, fun _ => .inr h3.2⟩
  · exact ⟨fun h => absurd h (by have := h1.1; omega), fun _ => (h2.2 id k hk).2 h'⟩

theorem Weak.push (ρ : Store) (k : Tok) (hk : k.live = true) : Weak ρ (ρ ++ [k]) := by
  refine ⟨by simp, fun id q hq => ⟨fun h => .inl (by rwa [List.getElem?_append_left h] at hq), fun h => ?_⟩⟩
  rw [List.getElem?_append_right h] at hq
  have : q = k := by
    cases hd : id - ρ.length with
    | zero => rw [hd] at hq; simpa using hq.symm
    | succ n => rw [hd] at hq; simp at hq
  subst this
  exact .inl hk

theorem Weak.kill (ρ : Store) (i : Nat) (esz : Nat) : Weak ρ (ρ.set i ⟨esz, [], false⟩) := by
  refine ⟨by simp, fun id q hq => ⟨fun h => ?_, fun h => by rw [List.getElem?_eq_none (by simpa using h)] at hq; cases hq⟩⟩
  rw [List.getElem?_set] at hq
  split at hq
  · split at hq
    · cases hq; exact .inr ⟨rfl, rfl⟩
    · cases hq
  · exact .inl hq

theorem Inv.weak {B : Nat} {w0 : World} {ca : Cm} {c : Cm} {μ : Mu} {ρ ρ' : Store} {w : World} (h : Inv B w0 ca c μ ρ w) (hd : Dom μ ρ) (hw : Weak ρ ρ') : Inv B w0 ca c μ ρ' w := by
  have old : ∀ (id : Nat) k b N, ρ'[id]? = some k → μ id = some (b, N) → k.live = true → ρ[id]? = some k := by
    intro id k b N hk hm hl
    rcases Nat.lt_or_ge id ρ.length with h' | h'
    · rcases (hw.2 id k hk).1 h' with h3 | h3
      · exact h3
      · rw [h3.1] at hl; cases hl
    · rw [hd id h'] at hm; cases hm
  refine ⟨h.below, h.cells, h.low, fun id k b N hk hm hl => h.tok id k b N (old id k b N hk hm hl) hm hl, fun id k hk hdd => ?_, fun i1 i2 k1 k2 b N1 N2 h1 h2 l1 l2 m1 m2 => h.inj i1 i2 k1 k2 b N1 N2 (old _ _ _ _ h1 m1 l1) (old _ _ _ _ h2 m2 l2) l1 l2 m1 m2, h.old, h.base, h.rest⟩
  rcases Nat.lt_or_ge id ρ.length with h' | h'
  · rcases (hw.2 id k hk).1 h' with h3 | h3
    · exact h.dead id k h3 hdd
    · exact h3.2
  · rcases (hw.2 id k hk).2 h' with h3 | h3
    · rw [hdd] at h3; cases h3
    · exact h3

theorem appTo.weak {esz : Nat} {s : PV} {new : List (List PV)} {ρ ρ' : Store} {p : PV} (h : appTo esz s new ρ = some (p, ρ')) : Weak ρ ρ' := by
  unfold appTo at h
  split at h
  · split at h
    · split at h
      · cases h; exact .refl _
      · split at h
        · cases h; exact .push _ _ rfl
        · cases h
    · split at h
      · split at h
        · cases h; exact (Weak.kill _ _ _).trans (.push _ _ rfl)
        · cases h
      · cases h
    · cases h
  · cases h

theorem evOp.weakens {T : Tab} {call : FuncId → List PV → Store → Option (PV × Store)} {e : Env} {ρ ρ' : Store} {o : SOp} {p : PV} (hp : o.cl ≠ .W) (h : evOp T call e ρ o = some (p, ρ')) : Weak ρ ρ' := by
  cases hc : o.cl with
  | W => exact absurd hc hp
  | P => rw [evOp.quietStore (by rw [hc]; rfl) h]; exact .refl _
  | R => rw [evOp.quietStore (by rw [hc]; rfl) h]; exact .refl _
  | A =>
    obtain ⟨k, rfl, hk⟩ := evOp.grows hc h
    exact .push _ _ hk
  | G =>
    cases o <;> first
      | (cases hc; done)
      | (simp only [evOp] at h
         (repeat' split at h) <;> first | (cases h; done) | exact appTo.weak h)

theorem Inv.front {B : Nat} {w0 : World} {ca : Cm} {c : Cm} {μ : Mu} {ρ ex : Store} {w : World} (h : Inv B w0 ca c μ (ρ ++ ex) w) : Inv B w0 ca c μ ρ w := by
  have old : ∀ (id : Nat) (k : Tok), ρ[id]? = some k → (ρ ++ ex)[id]? = some k := by
    intro id k hk
    rcases Nat.lt_or_ge id ρ.length with h' | h'
    · rwa [List.getElem?_append_left h']
    · simp [List.getElem?_eq_none h'] at hk
  exact ⟨h.below, h.cells, h.low, fun id k b N hk hm => h.tok id k b N (old id k hk) hm, fun id k hk hdd => h.dead id k (old id k hk) hdd, fun i1 i2 k1 k2 b N1 N2 h1 h2 l1 l2 m1 m2 => h.inj i1 i2 k1 k2 b N1 N2 (old _ _ h1) (old _ _ h2) l1 l2 m1 m2, h.old, h.base, h.rest⟩

end Go.Proofs.YtkccoijckckhmaaGreatDoor.Ev

namespace Go.Proofs.YtkccoijckckhmaaGreatDoor.Ev
open Go Go.RowKit

section
variable {P : Program} {T : Tab} {call : FuncId → List PV → Store → Option (PV × Store)} {rc : FuncId → Bool} {N B : Nat} {w0 : World} {ca : Cm} {ops : Array Oper} {sl : List SOper} {e0 e' : Env} {ρ0 ρ' : Store} {es : Nat → Env} {rs : Nat → Store} {vs : Nat → PV}

/-- The trace's facts. -/
structure Tr (T : Tab) (call : FuncId → List PV → Store → Option (PV × Store)) (sl : List SOper) (e0 e' : Env) (ρ0 ρ' : Store) (es : Nat → Env) (rs : Nat → Store) (vs : Nat → PV) : Prop where
  e0 : es 0 = e0
  r0 : rs 0 = ρ0
  en : es sl.length = e'
  rn : rs sl.length = ρ'
  step : ∀ (j : Nat) so, sl[j]? = some so → (want (es j) so.guard = some true ∧ evOp T call (es j) (rs j) so.op = some (vs j, rs (j + 1)) ∨ want (es j) so.guard = some false ∧ vs j = .tup [] ∧ rs (j + 1) = rs j) ∧ es (j + 1) = (es j).put so.dst (vs j)

theorem Tr.same (h : Tr T call sl e0 e' ρ0 ρ' es rs vs) : ∀ (d j : Nat), j + d ≤ sl.length → (∀ i so, j ≤ i → i < j + d → sl[i]? = some so → isAW so.op.cl = false) → rs (j + d) = rs j
  | 0, _, _, _ => rfl
  | d + 1, j, hj, hn => by
    have ih := h.same d j (by omega) fun i so h1 h2 h3 => hn i so h1 (by omega) h3
    obtain ⟨so, hso⟩ : ∃ so, sl[j + d]? = some so := ⟨_, List.getElem?_eq_getElem (by omega)⟩
    have hc := hn (j + d) so (by omega) (by omega) hso
    rw [← Nat.add_assoc]
    rcases (h.step (j + d) so hso).1 with ⟨_, h2⟩ | ⟨_, _, h2⟩
    · rw [evOp.quietStore hc h2, ih]
    · rw [h2, ih]

theorem Tr.grown (h : Tr T call sl e0 e' ρ0 ρ' es rs vs) : ∀ (d j : Nat), j + d ≤ sl.length → (∀ i so, j ≤ i → i < j + d → sl[i]? = some so → so.op.cl ≠ .W ∧ so.op.cl ≠ .G) → ∃ ex : Store, rs (j + d) = rs j ++ ex ∧ ∀ k, k ∈ ex → k.live = true
  | 0, j, _, _ => ⟨[], by simp, fun k h => by cases h⟩
  | d + 1, j, hj, hn => by
    obtain ⟨ex, h1, h2⟩ := h.grown d j (by omega) fun i so h1 h2 h3 => hn i so h1 (by omega) h3
    obtain ⟨so, hso⟩ : ∃ so, sl[j + d]? = some so := ⟨_, List.getElem?_eq_getElem (by omega)⟩
    have hc := hn (j + d) so (by omega) (by omega) hso
    rw [← Nat.add_assoc]
    rcases (h.step (j + d) so hso).1 with ⟨_, h3⟩ | ⟨_, _, h3⟩
    · cases hcl : so.op.cl with
      | W => exact absurd hcl hc.1
      | G => exact absurd hcl hc.2
      | A =>
        obtain ⟨k, hk, hl⟩ := evOp.grows hcl h3
        refine ⟨ex ++ [k], by rw [hk, h1, List.append_assoc], fun q hq => ?_⟩
        rcases List.mem_append.1 hq with hq | hq
        · exact h2 q hq
        · rw [List.mem_singleton.1 hq]; exact hl
      | P => exact ⟨ex, by rw [evOp.quietStore (by rw [hcl]; rfl) h3, h1], h2⟩
      | R => exact ⟨ex, by rw [evOp.quietStore (by rw [hcl]; rfl) h3, h1], h2⟩
    · exact ⟨ex, by rw [h3, h1], h2⟩

theorem Tr.weak (h : Tr T call sl e0 e' ρ0 ρ' es rs vs) : ∀ (d j : Nat), j + d ≤ sl.length → (∀ i so, j ≤ i → i < j + d → sl[i]? = some so → so.op.cl ≠ .W) → Weak (rs j) (rs (j + d))
  | 0, j, _, _ => .refl _
  | d + 1, j, hj, hn => by
    have ih := h.weak d j (by omega) fun i so h1 h2 h3 => hn i so h1 (by omega) h3
    obtain ⟨so, hso⟩ : ∃ so, sl[j + d]? = some so := ⟨_, List.getElem?_eq_getElem (by omega)⟩
    rw [← Nat.add_assoc]
    rcases (h.step (j + d) so hso).1 with ⟨_, h3⟩ | ⟨_, _, h3⟩
    · exact ih.trans (evOp.weakens (hn (j + d) so (by omega) (by omega) hso) h3)
    · rw [h3]; exact ih

/-- How far a drawing region has come. -/
structure Mid (B : Nat) (w0 : World) (ca : Cm) (N : Nat) (df : List Deferred) (ops : Array Oper) (sl : List SOper) (e0 : Env) (rs : Nat → Store) (vs : Nat → PV) (c : Cm) (μ : Mu) (m : Nat) (listed : Array Bool) (a : Act) (w : World) : Prop where
  lsize : listed.size = ops.size
  closed : ∀ (j : Nat) o, listed.getD j false = true → ops[j]? = some o → ∀ e, e ∈ o.after.toList → Region.binds .any e = true → listed.getD e.on false = true
  env : ∀ t, Rd c μ (a.tmps.getD t undef) (curN e0 sl vs (fun i => listed.getD i false) sl.length t)
  size : a.tmps.size = N
  defers : a.defers = df
  hm : m ≤ sl.length
  inv : Inv B w0 ca c μ (rs m) w
  dom : Dom μ (rs m)
  aw : ∀ (i : Nat) so, sl[i]? = some so → isAW so.op.cl = true → (listed.getD i false = true ↔ i < m)

theorem countP_lt {p q : Nat → Bool} : ∀ (l : List Nat), (∀ x, x ∈ l → p x = true → q x = true) → ∀ x, x ∈ l → q x = true → p x = false → l.countP p < l.countP q
  | [], _, x, h, _, _ => by cases h
  | y :: l, hpq, x, hx, hq, hp => by
    have hmono : l.countP p ≤ l.countP q := List.countP_mono_left fun z hz h => hpq z (List.mem_cons_of_mem _ hz) h
    rw [List.countP_cons, List.countP_cons]
    rcases List.mem_cons.1 hx with rfl | hx
    · rw [hq, hp]; simp; omega
    · have ih := countP_lt l (fun z hz h => hpq z (List.mem_cons_of_mem _ hz) h) x hx hq hp
      have hy := hpq y (List.mem_cons_self ..)
      cases hpy : p y with
      | false => simp; split <;> omega
      | true => rw [hy hpy]; simp; omega

theorem mem_contains {α : Type} [BEq α] [LawfulBEq α] {l : List α} {x : α} (h : x ∈ l) : l.contains x = true := by simpa using h

theorem wpAny_draw (hT : ∀ f g, T.pure f = some g → Contract P f g) (hcall : CallOk P call) (hB0 : B ≤ w0.heap.size) {df : List Deferred} {Q : Exit → Act → World → Prop} {b : List (List Nat)} (hlen : ops.size = sl.length)
    (hco : ∀ (j : Nat) o, ops[j]? = some o → ∃ so, sl[j]? = some so ∧ cOper P rc N ops o = some so) (hb : befores ops.toList [] = some b) (hord : ∀ (i j : Nat) p q, i < j → sl[i]? = some p → sl[j]? = some q → clashes p q = true → i ∈ b.getD j [])
    (htr : Tr T call sl e0 e' ρ0 ρ' es rs vs) {c0 : Cm} {μ0 : Mu} (hQ : Later (Q .normal) B w0 ca N df c0 μ0 e' ρ') :
    ∀ (fuel : Nat) (listed : Array Bool) (c : Cm) (μ : Mu) (m : Nat) (a : Act) (w : World), LeC c0 c → LeM μ0 μ → Mid B w0 ca N df ops sl e0 rs vs c μ m listed a w → (List.range ops.size).countP (fun i => !listed.getD i false) ≤ fuel → wpAny P .any ops Q fuel listed a w := by
  obtain ⟨_, bl, bs⟩ := befores_spec hb
  simp only [List.length_nil, Nat.zero_add] at bl bs
  have bs' : ∀ (j : Nat) o, ops[j]? = some o → (∀ e, e ∈ o.after.toList → Region.binds .any e = true → e.on < j) ∧ ∀ i, i ∈ b.getD j [] → ∃ e, e ∈ o.after.toList ∧ Region.binds .any e = true ∧ (i = e.on ∨ i ∈ b.getD e.on []) :=
    fun j o ho => bs j o (by simpa using ho)
  -- what comes before something that may be carried out has been
  have down : ∀ (listed : Array Bool), (∀ (j : Nat) o, listed.getD j false = true → ops[j]? = some o → ∀ e, e ∈ o.after.toList → Region.binds .any e = true → listed.getD e.on false = true) →
      ∀ (n j : Nat), j < n → ∀ o, ops[j]? = some o → (∀ e, e ∈ o.after.toList → Region.binds .any e = true → listed.getD e.on false = true) → ∀ i, i ∈ b.getD j [] → listed.getD i false = true := by
    intro listed hcl n
    induction n with
    | zero => intro j hj; omega
    | succ n ih =>
      intro j hj o ho hall i hi
      obtain ⟨h1, h2⟩ := bs' j o ho
      obtain ⟨e, he, hbd, hor⟩ := h2 i hi
      rcases hor with rfl | hin
      · exact hall e he hbd
      · have hlt := h1 e he hbd
        have hjs : j < ops.size := (Array.getElem?_eq_some_iff.1 ho).1
        obtain ⟨o2, ho2⟩ : ∃ o2, ops[e.on]? = some o2 := ⟨_, Array.getElem?_eq_getElem (by omega)⟩
        exact ih e.on (by omega) o2 ho2 (hcl e.on o2 (hall e he hbd) ho2) i hin
  -- when nothing is ready, all has been carried out
  have alldone : ∀ (listed : Array Bool), listed.size = ops.size → Region.ready .any ops listed = [] → ∀ n i, i < n → i < ops.size → listed.getD i false = true := by
    intro listed hls hr n
    induction n with
    | zero => intro i hi; omega
    | succ n ih =>
      intro i hi his
      cases hl : listed.getD i false with
      | true => rfl
      | false =>
        exfalso
        obtain ⟨o, ho⟩ : ∃ o, ops[i]? = some o := ⟨_, Array.getElem?_eq_getElem his⟩
        have : i ∈ Region.ready .any ops listed := by
          rw [mem_ready]
          refine ⟨?_, o, ho, fun e he hbd => ?_⟩
          · have hlt : i < listed.size := by omega
            simp only [Array.getD_eq_getD_getElem?, Array.getElem?_eq_getElem hlt, Option.getD_some] at hl ⊢
            exact hl
          · have hlt := (bs' i o ho).1 e (by simpa using he) hbd
            exact ih e.on (by omega) (by omega)
        rw [hr] at this
        cases this
  have finish : ∀ (listed : Array Bool) (c : Cm) (μ : Mu) (m : Nat) (a : Act) (w : World), LeC c0 c → LeM μ0 μ → Mid B w0 ca N df ops sl e0 rs vs c μ m listed a w → Region.ready .any ops listed = [] → Q .normal a w := by
    intro listed c μ m a w hc hμ hmid hr
    have hall := alldone listed hmid.lsize hr ops.size
    have hrm : rs m = ρ' := by
      rw [← htr.rn]
      have := htr.same (sl.length - m) m (by have := hmid.hm; omega) fun i so h1 h2 h3 => by
        cases h : isAW so.op.cl with
        | false => rfl
        | true =>
          have := (hmid.aw i so h3 h).1 (hall i (by omega) (by omega))
          omega
      rw [show m + (sl.length - m) = sl.length from by have := hmid.hm; omega] at this
      exact this.symm
    refine hQ a w c μ hc hμ ⟨hrm ▸ hmid.inv, hrm ▸ hmid.dom, fun t => ?_, hmid.size⟩ hmid.defers
    have := hmid.env t
    rwa [curN_eq htr.e0 (fun j so h => (htr.step j so h).2) (Nat.le_refl _) (fun i hi _ => hall i (by omega) (by omega)) (fun i hi hw => by
      rw [List.getElem?_eq_none hi] at hw; cases hw), htr.en] at this
  intro fuel
  induction fuel with
  | zero =>
    intro listed c μ m a w hc hμ hmid hcnt
    have hr : Region.ready .any ops listed = [] := by
      cases hrr : Region.ready .any ops listed with
      | nil => rfl
      | cons i l =>
        exfalso
        have hi : i ∈ Region.ready .any ops listed := by rw [hrr]; exact List.mem_cons_self ..
        rw [mem_ready] at hi
        obtain ⟨hl, o, ho, _⟩ := hi
        have his : i < ops.size := (Array.getElem?_eq_some_iff.1 ho).1
        have hlf : listed.getD i false = false := by
          have hlt : i < listed.size := by rw [hmid.lsize]; exact his
          simp only [Array.getD_eq_getD_getElem?, Array.getElem?_eq_getElem hlt, Option.getD_some] at hl ⊢
          exact hl
        have : 0 < (List.range ops.size).countP (fun i => !listed.getD i false) := List.countP_pos_iff.2 ⟨i, List.mem_range.2 his, by rw [hlf]; rfl⟩
        omega
    exact ⟨hr, finish listed c μ m a w hc hμ hmid hr⟩
  | succ fuel ih =>
    intro listed c μ m a w hc hμ hmid hcnt
    refine ⟨fun hr => finish listed c μ m a w hc hμ hmid hr, fun j hj => ?_⟩
    rw [mem_ready] at hj
    obtain ⟨hl, o, ho, hall⟩ := hj
    have hjs : j < ops.size := (Array.getElem?_eq_some_iff.1 ho).1
    have hlf : listed.getD j false = false := by
      have hlt : j < listed.size := by rw [hmid.lsize]; exact hjs
      simp only [Array.getD_eq_getD_getElem?, Array.getElem?_eq_getElem hlt, Option.getD_some] at hl ⊢
      exact hl
    obtain ⟨so, hso, hcop⟩ := hco j o ho
    obtain ⟨k1, k2, k3, k4⟩ := cOper_spec hcop
    have hall' : ∀ e, e ∈ o.after.toList → Region.binds .any e = true → listed.getD e.on false = true := fun e he hbd => hall e (by simpa using he) hbd
    have hbef := down listed hmid.closed (j + 1) j (by omega) o ho hall'
    have F1 : ∀ i p, i < j → sl[i]? = some p → clashes p so = true → listed.getD i false = true := fun i p hi hp hcl => hbef i (hord i j p so hi hp hso hcl)
    have F2 : ∀ k p, j < k → sl[k]? = some p → clashes so p = true → listed.getD k false = false := by
      intro k p hk hp hcl
      cases hlk : listed.getD k false with
      | false => rfl
      | true =>
        exfalso
        have hks : k < ops.size := by
          rw [hlen]
          rcases Nat.lt_or_ge k sl.length with h' | h'
          · exact h'
          · rw [List.getElem?_eq_none h'] at hp; cases hp
        obtain ⟨ok, hok⟩ : ∃ o, ops[k]? = some o := ⟨_, Array.getElem?_eq_getElem hks⟩
        have := down listed hmid.closed (k + 1) k (by omega) ok hok (hmid.closed k ok hlk hok) j (hord j k so p hk hso hp hcl)
        rw [hlf] at this
        cases this
    have cl_dst_reads : ∀ p q : SOper, ∀ t, p.dst = some t → t ∈ q.reads → clashes p q = true := by
      intro p q t hp hq
      unfold clashes
      rw [hp]
      simp only [mem_contains hq, Bool.true_or, Bool.or_true]
    have cl_reads_dst : ∀ p q : SOper, ∀ t, t ∈ p.reads → q.dst = some t → clashes p q = true := by
      intro p q t hp hq
      unfold clashes
      rw [hq]
      simp only [mem_contains hp, Bool.or_true]
    have cl_dst_dst : ∀ p q : SOper, ∀ t, p.dst = some t → q.dst = some t → clashes p q = true := by
      intro p q t hp hq
      unfold clashes
      rw [hp, hq]
      simp
    have cl_cl : ∀ p q : SOper, p.op.cl.clash q.op.cl = true → clashes p q = true := by
      intro p q h
      unfold clashes
      rw [h]
      rfl
    -- what the operation reads is as in the text's order
    have hread : ∀ t, t ∈ so.reads → curN e0 sl vs (fun i => listed.getD i false) sl.length t = es j t := by
      intro t ht
      refine curN_eq htr.e0 (fun j so h => (htr.step j so h).2) (by omega) (fun i hi hw => ?_) (fun i hi hw => ?_)
      · cases hp : sl[i]? with
        | none => rw [hp] at hw; cases hw
        | some p => rw [hp] at hw; exact F1 i p hi hp (cl_dst_reads p so t hw ht)
      · rcases Nat.lt_or_ge j i with h' | h'
        · cases hp : sl[i]? with
          | none => rw [hp] at hw; cases hw
          | some p => rw [hp] at hw; exact F2 i p h' hp (cl_reads_dst so p t ht hw)
        · have : i = j := by omega
          subst this
          exact hlf
    let es' : Env := fun t => if t ∈ so.reads then es j t else .un
    have henv : EnvR c μ a es' := by
      intro t
      show Rd c μ _ (if t ∈ so.reads then es j t else .un)
      split
      · rename_i ht
        rw [← hread t ht]
        exact hmid.env t
      · exact .un _
    have hes : ∀ t, t ∈ so.op.reads → es j t = es' t := by
      intro t ht
      have : t ∈ so.reads := List.mem_append_left _ ht
      show _ = if t ∈ so.reads then es j t else .un
      rw [if_pos this]
    have hwant : want es' so.guard = want (es j) so.guard := by
      cases hg : so.guard with
      | none => rfl
      | some tb =>
        obtain ⟨t, bb⟩ := tb
        have : t ∈ so.reads := by
          unfold SOper.reads
          rw [hg]
          exact List.mem_append_right _ (by simp)
        simp only [want]
        show (match (if t ∈ so.reads then es j t else .un) with | .bool c => some (c == bb) | .tup [] => some false | _ => none) = _
        rw [if_pos this]
        rfl
    -- the store, as far as it has been written
    have hAWlt : ∀ i p, i < j → sl[i]? = some p → isAW p.op.cl = true → isAW so.op.cl = true → i < m := by
      intro i p hi hp h1 h2
      refine (hmid.aw i p hp h1).1 (F1 i p hi hp (cl_cl p so ?_))
      revert h1 h2
      cases p.op.cl <;> cases so.op.cl <;> simp [isAW, Cl.clash]
    have hAWgt : ∀ k p, j < k → sl[k]? = some p → isAW p.op.cl = true → isAW so.op.cl = true → listed.getD k false = false := by
      intro k p hk hp h1 h2
      refine F2 k p hk hp (cl_cl so p ?_)
      revert h1 h2
      cases so.op.cl <;> cases p.op.cl <;> simp [isAW, Cl.clash]
    -- the next state
    have next : ∀ (c' : Cm) (μ' : Mu) (m' : Nat) (v : Value) (w' : World), LeC c c' → LeM μ μ' → m' ≤ sl.length → Inv B w0 ca c' μ' (rs m') w' → Dom μ' (rs m') → Rd c' μ' v (vs j) →
        (∀ (i : Nat) so, sl[i]? = some so → isAW so.op.cl = true → ((listed.setIfInBounds j true).getD i false = true ↔ i < m')) →
        wpAny P .any ops Q fuel (listed.setIfInBounds j true) (a.put o.dst v) w' := by
      intro c' μ' m' v w' hlc hlm hm' hinv hdom hv haw
      refine ih (listed.setIfInBounds j true) c' μ' m' _ w' (hc.trans hlc) (hμ.trans hlm) ⟨?_, ?_, ?_, by rw [put_size]; exact hmid.size, by rw [put_defers]; exact hmid.defers, hm', hinv, hdom, haw⟩ ?_
      · simp [hmid.lsize]
      · intro i oi hli hoi e he hbd
        by_cases hij : i = j
        · subst hij
          rw [ho] at hoi; cases hoi
          exact getD_set_true (hall' e he hbd)
        · rw [getD_set_ne false (Ne.symm hij)] at hli
          exact getD_set_true (hmid.closed i oi hli hoi e he hbd)
      · intro t
        by_cases hd : o.dst = some t
        · have htN := k4 t hd
          have hcur : curN e0 sl vs (fun i => (listed.setIfInBounds j true).getD i false) sl.length t = vs j := by
            have hgen : ∀ k, j < k → k ≤ sl.length → curN e0 sl vs (fun i => (listed.setIfInBounds j true).getD i false) k t = vs j := by
              intro k
              induction k with
              | zero => intro h; omega
              | succ k ihk =>
                intro hk hkl
                simp only [curN]
                rcases Nat.lt_or_ge j k with h' | h'
                · rw [if_neg, ihk h' (by omega)]
                  rintro ⟨h1, h2⟩
                  rw [getD_set_ne false (by omega)] at h1
                  cases hp : sl[k]? with
                  | none => rw [hp] at h2; cases h2
                  | some p =>
                    rw [hp] at h2
                    have := F2 k p h' hp (cl_dst_dst so p t (by rw [k3]; exact hd) h2)
                    rw [h1] at this; cases this
                · have : k = j := by omega
                  subst this
                  rw [if_pos]
                  refine ⟨?_, by rw [hso]; simp only [Option.bind_some]; rw [k3]; exact hd⟩
                  have hlt : k < listed.size := by rw [hmid.lsize]; exact hjs
                  simp [hlt]
            exact hgen sl.length (by omega) (Nat.le_refl _)
          rw [hcur, hd]
          have hts : t < a.tmps.size := by rw [hmid.size]; exact htN
          simp only [Act.put, Array.getD_eq_getD_getElem?, Array.getElem?_setIfInBounds_self_of_lt hts, Option.getD_some]
          exact hv
        · have hcur : curN e0 sl vs (fun i => (listed.setIfInBounds j true).getD i false) sl.length t = curN e0 sl vs (fun i => listed.getD i false) sl.length t := by
            refine curN_congr _ fun i hi hw => ?_
            by_cases hij : i = j
            · subst hij
              rw [hso] at hw
              simp only [Option.bind_some] at hw
              rw [k3] at hw
              exact absurd hw hd
            · exact getD_set_ne false (Ne.symm hij)
          rw [hcur]
          have hsame : (a.put o.dst v).tmps.getD t undef = a.tmps.getD t undef := by
            cases hdd : o.dst with
            | none => rfl
            | some u =>
              have hne : u ≠ t := fun h => hd (by rw [hdd, h])
              simp [Act.put, Array.getElem?_setIfInBounds_ne hne]
          rw [hsame]
          exact (hmid.env t).mono hlc hlm
      · have hlt : j < listed.size := by rw [hmid.lsize]; exact hjs
        have := countP_lt (p := fun i => !(listed.setIfInBounds j true).getD i false) (q := fun i => !listed.getD i false) (List.range ops.size) (fun x _ hx => by
          by_cases hxj : x = j
          · subst hxj; rw [hlf]; rfl
          · rw [getD_set_ne false (Ne.symm hxj)] at hx; exact hx) j (List.mem_range.2 hjs) (by rw [hlf]; rfl) (by simp [hlt])
        omega
    unfold wpOp
    simp only [ho]
    rcases (htr.step j so hso).1 with ⟨hw, hv⟩ | ⟨hw, hv, hr⟩
    · have hwd := want_wanted k2 (fun t b _ => henv t) (hwant.trans hw)
      rw [hwd, if_pos rfl]
      left
      rw [evOp.congr hes] at hv
      cases hcl : isAW so.op.cl with
      | true =>
        have hmj : m ≤ j := by
          rcases Nat.lt_or_ge j m with h' | h'
          · have := (hmid.aw j so hso hcl).2 h'
            rw [hlf] at this; cases this
          · exact h'
        have hrj : rs j = rs m := by
          have := htr.same (j - m) m (by omega) fun i p h1 h2 h3 => by
            cases h : isAW p.op.cl with
            | false => rfl
            | true =>
              have := hAWlt i p (by omega) h3 h hcl
              omega
          rwa [show m + (j - m) = j from by omega] at this
        rw [hrj] at hv
        refine (wrote_sound hT hcall hB0 k1 hmid.inv hmid.dom henv hv) _ _ ?_
        rintro u w1 ⟨c1, μ1, q1, q2, q3, q4, q5⟩
        refine next c1 μ1 (j + 1) u w1 q1 q2 (by omega) q3 q4 q5 fun i p hp haw => ?_
        by_cases hij : i = j
        · subst hij
          have hlt : i < listed.size := by rw [hmid.lsize]; exact hjs
          simp [hlt]
        · rw [getD_set_ne false (Ne.symm hij), hmid.aw i p hp haw]
          rcases Nat.lt_or_ge i j with h' | h'
          · have := hAWlt i p h' hp haw hcl
            omega
          · have h2 := hAWgt i p (by omega) hp haw hcl
            have := hmid.aw i p hp haw
            rw [h2] at this
            have : ¬ i < m := fun h => by have := this.2 h; cases this
            omega
      | false =>
        have hst : rs (j + 1) = rs j := evOp.quietStore hcl hv
        have quiet : ∃ ρ2, Inv B w0 ca c μ ρ2 w ∧ (so.op.cl = .P ∨ so.op.cl = .R) ∧ evOp T call es' ρ2 so.op = some (vs j, ρ2) := by
          rw [hst] at hv
          cases hc2 : so.op.cl with
          | A => rw [hc2] at hcl; cases hcl
          | W => rw [hc2] at hcl; cases hcl
          | G => rw [hc2] at hcl; cases hcl
          | P => exact ⟨rs m, hmid.inv, .inl rfl, evOp.anyStore hc2 hv _⟩
          | R =>
            refine ⟨rs j, ?_, .inr rfl, hv⟩
            rcases Nat.le_total m j with h' | h'
            · have x1 := htr.weak (j - m) m (by omega) fun i p h1 h2 h3 hW => by
                have hli := F1 i p (by omega) h3 (cl_cl p so (by rw [hW, hc2]; rfl))
                have := (hmid.aw i p h3 (by rw [hW]; rfl)).1 hli
                omega
              rw [show m + (j - m) = j from by omega] at x1
              exact hmid.inv.weak hmid.dom x1
            · have none : ∀ i p, j ≤ i → i < j + (m - j) → sl[i]? = some p → ∀ q, (q = .W ∨ q = .G) → p.op.cl = q → False := by
                intro i p h1 h2 h3 q hq hW
                rcases Nat.lt_or_ge j i with h'' | h''
                · have hli := F2 i p h'' h3 (cl_cl so p (by rcases hq with rfl | rfl <;> (rw [hW, hc2]; rfl)))
                  have := (hmid.aw i p h3 (by rcases hq with rfl | rfl <;> (rw [hW]; rfl))).2 (by omega)
                  rw [hli] at this; cases this
                · have : i = j := by omega
                  subst this
                  rw [hso] at h3; cases h3
                  rw [hc2] at hW; subst hW; rcases hq with hq | hq <;> cases hq
              obtain ⟨ex, x1, x2⟩ := htr.grown (m - j) j (by have := hmid.hm; omega) fun i p h1 h2 h3 => ⟨none i p h1 h2 h3 .W (.inl rfl), none i p h1 h2 h3 .G (.inr rfl)⟩
              rw [show j + (m - j) = m from by omega] at x1
              have := hmid.inv
              rw [x1] at this
              exact this.front
        obtain ⟨ρ2, y1, y2, y3⟩ := quiet
        refine (quiet_sound hT k1 y2 y1 henv y3).2 _ _ ?_
        rintro u w1 ⟨c1, q1, q2, q3, q4, q5⟩
        refine next c1 μ m u w1 q1 (LeM.refl _) hmid.hm (hmid.inv.grow (Nat.le_trans hB0 hmid.inv.below.size) q3 q1 q2 q4) hmid.dom q5 fun i p hp haw => ?_
        by_cases hij : i = j
        · subst hij
          rw [hso] at hp; cases hp
          rw [hcl] at haw; cases haw
        · rw [getD_set_ne false (Ne.symm hij)]
          exact hmid.aw i p hp haw
    · have hwd := want_wanted k2 (fun t b _ => henv t) (hwant.trans hw)
      rw [hwd]
      simp only [Bool.false_eq_true, if_false]
      -- an operation that is not carried out
      cases hcl : isAW so.op.cl with
      | false =>
        refine next c μ m undef w (LeC.refl _) (LeM.refl _) hmid.hm hmid.inv hmid.dom (by rw [hv]; exact rd_undef c μ) fun i p hp haw => ?_
        by_cases hij : i = j
        · subst hij
          rw [hso] at hp; cases hp
          rw [hcl] at haw; cases haw
        · rw [getD_set_ne false (Ne.symm hij)]
          exact hmid.aw i p hp haw
      | true =>
        have hmj : m ≤ j := by
          rcases Nat.lt_or_ge j m with h' | h'
          · have := (hmid.aw j so hso hcl).2 h'
            rw [hlf] at this; cases this
          · exact h'
        have hrj : rs j = rs m := by
          have := htr.same (j - m) m (by omega) fun i p h1 h2 h3 => by
            cases h : isAW p.op.cl with
            | false => rfl
            | true =>
              have := hAWlt i p (by omega) h3 h hcl
              omega
          rwa [show m + (j - m) = j from by omega] at this
        refine next c μ (j + 1) undef w (LeC.refl _) (LeM.refl _) (by omega) (by rw [hr, hrj]; exact hmid.inv) (by rw [hr, hrj]; exact hmid.dom) (by rw [hv]; exact rd_undef c μ) fun i p hp haw => ?_
        by_cases hij : i = j
        · subst hij
          have hlt : i < listed.size := by rw [hmid.lsize]; exact hjs
          simp [hlt]
        · rw [getD_set_ne false (Ne.symm hij), hmid.aw i p hp haw]
          rcases Nat.lt_or_ge i j with h' | h'
          · have := hAWlt i p h' hp haw hcl
            omega
          · have h2 := hAWgt i p (by omega) hp haw hcl
            have := hmid.aw i p hp haw
            rw [h2] at this
            have : ¬ i < m := fun h => by have := this.2 h; cases this
            omega

end
end Go.Proofs.YtkccoijckckhmaaGreatDoor.Ev

namespace Go.Proofs.YtkccoijckckhmaaGreatDoor.Ev
open Go Go.RowKit

def Ex.toExit : Ex → Exit
  | .nor => .normal
  | .ex id => .exit id
  | .ret => .ret

/-- A loop's rounds, from one on. -/
def LoopWp (P : Program) (c : Code) (Q : Exit → Act → World → Prop) (a : Act) (w : World) : Prop :=
  ∀ (b : Frame) (k : List Item) (cs : List Frame), ∃ e a' w', Q e a' w' ∧ Arrives P (lone (b.at a (.code c :: .inLoop c :: k)) cs w) b k cs e a' w'

theorem wp_loop_of {P : Program} {c : Code} {Q : Exit → Act → World → Prop} {a : Act} {w : World} (h : LoopWp P c Q a w) : (Code.loop c).wp P Q a w := by
  intro b k cs
  obtain ⟨e, a', w', hq, harr⟩ := h b k cs
  exact ⟨e, a', w', hq, .of_steps (.one step_loop) harr⟩

theorem LoopWp.round {P : Program} {c : Code} {Q : Exit → Act → World → Prop} {a : Act} {w : World} (h : c.wp P (Exit.then (LoopWp P c Q) Q) a w) : LoopWp P c Q a w := by
  intro b k cs
  obtain ⟨e, a₁, w₁, hq, harr⟩ := h b (.inLoop c :: k) cs
  cases e with
  | normal =>
    obtain ⟨e₂, a₂, w₂, hq₂, harr₂⟩ := hq b k cs
    exact ⟨e₂, a₂, w₂, hq₂, .of_steps (Steps.trans harr (.one step_inLoop)) harr₂⟩
  | exit id => exact ⟨_, a₁, w₁, hq, .pass (x := .inLoop c) rfl (fun _ _ => .inl (by simp)) harr⟩
  | goto l => exact ⟨_, a₁, w₁, hq, .pass (x := .inLoop c) rfl (fun _ _ => .inl (by simp)) harr⟩
  | ret => exact ⟨_, a₁, w₁, hq, .pass (x := .inLoop c) rfl (fun _ _ => .inl (by simp)) harr⟩
  | panic ch => exact ⟨_, a₁, w₁, hq, .pass (x := .inLoop c) rfl (fun _ _ => .inl (by simp)) harr⟩
  | outgrown => exact ⟨_, a₁, w₁, hq, .pass (x := .inLoop c) rfl (fun _ _ => .inl (by simp)) harr⟩

section
variable {P : Program} {T : Tab} {call : FuncId → List PV → Store → Option (PV × Store)} {rc : FuncId → Bool} {N B : Nat} {w0 : World} {ca : Cm} {df : List Deferred}

theorem region_sound (hm : P.follows .mixedOrders = true) (hT : ∀ f g, T.pure f = some g → Contract P f g) (hcall : CallOk P call) (hB0 : B ≤ w0.heap.size) {id : Nat} {ops : Array Oper} {draw : Bool} {sl : List SOper} {Q : Exit → Act → World → Prop} {c : Cm} {μ : Mu} {a : Act} {w : World} {e e' : Env} {ρ ρ' : Store}
    (hco : cOpers P rc N ops ops.toList = some sl) (hord : draw = true → orderOk ops.toList sl = true) (hev : evOps T call sl e ρ = some (e', ρ')) (hat : At B w0 ca N c μ a w e ρ) (hdf : a.defers = df) (hQ : Later (Q .normal) B w0 ca N df c μ e' ρ') : (Code.region id ops draw).wp P Q a w := by
  obtain ⟨hlen, hget⟩ := cOpers_get hco
  have hlen' : ops.size = sl.length := by simpa using hlen
  have hget' : ∀ (j : Nat) o, ops[j]? = some o → ∃ so, sl[j]? = some so ∧ cOper P rc N ops o = some so := fun j o ho => hget j o (by simpa using ho)
  cases draw with
  | false =>
    refine wp_region ?_
    rw [List.range_eq_range', hlen']
    refine wpOps_text (rc := rc) hT hcall hB0 sl 0 c μ a w e ρ (fun j hj => ?_) hev hat hdf hQ
    obtain ⟨o, ho⟩ : ∃ o, ops[j]? = some o := ⟨_, Array.getElem?_eq_getElem (by omega)⟩
    obtain ⟨so, h1, h2⟩ := hget' j o ho
    exact ⟨o, so, by rw [Nat.zero_add]; exact ho, h1, h2⟩
  | true =>
    have ho := hord rfl
    unfold orderOk at ho
    split at ho
    · cases ho
    · rename_i b hb
      have hord' : ∀ (i j : Nat) p q, i < j → sl[i]? = some p → sl[j]? = some q → clashes p q = true → i ∈ b.getD j [] := by
        intro i j p q hij hp hq hcl
        have hjl : j < sl.length := by
          rcases Nat.lt_or_ge j sl.length with h' | h'
          · exact h'
          · rw [List.getElem?_eq_none h'] at hq; cases hq
        have h1 := List.all_eq_true.1 ho j (List.mem_range.2 hjl)
        have h2 := List.all_eq_true.1 h1 i (List.mem_range.2 hij)
        rw [hp, hq] at h2
        simp only [hcl, Bool.not_true, Bool.false_or] at h2
        simpa using h2
      have hrep : ∀ i, (Array.replicate ops.size false).getD i false = false := by
        intro i
        rw [Array.getD_eq_getD_getElem?, Array.getElem?_replicate]
        split <;> rfl
      obtain ⟨es, rs, vs, t1, t2, t3, t4, t5⟩ := trace_of hev
      refine wp_region_any hm ?_
      refine wpAny_draw (T := T) (call := call) (rc := rc) (e0 := e) (ρ0 := ρ) hT hcall hB0 (df := df) (b := b) hlen' hget' hb hord' ⟨t1, t2, t3, t4, t5⟩ hQ ops.size _ c μ 0 a _ (LeC.refl _) (LeM.refl _) ⟨by simp, ?_, ?_, hat.size, hdf, Nat.zero_le _, ?_, ?_, ?_⟩ ?_
      · intro j o hl
        rw [hrep] at hl; cases hl
      · intro t
        have : curN e sl vs (fun i => (Array.replicate ops.size false).getD i false) sl.length t = e t := by
          have hz : ∀ k, curN e sl vs (fun i => (Array.replicate ops.size false).getD i false) k t = e t := by
            intro k
            induction k with
            | zero => rfl
            | succ k ih =>
              simp only [curN]
              rw [if_neg, ih]
              rintro ⟨h, _⟩
              rw [hrep] at h; cases h
          exact hz _
        rw [this]
        exact hat.env t
      · rw [t2]; exact hat.inv.drew
      · rw [t2]; exact hat.dom
      · intro i so _ _
        rw [hrep]; simp
      · exact Nat.le_trans List.countP_le_length (by simp)

theorem code_sound (hm : P.follows .mixedOrders = true) (hT : ∀ f g, T.pure f = some g → Contract P f g) (hcall : CallOk P call) (hB0 : B ≤ w0.heap.size) {L : Nat} : ∀ (code : Code) (sc : SCode), cCode P rc N code = some sc → ∀ (Q : Exit → Act → World → Prop) (c : Cm) (μ : Mu) (a : Act) (w : World) (e e' : Env) (ρ ρ' : Store) (x : Ex),
    evC T call L sc e ρ = some (x, e', ρ') → At B w0 ca N c μ a w e ρ → a.defers = df → Later (Q x.toExit) B w0 ca N df c μ e' ρ' → code.wp P Q a w := by
  intro code
  induction code with
  | skip =>
    intro sc hc Q c μ a w e e' ρ ρ' x hev hat hdf hQ
    cases hc; cases hev
    exact wp_skip (hQ a w c μ (LeC.refl _) (LeM.refl _) hat hdf)
  | label l =>
    intro sc hc Q c μ a w e e' ρ ρ' x hev hat hdf hQ
    cases hc; cases hev
    exact wp_label (hQ a w c μ (LeC.refl _) (LeM.refl _) hat hdf)
  | exit id =>
    intro sc hc Q c μ a w e e' ρ ρ' x hev hat hdf hQ
    cases hc; cases hev
    exact wp_exit (hQ a w c μ (LeC.refl _) (LeM.refl _) hat hdf)
  | ret =>
    intro sc hc Q c μ a w e e' ρ ρ' x hev hat hdf hQ
    cases hc; cases hev
    exact wp_ret (hQ a w c μ (LeC.refl _) (LeM.refl _) hat hdf)
  | region id ops draw =>
    intro sc hc Q c μ a w e e' ρ ρ' x hev hat hdf hQ
    simp only [cCode] at hc
    split at hc
    · rename_i l hl
      have key : (draw = true → orderOk ops.toList l = true) → sc = .reg l → (Code.region id ops draw).wp P Q a w := by
        rintro ho rfl
        simp only [evC] at hev
        split at hev
        · rename_i e1 ρ1 h1
          cases hev
          exact region_sound hm hT hcall hB0 hl ho h1 hat hdf hQ
        · cases hev
      split at hc
      · split at hc
        · rename_i h1 h2; cases hc; exact key (fun _ => h2) rfl
        · cases hc
      · rename_i h1; cases hc; exact key (fun h => absurd h h1) rfl
    · cases hc
  | seq p q ihp ihq =>
    intro sc hc Q c μ a w e e' ρ ρ' x hev hat hdf hQ
    simp only [cCode] at hc
    split at hc
    · rename_i sp sq h1 h2
      cases hc
      simp only [evC] at hev
      refine wp_seq ?_
      split at hev
      · rename_i e1 ρ1 hp
        refine ihp sp h1 _ c μ a w e e1 ρ ρ1 .nor hp hat hdf fun a1 w1 c1 μ1 k1 k2 k3 k4 => ?_
        exact ihq sq h2 Q c1 μ1 a1 w1 e1 e' ρ1 ρ' x hev k3 k4 fun a2 w2 c2 μ2 j1 j2 j3 j4 => hQ a2 w2 c2 μ2 (k1.trans j1) (k2.trans j2) j3 j4
      · rename_i hne
        refine ihp sp h1 _ c μ a w e e' ρ ρ' x hev hat hdf fun a1 w1 c1 μ1 k1 k2 k3 k4 => ?_
        have hq := hQ a1 w1 c1 μ1 k1 k2 k3 k4
        cases x with
        | nor => exact absurd hev (hne e' ρ')
        | ex id => exact hq
        | ret => exact hq
    · cases hc
  | cond cnd p q ihp ihq =>
    intro sc hc Q c μ a w e e' ρ ρ' x hev hat hdf hQ
    simp only [cCode] at hc
    split at hc
    · rename_i scn sp sq h0 h1 h2
      cases hc
      simp only [evC] at hev
      have hr := cSV_rd hat.env h0
      split at hev
      · rename_i hb
        rw [hb] at hr
        exact wp_cond_true (rd_bool hr) (ihp sp h1 Q c μ a w e e' ρ ρ' x hev hat hdf hQ)
      · rename_i hb
        rw [hb] at hr
        exact wp_cond_false (rd_bool hr) (ihq sq h2 Q c μ a w e e' ρ ρ' x hev hat hdf hQ)
      · cases hev
    · cases hc
  | block id p ihp =>
    intro sc hc Q c μ a w e e' ρ ρ' x hev hat hdf hQ
    simp only [cCode] at hc
    split at hc
    · rename_i sp h1
      cases hc
      simp only [evC] at hev
      refine wp_block ?_
      split at hev
      · rename_i id' e1 ρ1 hp
        split at hev
        · rename_i hid
          cases hev
          refine ihp sp h1 _ c μ a w e _ ρ _ (.ex id') hp hat hdf fun a1 w1 c1 μ1 k1 k2 k3 k4 => ?_
          simp only [Ex.toExit, Exit.inBlock, hid, if_true]
          exact hQ a1 w1 c1 μ1 k1 k2 k3 k4
        · rename_i hid
          cases hev
          refine ihp sp h1 _ c μ a w e _ ρ _ (.ex id') hp hat hdf fun a1 w1 c1 μ1 k1 k2 k3 k4 => ?_
          simp only [Ex.toExit, Exit.inBlock, hid, if_false]
          exact hQ a1 w1 c1 μ1 k1 k2 k3 k4
      · rename_i hne
        refine ihp sp h1 _ c μ a w e e' ρ ρ' x hev hat hdf fun a1 w1 c1 μ1 k1 k2 k3 k4 => ?_
        have hq := hQ a1 w1 c1 μ1 k1 k2 k3 k4
        cases x with
        | nor => exact hq
        | ex id' => exact absurd hev (hne id' e' ρ')
        | ret => exact hq
    · cases hc
  | scope p ihp =>
    intro sc hc Q c μ a w e e' ρ ρ' x hev hat hdf hQ
    refine wp_scope_straight (ihp sc hc _ c μ a w e e' ρ ρ' x hev hat hdf fun a1 w1 c1 μ1 k1 k2 k3 k4 => ?_)
    have hq := hQ a1 w1 c1 μ1 k1 k2 k3 k4
    cases x <;> exact hq
  | loop p ihp =>
    intro sc hc Q c μ a w e e' ρ ρ' x hev hat hdf hQ
    simp only [cCode] at hc
    split at hc
    · rename_i sp h1
      cases hc
      simp only [evC] at hev
      refine wp_loop_of ?_
      have rounds : ∀ (k : Nat) (c : Cm) (μ : Mu) (a : Act) (w : World) (e : Env) (ρ : Store), loopN (evC T call L sp) k e ρ = some (x, e', ρ') → At B w0 ca N c μ a w e ρ → a.defers = df → Later (Q x.toExit) B w0 ca N df c μ e' ρ' → LoopWp P p Q a w := by
        intro k
        induction k with
        | zero => intro c μ a w e ρ h; cases h
        | succ k ih =>
          intro c μ a w e ρ h hat hdf hQ
          simp only [loopN] at h
          refine LoopWp.round ?_
          split at h
          · rename_i e1 ρ1 hp
            refine ihp sp h1 _ c μ a w e e1 ρ ρ1 .nor hp hat hdf fun a1 w1 c1 μ1 k1 k2 k3 k4 => ?_
            exact ih c1 μ1 a1 w1 e1 ρ1 h k3 k4 fun a2 w2 c2 μ2 j1 j2 j3 j4 => hQ a2 w2 c2 μ2 (k1.trans j1) (k2.trans j2) j3 j4
          · rename_i hne
            refine ihp sp h1 _ c μ a w e e' ρ ρ' x h hat hdf fun a1 w1 c1 μ1 k1 k2 k3 k4 => ?_
            have hq := hQ a1 w1 c1 μ1 k1 k2 k3 k4
            cases x with
            | nor => exact absurd h (hne e' ρ')
            | ex id => exact hq
            | ret => exact hq
      exact rounds L c μ a w e ρ hev hat hdf hQ
    · cases hc
  | _ => intro sc hc; cases hc

end
end Go.Proofs.YtkccoijckckhmaaGreatDoor.Ev

namespace Go.Proofs.YtkccoijckckhmaaGreatDoor.Ev
open Go Go.RowKit

def Bodies (P : Program) (T : Tab) : Prop := ∀ f s, T.body f = some s → ∃ fn rc, P.funcs[f]? = some fn ∧ (fn.name == "runtime.NumGoroutine") = false ∧ compile P rc fn = some s

theorem Env.of_at : ∀ (vs : List PV) (i t : Nat), Env.of vs i t = if i ≤ t then vs.getD (t - i) .un else .un
  | [], i, t => by simp [Env.of]
  | v :: vs, i, t => by
    simp only [Env.of]
    by_cases h : t = i
    · subst h; simp
    · have : Nat.beq t i = false := by
        cases hh : Nat.beq t i with
        | false => rfl
        | true => exact absurd (Nat.eq_of_beq_eq_true hh) h
      rw [this, cond_false, Env.of_at vs (i + 1) t]
      by_cases h2 : i ≤ t
      · rw [if_pos (by omega), if_pos h2]
        rw [show t - i = (t - (i + 1)) + 1 from by omega]
        simp
      · rw [if_neg (by omega), if_neg h2]

theorem cRes_spec {P : Program} {B : Nat} {w0 : World} {ca : Cm} {N : Nat} {c : Cm} {μ : Mu} {a : Act} {w : World} {e : Env} {ρ : Store} (hat : At B w0 ca N c μ a w e ρ) : ∀ {rs : List ResultVar} {ss : List SRes} {ps : List PV}, cRes P rs = some ss → resAll e ρ ss = some ps →
    ∃ vs : List Value, (rs.mapM fun | .tmp t => pure (a.tmps.getD t undef) | .cell ad t => do loadVar t (← asAddr (a.tmps.getD ad undef)) : Sem (List Value)).run P w = .ok vs w ∧ RdL c μ vs ps
  | [], ss, ps, h, hp => by cases h; cases hp; exact ⟨[], rfl, trivial⟩
  | .tmp t :: rs, ss, ps, h, hp => by
    simp only [cRes] at h
    split at h
    · rename_i s hs
      cases h
      simp only [resAll, resOf] at hp
      split at hp
      · rename_i v vs' h1 h2
        cases h1; cases hp
        obtain ⟨vs, k1, k2⟩ := cRes_spec hat hs h2
        refine ⟨a.tmps.getD t undef :: vs, ?_, hat.env t, k2⟩
        rw [List.mapM_cons, Sem.run_bind]
        show Result.andThen (.ok (a.tmps.getD t undef) w) _ = _
        rw [Result.andThen_ok, Sem.run_bind, k1]
        rfl
      · cases hp
    · cases h
  | .cell ad ty :: rs, ss, ps, h, hp => by
    simp only [cRes] at h
    have key : ∀ (n : Nat) (g : Bool) (s : List SRes), aggT P ty = some g → (g = true → sizeT P ty = some n) → cRes P rs = some s → ss = .c ad n g :: s → ∃ vs : List Value, ((.cell ad ty :: rs).mapM fun | .tmp t => pure (a.tmps.getD t undef) | .cell ad t => do loadVar t (← asAddr (a.tmps.getD ad undef)) : Sem (List Value)).run P w = .ok vs w ∧ RdL c μ vs ps := by
      rintro n g s hg hn hs rfl
      simp only [resAll, resOf] at hp
      split at hp
      · rename_i v vs' h1 h2
        cases hp
        obtain ⟨vs, k1, k2⟩ := cRes_spec hat hs h2
        split at h1
        · rename_i id esz i j hv
          split at h1
          · rename_i k hk
            split at h1
            · rename_i hz
              split at h1
              · rename_i cs hi
                have hr := hat.env ad
                rw [hv] at hr
                obtain ⟨b, Nn, hm, hu⟩ := rd_mp hr
                have hc := (CellsAt.of_tok hat.inv hk hm hi).drop j
                rw [hz] at hc
                obtain ⟨u, u1, u2⟩ := loadVar_run (P := P) hg hn (fun _ => trivial) hc h1
                refine ⟨u :: vs, ?_, u2, k2⟩
                have k0 : (do loadVar ty (← asAddr (a.tmps.getD ad undef)) : Sem Value).run P w = .ok u w := by
                  rw [hu]
                  exact u1
                rw [List.mapM_cons, Sem.run_bind]
                show Result.andThen ((do loadVar ty (← asAddr (a.tmps.getD ad undef)) : Sem Value).run P w) _ = _
                rw [k0, Result.andThen_ok, Sem.run_bind, k1]
                rfl
              · cases h1
            · cases h1
          · cases h1
        · cases h1
      · cases hp
    split at h
    · rename_i n s hg hn hs; cases h; exact key n true s hg (fun _ => hn) hs rfl
    · rename_i n s hg hn hs; cases h; exact key 1 false s hg (fun h => by cases h) hs rfl
    · cases h

theorem results_run {P : Program} {B : Nat} {w0 : World} {ca : Cm} {N : Nat} {c : Cm} {μ : Mu} {a : Act} {w : World} {e : Env} {ρ : Store} {fn : Func} {ss : List SRes} {ps : List PV} (hat : At B w0 ca N c μ a w e ρ) (hc : cRes P fn.results.toList = some ss) (hp : resAll e ρ ss = some ps) :
    ∃ v, (results fn a.tmps).run P w = .ok v w ∧ Rd c μ v (oneRes ps) := by
  obtain ⟨vs, h1, h2⟩ := cRes_spec hat hc hp
  have hm : (fn.results.mapM fun | .tmp t => pure (a.tmps.getD t undef) | .cell ad t => do loadVar t (← asAddr (a.tmps.getD ad undef)) : Sem (Array Value)).run P w = .ok vs.toArray w := by
    rw [Array.mapM_eq_mapM_toList, Sem.run_map, h1]
    rfl
  refine ⟨if h : vs.toArray.size = 1 then vs.toArray[0] else .tuple vs.toArray, ?_, ?_⟩
  · unfold results
    rw [Sem.run_bind]
    exact (congrArg (fun z => Result.andThen z _) hm).trans rfl
  · cases vs with
    | nil =>
      cases ps with
      | nil => exact .tup #[] [] rfl (fun i x h => by simp at h)
      | cons _ _ => exact h2.elim
    | cons v vs =>
      cases ps with
      | nil => exact h2.elim
      | cons p ps =>
        cases vs with
        | nil =>
          cases ps with
          | nil => exact h2.1
          | cons _ _ => exact h2.2.elim
        | cons v2 vs =>
          cases ps with
          | nil => exact h2.2.elim
          | cons p2 ps =>
            have hA := RdA.of_list (vs := (v :: v2 :: vs).toArray) (by simpa using h2)
            have : ¬ ((v :: v2 :: vs).toArray.size = 1) := by simp
            rw [dif_neg this]
            exact .tup _ _ hA.1 hA.2

theorem func_sound {P : Program} {T : Tab} (hm : P.follows .mixedOrders = true) (hT : ∀ f g, T.pure f = some g → Contract P f g) (hb : Bodies P T) (L : Nat) : ∀ d, CallOk P (evF T L d) := by
  intro d
  induction d with
  | zero => intro g args ρ r ρ' h; cases h
  | succ d ih =>
    intro f args ρ r ρ' h
    simp only [evF] at h
    split at h
    · cases h
    · rename_i s hs
      obtain ⟨fn, rc, hf, hnm, hcomp⟩ := hb f s hs
      unfold compile at hcomp
      split at hcomp
      · cases hcomp
      · rename_i code hbody
        split at hcomp
        · rename_i sb sr h1 h2
          split at hcomp
          · rename_i hnp
            cases hcomp
            refine ⟨⟨fn, hf, hnm, by rw [hbody]; rfl⟩, ?_⟩
            intro B w0 ca c μ w vs hB0 hI hd hr
            split at h
            · rename_i hlen
              have hvl : vs.length = fn.params.size + fn.nfree := by rw [hr.length]; exact hlen
              have hat : At B w0 ca fn.ntmps c μ { tmps := vs.toArray ++ Array.replicate (fn.ntmps - vs.toArray.size) undef, defers := [] } w (Env.of args 0) ρ := by
                refine ⟨hI, hd, fun t => ?_, by simp; omega⟩
                rw [Env.of_at, if_pos (Nat.zero_le _), Nat.sub_zero]
                rcases Nat.lt_or_ge t args.length with h' | h'
                · have hg := hr.get t args[t] (List.getElem?_eq_getElem h')
                  have hsz : t < vs.length := by rw [hr.length]; exact h'
                  rw [Array.getD_eq_getD_getElem?, Array.getElem?_append_left (by simpa using hsz)]
                  simp only [List.getD] at hg ⊢
                  rw [List.getElem?_eq_getElem h']
                  simpa using hg
                · simp only [List.getD]
                  rw [List.getElem?_eq_none h']
                  exact .un _
              have run : ∀ (x : Ex) e' ρ1 ps, (x = .nor ∨ x = .ret) → evC T (evF T L d) L sb (Env.of args 0) ρ = some (x, e', ρ1) → resAll e' ρ1 sr = some ps →
                  Calls P f vs.toArray w (fun e w' => ∃ v, e = .returned v ∧ Wrote B w0 ca c μ ρ1 (oneRes ps) v w') := by
                intro x e' ρ1 ps hx hev hres
                refine calls_of_wp hf hbody ?_
                refine code_sound (rc := rc) (df := []) hm hT ih hB0 code sb h1 _ c μ _ w _ e' ρ ρ1 x hev hat rfl ?_
                intro a1 w1 c1 μ1 k1 k2 k3 k4
                obtain ⟨v, v1, v2⟩ := results_run k3 h2 hres
                have : bodyPost P fn (fun e w' => ∃ v, e = .returned v ∧ Wrote B w0 ca c μ ρ1 (oneRes ps) v w') .normal a1 w1 := ⟨k4, v, v1, v, rfl, c1, μ1, k1, k2, k3.inv, k3.dom, v2⟩
                rcases hx with rfl | rfl
                · exact this
                · exact this
              split at h
              · rename_i e' ρ1 hev
                split at h
                · rename_i ps hres; cases h; exact run .nor _ _ _ (.inl rfl) hev hres
                · cases h
              · rename_i e' ρ1 hev
                split at h
                · rename_i ps hres; cases h; exact run .ret _ _ _ (.inr rfl) hev hres
                · cases h
              · cases h
            · cases h
          · cases hcomp
        · cases hcomp

/-- A value made to stand alone: slices of rows become lists. -/
def mapO (f : PV → Option PV) : List PV → Option (List PV)
  | [] => some []
  | x :: xs => match f x, mapO f xs with | some y, some ys => some (y :: ys) | _, _ => none

def mapOO (f : PV → Option PV) : List (List PV) → Option (List (List PV))
  | [] => some []
  | x :: xs => match mapO f x, mapOO f xs with | some y, some ys => some (y :: ys) | _, _ => none

def frz : Nat → Store → PV → Option PV
  | 0, _, _ => none
  | n + 1, ρ, v => match v with
    | .ms id esz off m => match ρ[id]? with
      | some k => if k.esz = esz ∧ off + m ≤ k.es.length then (match mapOO (frz n ρ) ((k.es.drop off).take m) with | some es => some (.sl esz es) | none => none) else none
      | none => none
    | .sl esz es => match mapOO (frz n ρ) es with | some es' => some (.sl esz es') | none => none
    | .agg cs => match mapO (frz n ρ) cs with | some xs => some (.agg xs) | none => none
    | .tup cs => match mapO (frz n ρ) cs with | some xs => some (.tup xs) | none => none
    | .mp .. | .ip _ | .fn .. => none
    | v => some v

theorem mapO_get {f : PV → Option PV} : ∀ {xs ys : List PV}, mapO f xs = some ys → xs.length = ys.length ∧ ∀ (i : Nat) y, ys[i]? = some y → ∃ x, xs[i]? = some x ∧ f x = some y
  | [], ys, h => by cases h; exact ⟨rfl, fun i y h => by simp at h⟩
  | x :: xs, ys, h => by
    simp only [mapO] at h
    split at h
    · rename_i y ys' h1 h2
      cases h
      obtain ⟨k1, k2⟩ := mapO_get h2
      refine ⟨by simp [k1], fun i z hz => ?_⟩
      cases i with
      | zero => simp at hz; subst hz; exact ⟨x, rfl, h1⟩
      | succ i => simpa using k2 i z (by simpa using hz)
    · cases h

theorem mapOO_get {f : PV → Option PV} : ∀ {xs ys : List (List PV)}, mapOO f xs = some ys → xs.length = ys.length ∧ ∀ (i : Nat) y, ys[i]? = some y → ∃ x, xs[i]? = some x ∧ mapO f x = some y
  | [], ys, h => by cases h; exact ⟨rfl, fun i y h => by simp at h⟩
  | x :: xs, ys, h => by
    simp only [mapOO] at h
    split at h
    · rename_i y ys' h1 h2
      cases h
      obtain ⟨k1, k2⟩ := mapOO_get h2
      refine ⟨by simp [k1], fun i z hz => ?_⟩
      cases i with
      | zero => simp at hz; subst hz; exact ⟨x, rfl, h1⟩
      | succ i => simpa using k2 i z (by simpa using hz)
    · cases h

theorem mapOO_cell {f : PV → Option PV} {xs ys : List (List PV)} (h : mapOO f xs = some ys) {i j : Nat} {y : PV} (hy : cellAt ys i j = some y) : ∃ x, cellAt xs i j = some x ∧ f x = some y := by
  obtain ⟨cs, h1, h2⟩ := cellAt_some hy
  obtain ⟨ds, k1, k2⟩ := (mapOO_get h).2 i cs h1
  obtain ⟨x, x1, x2⟩ := (mapO_get k2).2 j y h2
  exact ⟨x, by simp [cellAt, k1, x1], x2⟩

theorem mapOO_len {f : PV → Option PV} {xs ys : List (List PV)} {esz : Nat} (h : mapOO f xs = some ys) (hl : ∀ cs, cs ∈ xs → cs.length = esz) : ∀ cs, cs ∈ ys → cs.length = esz := by
  intro cs hcs
  obtain ⟨i, hi⟩ := List.mem_iff_getElem?.1 hcs
  obtain ⟨ds, k1, k2⟩ := (mapOO_get h).2 i cs hi
  rw [← (mapO_get k2).1]
  exact hl ds (List.mem_of_getElem? k1)

theorem frz_rd {B : Nat} {w0 : World} {ca c : Cm} {μ : Mu} {ρ : Store} {w : World} (hI : Inv B w0 ca c μ ρ w) : ∀ (n : Nat) (v : Value) (p q : PV), Rd c μ v p → frz n ρ p = some q → Rd (cAt B ca w) noMu v q := by
  have hle : ∀ b o u, c b o = some u → cAt B ca w b o = some u := by
    intro b o u h
    unfold cAt
    split
    · rename_i hlt; exact hI.old b o u hlt h
    · exact hI.cells b o u h
  intro n
  induction n with
  | zero => intro v p q _ h; cases h
  | succ n ih =>
    intro v p q hr h
    cases p with
    | ms id esz off m =>
      simp only [frz] at h
      split at h
      · rename_i k hk
        split at h
        · rename_i hcond
          obtain ⟨rfl, hm⟩ := hcond
          split at h
          · rename_i es' hes
            cases h
            obtain ⟨b, N, cap, hmu, rfl, h1, h2⟩ := rd_ms hr
            have hlen : ((k.es.drop off).take m).length = m := by simp; omega
            have hl : ∀ cs, cs ∈ (k.es.drop off).take m → cs.length = k.esz := by
              intro cs hcs
              have hin := List.mem_of_mem_drop (List.mem_of_mem_take hcs)
              cases hl : k.live with
              | true => exact (hI.tok id k b N hk hmu hl).2.1 cs hin
              | false => rw [hI.dead id k hk hl] at hin; cases hin
            have hcell : ∀ i j x, cellAt ((k.es.drop off).take m) i j = some x → ∃ u, w.cell? ⟨b, off * k.esz + i * k.esz + j, none⟩ = some u ∧ Rd c μ u x := by
              intro i j x hx
              obtain ⟨cs, k1, k2⟩ := cellAt_some hx
              rw [List.getElem?_take] at k1
              split at k1
              · rw [List.getElem?_drop] at k1
                have := CellsAt.of_tok hI hk hmu k1 j x k2
                rwa [Nat.add_mul] at this
              · cases k1
            have hbB : B ≤ b := hI.low id b N hmu
            let f : Nat → Nat → Value := fun i j => (w.cell? ⟨b, off * k.esz + i * k.esz + j, none⟩).getD undef
            have := Rd.sl (c := cAt B ca w) (μ := noMu) b (off * k.esz) cap k.esz es' f (by rw [← (mapOO_get hes).1]; omega) (mapOO_len hes hl)
              (fun i j y hy => by
                obtain ⟨x, x1, x2⟩ := mapOO_cell hes hy
                obtain ⟨u, u1, u2⟩ := hcell i j x x1
                simp only [cAt, if_neg (show ¬ b < B from by omega)]
                show _ = some ((w.cell? _).getD undef)
                rw [u1]; rfl)
              (fun i j y hy => by
                obtain ⟨x, x1, x2⟩ := mapOO_cell hes hy
                obtain ⟨u, u1, u2⟩ := hcell i j x x1
                have hf : f i j = u := by show (w.cell? _).getD undef = u; rw [u1]; rfl
                rw [hf]
                exact ih u x y u2 x2)
            rw [← (mapOO_get hes).1, hlen] at this
            exact this
          · cases h
        · cases h
      · cases h
    | sl esz es =>
      simp only [frz] at h
      split at h
      · rename_i es' hes
        cases h
        obtain ⟨b, off, cap, f, rfl, h1, h2, h3, h4⟩ := rd_sl hr
        have := Rd.sl (c := cAt B ca w) (μ := noMu) b off cap esz es' f (by rw [← (mapOO_get hes).1]; omega) (mapOO_len hes h2)
          (fun i j y hy => by obtain ⟨x, x1, x2⟩ := mapOO_cell hes hy; exact hle _ _ _ (h3 i j x x1))
          (fun i j y hy => by obtain ⟨x, x1, x2⟩ := mapOO_cell hes hy; exact ih _ x y (h4 i j x x1) x2)
        rw [← (mapOO_get hes).1] at this
        exact this
      · cases h
    | agg cs =>
      simp only [frz] at h
      split at h
      · rename_i xs hxs
        cases h
        obtain ⟨vs, rfl, h1, h2⟩ := rd_agg hr
        obtain ⟨k1, k2⟩ := mapO_get hxs
        exact .agg _ _ (by rw [h1, k1]) fun i y hy => by obtain ⟨x, x1, x2⟩ := k2 i y hy; exact ih _ x y (h2 i x x1) x2
      · cases h
    | tup cs =>
      simp only [frz] at h
      split at h
      · rename_i xs hxs
        cases h
        obtain ⟨vs, rfl, h1, h2⟩ := rd_tup hr
        obtain ⟨k1, k2⟩ := mapO_get hxs
        exact .tup _ _ (by rw [h1, k1]) fun i y hy => by obtain ⟨x, x1, x2⟩ := k2 i y hy; exact ih _ x y (h2 i x x1) x2
      · cases h
    | mp => cases h
    | ip => cases h
    | fn => cases h
    | _ => simp only [frz] at h; cases h; cases hr <;> constructor

/-- The evaluator's answer without a store, standing alone. -/
def evPure (T : Tab) (L d n : Nat) (f : FuncId) (args : List PV) : Option PV :=
  match evF T L d f args [] with
  | some (r, ρ) => frz n ρ r
  | none => none

/-- A CONTRACT OUT OF THE EVALUATOR. -/
theorem contract_of {P : Program} {T : Tab} (hm : P.follows .mixedOrders = true) (hT : ∀ f g, T.pure f = some g → Contract P f g) (hb : Bodies P T) {f : FuncId} {g : List PV → Option PV} (hen : Enterable P f)
    (hp : ∀ args r, g args = some r → ∀ p, p ∈ args → Pure p) (hg : ∀ args r, g args = some r → ∃ L d n, evPure T L d n f args = some r) : Contract P f g := by
  refine ⟨hen, hp, ?_⟩
  intro args r hgr w c vs hc hlaid hr
  obtain ⟨L, d, n, h⟩ := hg args r hgr
  unfold evPure at h
  split at h
  · rename_i r0 ρ hev
    obtain ⟨_, hC⟩ := func_sound hm hT hb L d f args [] r0 ρ hev
    have hI : Inv w.heap.size w c c noMu [] w := ⟨Below.refl _ _, hc, (fun id b N h => by cases h), (fun id k b N h => by simp at h), (fun id k h => by simp at h), (fun i1 i2 k1 k2 b N N' h => by simp at h), fun b o u _ h => h, ⟨hlaid, hlaid.size⟩, fun _ _ h _ => h⟩
    refine Calls.mono (hC w.heap.size w c c noMu w vs (Nat.le_refl _) hI (fun _ _ => rfl) hr) ?_
    rintro e w' ⟨v, rfl, c', μ', h1, h2, h3, h4, h5⟩
    exact ⟨v, rfl, frz_rd h3 n v r0 r h5 h, h3.below⟩
  · cases h

end Go.Proofs.YtkccoijckckhmaaGreatDoor.Ev
