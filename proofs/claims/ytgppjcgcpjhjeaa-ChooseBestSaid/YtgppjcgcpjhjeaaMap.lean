/- Words of this proof: what a map of Go's whose keys are whole numbers or texts holds in a world, and what looking up and storing do. Plain definitions and lemmas; no program in sight. -/
import Derived.Test.YtgppjcgcpjhjeaaMem
namespace Go.Proofs.Ytgppjcgcpjhjeaa
open Go.RowKit

/-- Block r is a map; to the key written 'enc k' it has the value 'f k'. -/
def MapAt {κ : Type} (enc : κ → Value) (w : World) (r : Nat) (f : κ → Option Value) : Prop :=
  ∃ es clock, w.heap[r]? = some (.map es clock) ∧ (∀ e ∈ es.toList, ∃ k, e.key = enc k ∧ (f k).isSome = true) ∧
    ∀ k, (es.toList.find? (fun e => Instr.sameBits 10000 e.key (enc k))).map (·.val) = f k

/-- What the model asks of keys: they are told apart as their Lean values are. -/
structure Keyd {κ : Type} (P : Program) (t : TypeId) (enc : κ → Value) : Prop where
  desc : ∃ d, P.underlying t = some d ∧ (∀ k k', ∃ b, Instr.sameNow d (enc k) (enc k') = some b ∧ (b = true ↔ k = k')) ∧ (∀ e n k w, (Instr.checkKey e (n + 1) t (enc k)).run P w = .ok () w)
  bits : ∀ k k', Instr.sameBits 10000 (enc k) (enc k') = true ↔ k = k'

theorem Keyd.int {P : Program} {t : TypeId} (h : P.underlying t = some (.int .i64)) : Keyd P t (fun n : Int => .int .i64 n) where
  desc := ⟨_, h, fun k k' => ⟨k == k', by simp [Instr.sameNow], by simp⟩, fun e n k w => by simp [Instr.checkKey, run_underlying h]⟩
  bits := fun k k' => by simp [Instr.sameBits]
theorem bytes_beq (a b : ByteArray) : (a == b) = true ↔ a = b := by
  obtain ⟨a⟩ := a
  obtain ⟨b⟩ := b
  show (a == b) = true ↔ _
  simp
theorem Keyd.string {P : Program} {t : TypeId} (h : P.underlying t = some .string) : Keyd P t (fun s : ByteArray => .string s) where
  desc := ⟨_, h, fun k k' => ⟨k == k', rfl, bytes_beq k k'⟩, fun e n k w => by simp [Instr.checkKey, run_underlying h]⟩
  bits := fun k k' => bytes_beq k k'

section
variable {κ : Type} {P : Program} {t : TypeId} {enc : κ → Value}
theorem findNow_of {d : TypeDesc} (K : ∀ k k', ∃ b, Instr.sameNow d (enc k) (enc k') = some b ∧ (b = true ↔ k = k')) (hb : ∀ k k', Instr.sameBits 10000 (enc k) (enc k') = true ↔ k = k') (k : κ) :
    ∀ (es : List MapEntry) (i : Nat), (∀ e ∈ es, ∃ k, e.key = enc k) →
      ∃ p, Instr.findNow d (enc k) es i = some p ∧ p.map (·.2) = (es.find? (fun e => Instr.sameBits 10000 e.key (enc k))).map (·.val) ∧
        (∀ q, p = some q → i ≤ q.1 ∧ ∃ e, es[q.1 - i]? = some e ∧ e.key = enc k ∧ e.val = q.2 ∧ ∀ j e', j < q.1 - i → es[j]? = some e' → Instr.sameBits 10000 e'.key (enc k) = false) ∧ (p = none → ∀ e ∈ es, Instr.sameBits 10000 e.key (enc k) = false) := by
  intro es
  induction es with
  | nil => intro i _; exact ⟨none, rfl, rfl, by simp, by simp⟩
  | cons e es ih =>
    intro i he
    obtain ⟨k', hk'⟩ := he e (by simp)
    obtain ⟨b, hs, hbb⟩ := K k k'
    cases b with
    | true =>
      obtain rfl := hbb.1 rfl
      refine ⟨some (i, e.val), by simp [Instr.findNow, hk', hs], by simp [List.find?, hk', (hb k k).2 rfl], ?_, by simp⟩
      rintro q hq
      injection hq with hq
      subst hq
      exact ⟨Nat.le_refl _, e, by simp, hk', rfl, by intro j e' hj; omega⟩
    | false =>
      have hne : ¬ k = k' := fun h => by have := hbb.2 h; cases this
      have hsb : Instr.sameBits 10000 (enc k') (enc k) = false := by
        rw [Bool.eq_false_iff]; intro h; exact hne ((hb _ _).1 h).symm
      obtain ⟨p, h1, h2, h3, h4⟩ := ih (i + 1) (fun e' h => he e' (by simp [h]))
      refine ⟨p, by simp [Instr.findNow, hk', hs, h1], by rw [h2]; simp [List.find?, hk', hsb], ?_, ?_⟩
      · rintro q hq
        obtain ⟨g1, e1, g2, g3, g4, g5⟩ := h3 q hq
        refine ⟨by omega, e1, ?_, g3, g4, ?_⟩
        · rw [show q.1 - i = (q.1 - (i + 1)) + 1 from by omega]; simpa using g2
        · intro j e' hj hje
          cases j with
          | zero => simp at hje; subst hje; rw [hk']; exact hsb
          | succ j => exact g5 j e' (by omega) (by simpa using hje)
      · intro hp e' he'
        rcases List.mem_cons.1 he' with rfl | h
        · rw [hk']; exact hsb
        · exact h4 hp e' h

theorem findKey_of (K : Keyd P t enc) {w : World} (es : List MapEntry) (k : κ) (he : ∀ e ∈ es, ∃ k, e.key = enc k) :
    ∃ p, (Instr.findKey t (enc k) es).run P w = .ok p w ∧ p.map (·.2) = (es.find? (fun e => Instr.sameBits 10000 e.key (enc k))).map (·.val) ∧
        (∀ q, p = some q → ∃ e, es[q.1]? = some e ∧ e.key = enc k ∧ e.val = q.2 ∧ ∀ j e', j < q.1 → es[j]? = some e' → Instr.sameBits 10000 e'.key (enc k) = false) ∧ (p = none → ∀ e ∈ es, Instr.sameBits 10000 e.key (enc k) = false) := by
  obtain ⟨d, hd, hs, _⟩ := K.desc
  obtain ⟨p, h1, h2, h3, h4⟩ := findNow_of hs K.bits k es 0 he
  refine ⟨p, by simp [Instr.findKey, run_underlying hd, h1], h2, fun q hq => ?_, h4⟩
  obtain ⟨_, e, g⟩ := h3 q hq
  exact ⟨e, by simpa using g⟩

theorem MapAt.run_lookup (K : Keyd P t enc) {w : World} {r : Nat} {f : κ → Option Value} (h : MapAt enc w r f) {m e : TypeId} (hm : P.underlying m = some (.map t e)) {z : Value}
    (hz : ∀ w, (zeroValue e).run P w = .ok z w) (k : κ) (ok : Bool) :
    (Instr.lookup m (.map (some r)) (enc k) ok).run P w = .ok (if ok then .tuple #[(f k).getD z, .bool (f k).isSome] else (f k).getD z) w := by
  obtain ⟨es, clock, hb, hes, hf⟩ := h
  obtain ⟨p, h1, h2, _, _⟩ := findKey_of K (w := w) es.toList k (fun e he => by obtain ⟨k, hk, _⟩ := hes e he; exact ⟨k, hk⟩)
  obtain ⟨d, hd, _, hck⟩ := K.desc
  rw [hf k] at h2
  have hck' : ∀ b w, (Instr.checkKey b 10000 t (enc k)).run P w = .ok () w := fun b w => hck b 9999 k w
  unfold Instr.lookup
  simp only [Sem.run_bind, run_underlying hm, Result.andThen_ok]
  have hg : (getObj r).run P w = .ok (.map es clock) w := by simp [getObj, Sem.run, hb]
  simp only [hg, Result.andThen_ok, Sem.run_pure, Sem.run_bind, hck', h1]
  cases p with
  | none =>
    simp only [Option.map_none] at h2
    simp only [Sem.run_bind, hz, Result.andThen_ok, Sem.run_pure, ← h2, Option.getD_none, Option.isSome_none]
  | some q =>
    simp only [Option.map_some] at h2
    rw [← h2]
    rfl

theorem find_modify {es : List MapEntry} {i : Nat} {e : MapEntry} {k : κ} {v : Value} (hb : ∀ k k', Instr.sameBits 10000 (enc k) (enc k') = true ↔ k = k') (he : es[i]? = some e) (hk : e.key = enc k)
    (hfirst : ∀ j e', j < i → es[j]? = some e' → Instr.sameBits 10000 e'.key (enc k) = false) (hkeys : ∀ e ∈ es, ∃ k, e.key = enc k) (k' : κ) [Decidable (k' = k)] :
    ((es.modify i fun e => { e with key := enc k, val := v }).find? (fun e => Instr.sameBits 10000 e.key (enc k'))).map (·.val) = if k' = k then some v else (es.find? (fun e => Instr.sameBits 10000 e.key (enc k'))).map (·.val) := by
  induction es generalizing i with
  | nil => simp at he
  | cons a es ih =>
    cases i with
    | zero =>
      simp at he; subst he
      simp only [List.modify_zero_cons, List.find?_cons]
      by_cases h : k' = k
      · subst h; simp [(hb k' k').2 rfl]
      · have : Instr.sameBits 10000 (enc k) (enc k') = false := by rw [Bool.eq_false_iff]; intro h2; exact h ((hb _ _).1 h2).symm
        rw [hk]; simp [this, h]
    | succ i =>
      have h0 := hfirst 0 a (by omega) (by simp)
      simp only [List.modify_succ_cons, List.find?_cons]
      have ih' := ih (by simpa using he) (fun j e' hj hje => hfirst (j + 1) e' (by omega) (by simpa using hje)) (fun e h => hkeys e (by simp [h]))
      cases hs : Instr.sameBits 10000 a.key (enc k') with
      | true =>
        by_cases h : k' = k
        · subst h; rw [h0] at hs; cases hs
        · simp [h]
      | false => exact ih'

theorem MapAt.run_update [DecidableEq κ] (K : Keyd P t enc) {w : World} {r : Nat} {f : κ → Option Value} (h : MapAt enc w r f) {m e : TypeId} (hm : P.underlying m = some (.map t e)) (k : κ) (v : Value) :
    ∃ w', (Instr.mapUpdate m (.map (some r)) (enc k) v).run P w = .ok () w' ∧ MapAt enc w' r (fun k' => if k' = k then some v else f k') ∧ w.grownBy w' (some r) ∧ w'.heap.size = w.heap.size := by
  obtain ⟨es, clock, hb, hes, hf⟩ := h
  obtain ⟨p, h1, h2, h3, h4⟩ := findKey_of K (w := w) es.toList k (fun e he => by obtain ⟨k, hk, _⟩ := hes e he; exact ⟨k, hk⟩)
  obtain ⟨d, hd, _, hck⟩ := K.desc
  have hck' : ∀ b w, (Instr.checkKey b 10000 t (enc k)).run P w = .ok () w := fun b w => hck b 9999 k w
  have hg : (getObj r).run P w = .ok (.map es clock) w := by simp [getObj, Sem.run, hb]
  have hlt : r < w.heap.size := (Array.getElem?_eq_some_iff.1 hb).1
  have grown : ∀ o : Obj, w.grownBy { w with heap := w.heap.setIfInBounds r o } (some r) ∧ ({ w with heap := w.heap.setIfInBounds r o } : World).heap.size = w.heap.size := fun o =>
    ⟨⟨rfl, rfl, rfl, by simp, fun j hj hne => by
      show (w.heap.setIfInBounds r o)[j]? = _
      rw [Array.getElem?_setIfInBounds]
      rw [if_neg (by intro h; subst h; exact hne rfl)]⟩, by simp⟩
  have hset : ∀ o : Obj, (setObj r o).run P w = .ok () { w with heap := w.heap.setIfInBounds r o } := fun o => by simp [setObj, Sem.run, hb]
  have hblk : ∀ o : Obj, ({ w with heap := w.heap.setIfInBounds r o } : World).heap[r]? = some o := fun o => by
    show (w.heap.setIfInBounds r o)[r]? = _
    rw [Array.getElem?_setIfInBounds]; simp [hlt]
  unfold Instr.mapUpdate
  simp only [Sem.run_bind, run_underlying hm, Result.andThen_ok, hg, hck', h1]
  cases p with
  | none =>
    simp only [hset]
    refine ⟨_, rfl, ⟨_, _, hblk _, ?_, fun k' => ?_⟩, grown _⟩
    · intro e he
      simp at he
      rcases he with he | rfl
      · obtain ⟨k1, e1, e2⟩ := hes e (by simpa using he)
        refine ⟨k1, e1, ?_⟩
        by_cases h : k1 = k <;> simp [h, e2]
      · exact ⟨k, rfl, by simp⟩
    · have hno := h4 rfl
      have hfk := hf k'
      simp only [Array.toList_push, List.find?_append]
      by_cases h : k' = k
      · subst h
        have : es.toList.find? (fun e => Instr.sameBits 10000 e.key (enc k')) = none := List.find?_eq_none.2 fun e he => by simp [hno e he]
        simp [this, (K.bits k' k').2 rfl]
      · have hn : Instr.sameBits 10000 (enc k) (enc k') = false := by rw [Bool.eq_false_iff]; intro h2; exact h ((K.bits _ _).1 h2).symm
        simp only [if_neg h]
        rw [← hfk]
        cases es.toList.find? (fun e => Instr.sameBits 10000 e.key (enc k')) <;> simp [hn]
  | some q =>
    obtain ⟨e0, g1, g2, g3, g4⟩ := h3 q rfl
    obtain ⟨i, v0⟩ := q
    have hkey : (((es[i]?).map (·.key)).getD (enc k)) = enc k := by
      have : es[i]? = some e0 := by simpa using g1
      simp [this, g2]
    have hstay : ∀ w, (Instr.keyThatStays (((es[i]?).map (·.key)).getD (enc k)) (enc k)).run P w = .ok (enc k) w := fun w => by
      rw [hkey]; simp [Instr.keyThatStays, (K.bits k k).2 rfl]
    simp only [Sem.run_bind, hstay, Result.andThen_ok, hset]
    refine ⟨_, rfl, ⟨_, _, hblk _, ?_, fun k' => ?_⟩, grown _⟩
    · intro e he
      simp only [Array.toList_modify] at he
      obtain ⟨j, hj, hje⟩ := List.getElem_of_mem he
      have hj' : j < es.toList.length := by simpa using hj
      rw [List.getElem_modify] at hje
      split at hje
      · subst hje; exact ⟨k, rfl, by simp⟩
      · obtain ⟨k1, e1, e2⟩ := hes e (by rw [← hje]; exact List.getElem_mem hj')
        refine ⟨k1, e1, ?_⟩
        by_cases h : k1 = k <;> simp [h, e2]
    · simp only [Array.toList_modify]
      rw [find_modify K.bits g1 g2 g4 (fun e he => by obtain ⟨k, hk, _⟩ := hes e he; exact ⟨k, hk⟩) k', hf k']

theorem MapAt.new (enc : κ → Value) (w : World) (clock : Nat) : MapAt enc (w.alloc (.map #[] clock)) w.heap.size (fun _ => none) := ⟨#[], clock, heap_alloc_new w _, by simp, by simp⟩
theorem MapAt.keep {w w' : World} {r : Nat} {f : κ → Option Value} (h : MapAt enc w r f) (hb : w'.heap[r]? = w.heap[r]?) : MapAt enc w' r f := by
  obtain ⟨es, clock, h1, h2⟩ := h
  exact ⟨es, clock, by rw [hb, h1], h2⟩
theorem MapAt.lt {w : World} {r : Nat} {f : κ → Option Value} (h : MapAt enc w r f) : r < w.heap.size := by
  obtain ⟨es, clock, h1, h2⟩ := h
  exact (Array.getElem?_eq_some_iff.1 h1).1
theorem MapAt.below {w w' : World} {r : Nat} {f : κ → Option Value} (h : MapAt enc w r f) (hb : Below w.heap.size w w') : MapAt enc w' r f := h.keep (hb.block _ h.lt)
theorem wpList_store_map {ops : Array Oper} {rest : List Oper} {o : Oper} {a : Act} {Q : Exit → Act → World → Prop} {w : World} [DecidableEq κ] (hg : o.guard = none) (m x v : Operand) (ty : TypeId) (hop : o.op = Op.mapUpdate ty m x v)
    (K : Keyd P t enc) {r : Nat} {f : κ → Option Value} (h : MapAt enc w r f) {e : TypeId} (hm : P.underlying ty = some (.map t e)) (hx : a.eval m = .map (some r)) (k : κ) (hk : a.eval x = enc k)
    (hK : ∀ w', MapAt enc w' r (fun k' => if k' = k then some (a.eval v) else f k') → w.grownBy w' (some r) → w'.heap.size = w.heap.size → wpList P ops Q rest (a.put o.dst undef) w') : wpList P ops Q (o :: rest) a w := by
  refine wpList_plain hg fun K' hK' => ?_
  obtain ⟨w', hrun, r1, r2, r3⟩ := h.run_update K hm k (a.eval v)
  unfold Oper.wp
  simp [execOp, hop, hx, hk, hrun, Result.andThen]
  exact hK' _ _ (hK w' r1 r2 r3)
end
end Go.Proofs.Ytgppjcgcpjhjeaa
