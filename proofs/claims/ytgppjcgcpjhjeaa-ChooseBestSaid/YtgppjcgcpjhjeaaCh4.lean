/- The head of the statements of layer 14, and the law of numbers and lists. -/
import Derived.Test.YtgppjcgcpjhjeaaCh3
namespace Go.Proofs.Ytgppjcgcpjhjeaa
open Go.RowKit

set_option maxHeartbeats 1000000 in
theorem up_any (w : World) : Calls Try.prog 4 #[] w (RetBB w (· = true)) := by
  go_enter Try.func4, Try.ntmps4
  go_wp2_with fail
  have hx1 := box_new w (.cells #[.int .i64 1, .int .i64 2, .string ⟨#[98]⟩, .slice none 0 0] 32)
  generalize hw1 : w.alloc (.cells #[.int .i64 1, .int .i64 2, .string ⟨#[98]⟩, .slice none 0 0] 32) = w1 at hx1 ⊢
  have hz1 : w1.heap.size = w.heap.size + 1 := by rw [← hw1]; simp
  have hb1 : Below w.heap.size w w1 := by rw [← hw1]; exact below_alloc _ _
  have hx2 := box_new w1 (.cells #[.int .i64 0, .int .i64 0, .slice (some ⟨w.heap.size, 0, none⟩) 1 1] 29)
  have hb2 := below_alloc w1 (.cells #[.int .i64 0, .int .i64 0, .slice (some ⟨w.heap.size, 0, none⟩) 1 1] 29)
  have hz2 : (w1.alloc (.cells #[.int .i64 0, .int .i64 0, .slice (some ⟨w.heap.size, 0, none⟩) 1 1] 29)).heap.size = w.heap.size + 2 := by simp [hz1]
  rw [hz1] at hx2
  have hx3 : (w1.alloc (.cells #[.int .i64 0, .int .i64 0, .slice (some ⟨w.heap.size, 0, none⟩) 1 1] 29)).heap[w.heap.size]? = some (.cells #[.int .i64 1, .int .i64 2, .string ⟨#[98]⟩, .slice none 0 0] 32) := by
    rw [hb2.block _ (by omega), hx1]
  have hB2 := hb1.next hb2
  clear hw1 hb1 hb2 hz1 hx1
  generalize w1.alloc (.cells #[.int .i64 0, .int .i64 0, .slice (some ⟨w.heap.size, 0, none⟩) 1 1] 29) = w2 at hx2 hx3 hz2 hB2 ⊢
  have hrd : Rd chgT w2 (fun b => b < w2.heap.size) (some ⟨w.heap.size + 1, 0, none⟩) upC :=
    Rd.one (by omega) hx2 ⟨_, rfl, some ⟨w.heap.size, 0, none⟩, 1, rfl, Nat.le_refl _, by simp [maxLen], (fun e => by cases e), Rd.one (by omega) hx3 ⟨_, rfl, Sl.nil ..⟩⟩
  have hfew : FewC upC := ⟨by simp [upC], by simp [upC, FewP]⟩
  refine (Bodies_any _ _ upC _ _ (fun b hb => hb) hfew hrd).mono ?_
  rintro e w3 ⟨v, rfl, HO, HB⟩
  rw [bodies_up] at HO
  obtain ⟨A, c, rfl, _, _, _, HR⟩ := HO.sl
  obtain ⟨b0, o0, rfl, _, hb0, g0⟩ := HR.cell (k := 0) (by simp)
  obtain ⟨b1, o1, e1, _, hb1, g1⟩ := HR.cell (k := 1) (by simp)
  injection e1 with e1
  injection e1 with e1 e2
  subst e1; subst e2
  have HB3 := Asd.mk (hB2.next HB)
  clear HR HO HB hx2 hx3 hz2 hrd
  have t1 : ((2 : Int) == 2) = true := rfl
  simp only [List.getElem_cons_zero, List.getElem_cons_succ, List.length_cons, List.length_nil, Nat.add_zero] at g0 g1 ⊢
  go_wp2_with fail
  refine (Fits_nil _ _).mono ?_
  rintro e w4 ⟨b, rfl, HB4, hb⟩
  have hbt : b = true := by rw [hb]; decide +kernel
  clear hb
  subst hbt
  have HB4 := Asd.mk (HB3.out.next HB4)
  go_wp2_with fail
  refine (Fits_nil _ _).mono ?_
  rintro e w5 ⟨b, rfl, HB5, hb⟩
  have hbt : b = false := by rw [hb]; decide +kernel
  clear hb
  subst hbt
  have HB5 := Asd.mk (HB4.out.next HB5)
  go_wp2
  go_ret
  exact ⟨true, rfl, HB5.out, rfl⟩
theorem step_keeps {s : BS} {q : Int} {v : Int} {b : ByteArray} (hs : s.f q = some (v, b) ∧ q ≤ s.last) (p : Prf) (hp : p.seq = q → ¬ v < p.view) : (bsStep s p).f q = some (v, b) ∧ q ≤ (bsStep s p).last := by
  unfold bsStep
  split
  · exact hs
  · refine ⟨?_, by dsimp only; split <;> omega⟩
    dsimp only
    by_cases e : p.seq = q
    · rw [e, hs.1]
      dsimp only
      rw [if_neg (hp e)]; exact hs.1
    · have e' : ¬ q = p.seq := fun h => e h.symm
      cases s.f p.seq with
      | none => simp only [if_neg e']; exact hs.1
      | some b' => dsimp only; split <;> simp only [if_neg e', hs.1]
theorem fold_keeps {q : Int} {v : Int} {b : ByteArray} (l : List Prf) : ∀ {s : BS}, (s.f q = some (v, b) ∧ q ≤ s.last) → (∀ p ∈ l, p.seq = q → ¬ v < p.view) → (l.foldl bsStep s).f q = some (v, b) ∧ q ≤ (l.foldl bsStep s).last := by
  induction l with
  | nil => intro s hs _; exact hs
  | cons p l ih => intro s hs hl; exact ih (step_keeps hs p (hl p (by simp))) (fun p' h => hl p' (by simp [h]))
theorem step_below {s : BS} {q v : Int} (hs : ∀ b, s.f q = some b → b.1 < v) (p : Prf) (hp : p.seq = q → p.view < v) : ∀ b, (bsStep s p).f q = some b → b.1 < v := by
  unfold bsStep
  split
  · exact hs
  · dsimp only
    intro b
    by_cases e : p.seq = q
    · rw [e]
      cases h : s.f q with
      | none => simp only [if_true]; intro hb; injection hb with hb; subst hb; exact hp e
      | some b' =>
        dsimp only
        split
        · simp only [if_true]; intro hb; injection hb with hb; subst hb; exact hp e
        · rw [h]; intro hb; exact hs b (by rw [h]; exact hb)
    · have e' : ¬ q = p.seq := fun h => e h.symm
      cases s.f p.seq with
      | none => simp only [if_neg e']; exact hs b
      | some b' => dsimp only; split <;> (try simp only [if_neg e']) <;> exact hs b
theorem fold_below {q v : Int} (l : List Prf) : ∀ {s : BS}, (∀ b, s.f q = some b → b.1 < v) → (∀ p ∈ l, p.seq = q → p.view < v) → ∀ b, (l.foldl bsStep s).f q = some b → b.1 < v := by
  induction l with
  | nil => intro s hs _; exact hs
  | cons p l ih => intro s hs hl; exact ih (step_below hs p (hl p (by simp))) (fun p' h => hl p' (by simp [h]))

/-- The proofs of changes, one of which has one proof more. -/
def withOne (l : List Chg) (at_ : Nat) (p : Prf) : List Chg := l.set at_ (match l[at_]? with | some c => ⟨c.frm, c.view, c.prfs ++ [p]⟩ | none => ⟨0, 0, []⟩)
theorem best_chosen (l : List Chg) (at_ : Nat) (hat : at_ < l.length) (seq view : Int) (body : ByteArray) (h0 : 1 ≤ seq) (h1 : seq ≤ 64)
    (hall : ∀ c ∈ l, ∀ p ∈ c.prfs, p.seq = seq → p.view < view) : seq ≤ ((bodies (withOne l at_ ⟨view, seq, body, []⟩)).length : Int) ∧ (bodies (withOne l at_ ⟨view, seq, body, []⟩))[(seq - 1).toNat]? = some body := by
  have hsplit : (withOne l at_ ⟨view, seq, body, []⟩).flatMap (·.prfs) = ((l.take at_).flatMap (·.prfs) ++ l[at_].prfs) ++ ⟨view, seq, body, []⟩ :: (l.drop (at_ + 1)).flatMap (·.prfs) := by
    unfold withOne
    rw [List.getElem?_eq_getElem hat, List.set_eq_take_append_cons_drop, if_pos hat]
    simp
  have hpre : ∀ p ∈ (l.take at_).flatMap (·.prfs) ++ l[at_].prfs, p.seq = seq → p.view < view := by
    intro p hp
    rcases List.mem_append.1 hp with h | h
    · obtain ⟨c, hc, hpc⟩ := List.mem_flatMap.1 h
      exact hall c (List.mem_of_mem_take hc) p hpc
    · exact hall _ (List.getElem_mem hat) p h
  have hpost : ∀ p ∈ (l.drop (at_ + 1)).flatMap (·.prfs), p.seq = seq → ¬ view < p.view := by
    intro p hp e
    obtain ⟨c, hc, hpc⟩ := List.mem_flatMap.1 hp
    have := hall c (List.mem_of_mem_drop hc) p hpc e
    omega
  have hb := fold_below (s := bs0) (q := seq) (v := view) _ (fun b h => by cases h) hpre
  have hfin : (bsAll (withOne l at_ ⟨view, seq, body, []⟩)).f seq = some (view, body) ∧ seq ≤ (bsAll (withOne l at_ ⟨view, seq, body, []⟩)).last := by
    unfold bsAll
    rw [hsplit, List.foldl_append, List.foldl_cons]
    refine fold_keeps _ ?_ hpost
    generalize List.foldl bsStep bs0 _ = s at hb
    unfold bsStep
    rw [if_neg (by dsimp only; omega)]
    refine ⟨?_, by dsimp only; split <;> omega⟩
    dsimp only
    cases h : s.f seq with
    | none => simp
    | some b => simp only []; rw [if_pos (hb b h)]; simp
  have hin : bsIn (bsAll (withOne l at_ ⟨view, seq, body, []⟩)) := bsIn_fold (by simp [bsIn, bs0]) _
  unfold bsIn at hin
  have hlen : (bodies (withOne l at_ ⟨view, seq, body, []⟩)).length = (bsAll (withOne l at_ ⟨view, seq, body, []⟩)).last.toNat := by simp [bodies]
  refine ⟨by rw [hlen]; omega, ?_⟩
  have hlt : (seq - 1).toNat < (bodies (withOne l at_ ⟨view, seq, body, []⟩)).length := by rw [hlen]; omega
  rw [List.getElem?_eq_getElem hlt]
  simp only [bodies, List.getElem_map, List.getElem_range]
  rw [show (((seq - 1).toNat : Nat) : Int) + 1 = seq from by omega]
  simp [bodyAt, hfin.1]
theorem bodies_none (l : List Chg) (h : ∀ c ∈ l, c.prfs = []) : bodies l = [] := by
  have : l.flatMap (·.prfs) = [] := by
    rw [List.flatMap_eq_nil_iff]; exact h
  simp [bodies, bsAll, this, bs0]
end Go.Proofs.Ytgppjcgcpjhjeaa
