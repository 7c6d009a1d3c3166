/- Changes in memory of the call's own, one of whose rows of proofs grows. Plain lemmas on worlds; no walk. -/
import Derived.Test.YtgppjcgcpjhjeaaCh4
namespace Go.Proofs.Ytgppjcgcpjhjeaa
open Go.RowKit

theorem Own.keep2 {α : Type} {T : Ty α} {e : TypeId} {w w' : World} {B : Nat} {S : Nat → Prop} {v : Value} {xs : List α} (h : Own T e w B S v xs)
    (h1 : ∀ b, v.ownBlock = some b → w'.heap[b]? = w.heap[b]?) (h2 : ∀ b, S b → b < w.heap.size → w'.heap[b]? = w.heap[b]?) : Own T e w' B S v xs := by
  obtain ⟨cells, ho, hK⟩ := h
  refine ⟨cells, ⟨ho.1, ?_⟩, fun k x hx => T.mono (hK k x hx) (fun b hS hl => ⟨h2 b hS.1 hl, hS⟩)⟩
  rcases ho.2 with h0 | ⟨g, cap, cur, rfl, hb', hh, r⟩
  · exact .inl h0
  · exact .inr ⟨g, cap, cur, rfl, hb', by rw [h1 g rfl]; exact hh, r⟩

/-- The changes' row, laid open. -/
structure ChgRow (w : World) (B : Nat) (xs : List Chg) (us : List Value) (g : Nat) : Prop where
  base : B ≤ g
  ty : Sty w B 29 g
  froz : ∀ i, w.frozen? ⟨g, i, none⟩ = false
  cells : ∀ k (hk : k < xs.length) (hu : k < us.length), w.cell? ⟨g, k * 3, none⟩ = some (.int .i64 xs[k].frm) ∧ w.cell? ⟨g, k * 3 + 1, none⟩ = some (.int .i64 xs[k].view) ∧ w.cell? ⟨g, k * 3 + 2, none⟩ = some us[k]
  own : ∀ k (hk : k < xs.length) (hu : k < us.length), Own prfT 32 w B (Sty w B 3) us[k] xs[k].prfs
theorem chgRow_open {w : World} {B : Nat} {v : Value} {xs : List Chg} {us : List Value} (h : Own (chgU B) 29 w B (fun b => B ≤ b) v (xs.zip us)) (hul : us.length = xs.length) (hpos : 0 < xs.length) :
    ∃ g cap, v = .slice (some ⟨g, 0, none⟩) xs.length cap ∧ xs.length ≤ cap ∧ cap ≤ maxLen ∧ ChgRow w B xs us g := by
  have hty := h.ty
  obtain ⟨cells, hrow, hK⟩ := h
  rw [List.length_zip, hul, Nat.min_self] at hrow
  rcases hrow.2 with ⟨_, h0⟩ | ⟨g, cap, cur, rfl, hgb, hgh, hgc, hgm, hgs, hgt⟩
  · omega
  · refine ⟨g, cap, rfl, hgc, hgm, hgb, hty g rfl, (box_cells hgh).2.1, fun k hk hu => ?_, fun k hk hu => ?_⟩
    · have hKk := hK k (xs[k], us[k]) (by rw [List.getElem?_zip_eq_some]; exact ⟨List.getElem?_eq_getElem hk, List.getElem?_eq_getElem hu⟩)
      have hc : chunk 3 cells k = [.int .i64 xs[k].frm, .int .i64 xs[k].view, us[k]] := hKk.1
      have hat : ∀ i u, (chunk 3 cells k)[i]? = some u → w.cell? ⟨g, k * 3 + i, none⟩ = some u := fun i u hi => by
        have := hrow.cells (g := g) rfl (k * 3 + i) u (chunk_get hi)
        rw [← this]
        congr 1
        unfold Addr.add
        split <;> simp_all
      rw [hc] at hat
      exact ⟨hat 0 _ rfl, hat 1 _ rfl, hat 2 _ rfl⟩
    · have hKk := hK k (xs[k], us[k]) (by rw [List.getElem?_zip_eq_some]; exact ⟨List.getElem?_eq_getElem hk, List.getElem?_eq_getElem hu⟩)
      exact hKk.2.2.weak (Nat.le_refl _) (fun b hb => hb.2)

theorem cell_set_ne (w : World) {g i j : Nat} (h : i ≠ j) (v : Value) : (w.setCell ⟨g, j, none⟩ v).cell? ⟨g, i, none⟩ = w.cell? ⟨g, i, none⟩ := by
  unfold World.cell? World.setCell
  simp only [Array.getElem?_modify]
  cases hh : w.heap[g]? with
  | none => simp
  | some o => cases o <;> simp [Ne.symm h]
theorem cell_set_eq (w : World) {g i : Nat} {u v : Value} (h : w.cell? ⟨g, i, none⟩ = some u) : (w.setCell ⟨g, i, none⟩ v).cell? ⟨g, i, none⟩ = some v := by
  unfold World.cell? World.setCell at *
  simp only [Array.getElem?_modify]
  cases hh : w.heap[g]? with
  | none => simp [hh] at h
  | some o =>
    cases o with
    | cells c e fr =>
      simp [hh] at h
      simp [(Array.getElem?_eq_some_iff.1 h).1]
    | _ => simp [hh] at h

/-- One row of proofs has grown, and its slice was stored back. -/
theorem chgRow_grown {w3 w3' w4 : World} {B g j : Nat} {xs : List Chg} {us : List Value} {v4 : Value} {p : Prf} (R : ChgRow w3 B xs us g) (hul : us.length = xs.length) (hD : Dist us) (hj : j < xs.length) (hju : j < us.length)
    (h3 : Below w3.heap.size w3 w3') (HO4 : Own prfT 32 w4 B (Sty w3' B 3) v4 (xs[j].prfs ++ [p])) (hg4 : w3'.grownBy w4 us[j].ownBlock) :
    Rd chgT (w4.setCell ⟨g, j * 3 + 2, none⟩ v4) (fun b => B ≤ b) (some ⟨g, 0, none⟩) (withOne xs j p) := by
  have hgl := R.ty.lt
  have hz3 := h3.size
  have hz4 := hg4.size
  have hus : ∀ b, us[j].ownBlock = some b → Sty w3 B 32 b := fun b hb => (R.own j hj hju).ty b hb
  have keep4 : ∀ b e, Sty w3 B e b → e ≠ 32 → w4.heap[b]? = w3.heap[b]? := fun b e hb he => by
    rw [hg4.block b (by have := hb.lt; omega) (fun e' => (hb.ne (hus b e'.symm) he) rfl), h3.block b hb.lt]
  have keep4' : ∀ b, Sty w3' B 3 b → w4.heap[b]? = w3'.heap[b]? := fun b hb => hg4.block b hb.lt (fun e' => (hb.ne ((hus b e'.symm).below h3) (by decide)) rfl)
  have hg4e : w4.heap[g]? = w3.heap[g]? := keep4 g 29 R.ty (by decide)
  have ty4 : Sty w4 B 29 g := R.ty.keep hg4e
  have set5 : ∀ b, b ≠ g → (w4.setCell ⟨g, j * 3 + 2, none⟩ v4).heap[b]? = w4.heap[b]? := fun b hb => box_set_ne _ hb _
  have cellg : ∀ i, w4.cell? ⟨g, i, none⟩ = w3.cell? ⟨g, i, none⟩ := fun i => World.cell?_of_block (w := w3) (a := ⟨g, i, none⟩) hg4e
  intro k x hx
  have hk : k < xs.length := by
    have := (List.getElem?_eq_some_iff.1 hx).1
    simpa [withOne] using this
  have hku : k < us.length := by omega
  obtain ⟨c0, c1, c2⟩ := R.cells k hk hku
  have hgs : g < (w4.setCell ⟨g, j * 3 + 2, none⟩ v4).heap.size := by simp; omega
  by_cases e : k = j
  · subst e
    have hx' : x = ⟨xs[k].frm, xs[k].view, xs[k].prfs ++ [p]⟩ := by
      unfold withOne at hx
      rw [List.getElem?_set_self hk, List.getElem?_eq_getElem hk] at hx
      injection hx with hx
      exact hx.symm
    subst hx'
    have HO5 : Own prfT 32 (w4.setCell ⟨g, k * 3 + 2, none⟩ v4) B (Sty w3' B 3) v4 (xs[k].prfs ++ [p]) :=
      HO4.keep2 (fun b hb => set5 b ((HO4.ty b hb).ne ty4 (by decide))) (fun b hb _ => set5 b ((hb.keep (keep4' b hb)).ne ty4 (by decide)))
    refine ⟨g, 0, [.int .i64 xs[k].frm, .int .i64 xs[k].view, v4], rfl, R.base, hgs, ⟨v4, rfl, HO5.sl.sub fun b hb _ => ?_⟩, fun i u hi => ?_⟩
    · rcases hb with h | h
      · exact h
      · exact h.1
    · show (w4.setCell ⟨g, k * 3 + 2, none⟩ v4).cell? ⟨g, 0 + k * 3 + i, none⟩ = some u
      rw [Nat.zero_add]
      match i, hi with
      | 0, hi => rw [cell_set_ne _ (by omega), cellg, Nat.add_zero, c0]; exact hi
      | 1, hi => rw [cell_set_ne _ (by omega), cellg, c1]; exact hi
      | 2, hi => rw [cell_set_eq _ (by rw [cellg]; exact c2)]; exact hi
  · have hx' : x = xs[k] := by
      unfold withOne at hx
      rw [List.getElem?_set_ne (fun h => e h.symm), List.getElem?_eq_getElem hk] at hx
      injection hx with hx
      exact hx.symm
    subst hx'
    have HOk := R.own k hk hku
    have hne : ∀ b, us[k].ownBlock = some b → us[j].ownBlock ≠ some b := fun b hb hb' => by
      rcases Nat.lt_or_ge k j with h | h
      · exact hD k j b h (by rw [List.getElem?_eq_getElem hku]; exact hb) (by rw [List.getElem?_eq_getElem hju]; exact hb')
      · exact hD j k b (by omega) (by rw [List.getElem?_eq_getElem hju]; exact hb') (by rw [List.getElem?_eq_getElem hku]; exact hb)
    have HO5 : Own prfT 32 (w4.setCell ⟨g, j * 3 + 2, none⟩ v4) B (Sty w3 B 3) us[k] xs[k].prfs :=
      HOk.keep2 (fun b hb => by
        have ht := HOk.ty b hb
        rw [set5 b (ht.ne R.ty (by decide)), hg4.block b (by have := ht.lt; omega) (fun e' => hne b hb e'.symm), h3.block b ht.lt])
        (fun b hb _ => by rw [set5 b (hb.ne R.ty (by decide)), keep4 b 3 hb (by decide)])
    refine ⟨g, 0, [.int .i64 xs[k].frm, .int .i64 xs[k].view, us[k]], rfl, R.base, hgs, ⟨us[k], rfl, HO5.sl.sub fun b hb _ => ?_⟩, fun i u hi => ?_⟩
    · rcases hb with h | h
      · exact h
      · exact h.1
    · show (w4.setCell ⟨g, j * 3 + 2, none⟩ v4).cell? ⟨g, 0 + k * 3 + i, none⟩ = some u
      rw [Nat.zero_add]
      match i, hi with
      | 0, hi => rw [cell_set_ne _ (by omega), cellg, Nat.add_zero, c0]; exact hi
      | 1, hi => rw [cell_set_ne _ (by omega), cellg, c1]; exact hi
      | 2, hi => rw [cell_set_ne _ (by omega), cellg, c2]; exact hi

theorem chgU_sl {w : World} {B : Nat} {v : Value} {xs : List Chg} {us : List Value} (h : Own (chgU B) 29 w B (fun b => B ≤ b) v (xs.zip us)) (hul : us.length = xs.length) : Sl chgT w (fun b => B ≤ b) v xs := by
  obtain ⟨A, c, e, h1, h2, h3, hR⟩ := h.sl
  rw [List.length_zip, hul, Nat.min_self] at e h1
  refine ⟨A, c, e, h1, h2, h3, fun k x hx => ?_⟩
  have hk := (List.getElem?_eq_some_iff.1 hx).1
  have hku : k < us.length := by omega
  obtain ⟨b, off, cs, e1, hS, hb, ⟨hcs, hu, hO⟩, hc⟩ := hR k (x, us[k]) (by rw [List.getElem?_zip_eq_some]; exact ⟨hx, List.getElem?_eq_getElem hku⟩)
  refine ⟨b, off, cs, e1, by simpa using hS, hb, ⟨us[k], hcs, hO.sl.sub fun q hq _ => ?_⟩, hc⟩
  rcases hq with h | h
  · exact h
  · exact h.2.1
end Go.Proofs.Ytgppjcgcpjhjeaa
