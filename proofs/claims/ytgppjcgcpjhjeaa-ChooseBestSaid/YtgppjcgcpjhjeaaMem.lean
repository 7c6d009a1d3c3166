/- Words of this proof: what a slice of Go's reads as in a world, and a slice that the call itself has made. Plain definitions and lemmas; no program in sight. -/
import Derived.WalkKit
import Derived.WalkSpells
import Derived.WalkLawsBesides
import Derived.Maps.AppendAt
import Derived.Laws.AppendOwnNone
import Derived.Laws.OwnMore
import Derived.Deep.LoopGhost
import Derived.Deep.QuietTactic
import Derived.BigQuiet
import Derived.Lib.Hide
import Derived.Deep.RegionHeld3
import Derived.Deep.AppendLies
namespace Go.Proofs.Ytgppjcgcpjhjeaa
open Go.RowKit

/-- A fact that the walk leaves alone. -/
structure Asd (p : Prop) : Prop where mk :: (out : p)

/-- How a Lean value lies in the cells of a variable of Go's; what it leads to lies in blocks of S. -/
structure Ty (α : Type) where
  sz : Nat
  K : World → (Nat → Prop) → α → List Value → Prop
  len : ∀ {w S x cs}, K w S x cs → cs.length = sz
  one : ∀ {w S x cs}, K w S x cs → ∀ u ∈ cs, u.oneCell' = true
  mono : ∀ {w w' : World} {S S' : Nat → Prop} {x cs}, K w S x cs → (∀ b, S b → b < w.heap.size → w'.heap[b]? = w.heap[b]? ∧ S' b) → K w' S' x cs

theorem lt_of_heap {w w' : World} {b : Nat} (h : w'.heap[b]? = w.heap[b]?) (hb : b < w.heap.size) : b < w'.heap.size := by
  rw [Array.getElem?_eq_getElem hb] at h
  exact (Array.getElem?_eq_some_iff.1 h).1

/-- What a slice's cells read as. -/
def Rd {α : Type} (T : Ty α) (w : World) (S : Nat → Prop) (A : Option Addr) (xs : List α) : Prop :=
  ∀ k x, xs[k]? = some x → ∃ b off cs, A = some ⟨b, off, none⟩ ∧ S b ∧ b < w.heap.size ∧ T.K w S x cs ∧ ∀ i u, cs[i]? = some u → w.cell? ⟨b, off + k * T.sz + i, none⟩ = some u

theorem Rd.nil {α : Type} (T : Ty α) (w : World) (S : Nat → Prop) (A : Option Addr) : Rd T w S A [] := by
  intro k x h; simp at h

theorem Rd.mono {α : Type} {T : Ty α} {w w' : World} {S S' : Nat → Prop} {A : Option Addr} {xs : List α} (h : Rd T w S A xs)
    (hs : ∀ b, S b → b < w.heap.size → w'.heap[b]? = w.heap[b]? ∧ S' b) : Rd T w' S' A xs := by
  intro k x hx
  obtain ⟨b, off, cs, e, hS, hb, hK, hc⟩ := h k x hx
  obtain ⟨e1, e2⟩ := hs b hS hb
  refine ⟨b, off, cs, e, e2, lt_of_heap e1 hb, T.mono hK hs, fun i u hi => ?_⟩
  rw [World.cell?_of_block (w := w) e1]
  exact hc i u hi

/-- A slice value that reads as a list. -/
def Sl {α : Type} (T : Ty α) (w : World) (S : Nat → Prop) (v : Value) (xs : List α) : Prop :=
  ∃ A c, v = .slice A xs.length c ∧ xs.length ≤ c ∧ c ≤ maxLen ∧ (A = none → c = 0) ∧ Rd T w S A xs

theorem Sl.mono {α : Type} {T : Ty α} {w w' : World} {S S' : Nat → Prop} {v : Value} {xs : List α} (h : Sl T w S v xs)
    (hs : ∀ b, S b → b < w.heap.size → w'.heap[b]? = w.heap[b]? ∧ S' b) : Sl T w' S' v xs := by
  obtain ⟨A, c, e, h1, h2, h4, h3⟩ := h
  exact ⟨A, c, e, h1, h2, h4, h3.mono hs⟩

theorem Sl.nil {α : Type} (T : Ty α) (w : World) (S : Nat → Prop) : Sl T w S (.slice none 0 0) [] := ⟨none, 0, rfl, Nat.le_refl _, by simp [maxLen], fun _ => rfl, Rd.nil T w S none⟩

/-- Nothing that was there has turned. -/
theorem below_mono {w w' : World} {S : Nat → Prop} (h : Below w.heap.size w w') : ∀ b, S b → b < w.heap.size → w'.heap[b]? = w.heap[b]? ∧ S b :=
  fun b hS hb => ⟨h.block b hb, hS⟩

theorem Sl.below {α : Type} {T : Ty α} {w w' : World} {S : Nat → Prop} {v : Value} {xs : List α} (h : Sl T w S v xs) (hb : Below w.heap.size w w') : Sl T w' S v xs := h.mono (below_mono hb)
theorem Rd.below {α : Type} {T : Ty α} {w w' : World} {S : Nat → Prop} {A : Option Addr} {xs : List α} (h : Rd T w S A xs) (hb : Below w.heap.size w w') : Rd T w' S A xs := h.mono (below_mono hb)
theorem Rd.any {α : Type} {T : Ty α} {w : World} {S : Nat → Prop} {A : Option Addr} {xs : List α} (h : Rd T w S A xs) : Rd T w (fun _ => True) A xs := h.mono fun _ _ _ => ⟨rfl, trivial⟩
theorem Sl.any {α : Type} {T : Ty α} {w : World} {S : Nat → Prop} {v : Value} {xs : List α} (h : Sl T w S v xs) : Sl T w (fun _ => True) v xs := h.mono fun _ _ _ => ⟨rfl, trivial⟩

/-- Kinds of one cell. -/
def oneT {α : Type} (enc : α → Value) (h1 : ∀ x, (enc x).oneCell' = true) : Ty α where
  sz := 1
  K := fun _ _ x cs => cs = [enc x]
  len := fun h => by rw [h]; rfl
  one := fun h u hu => by rw [h] at hu; simp at hu; subst hu; exact h1 _
  mono := fun h _ => h
def intT : Ty Int := oneT (.int .i64) (fun _ => rfl)
def strT : Ty ByteArray := oneT .string (fun _ => rfl)
def bytT : Ty UInt8 := oneT (fun x => .int .u8 x.toNat) (fun _ => rfl)
def boolT : Ty Bool := oneT .bool (fun _ => rfl)
def slT {α : Type} (T : Ty α) : Ty (List α) where
  sz := 1
  K := fun w S xs cs => ∃ v, cs = [v] ∧ Sl T w S v xs
  len := fun ⟨v, h, _⟩ => by rw [h]; rfl
  one := fun ⟨v, h, A, c, e, _⟩ u hu => by subst h; simp at hu; subst hu; subst e; rfl
  mono := fun ⟨v, h, h2⟩ hs => ⟨v, h, h2.mono hs⟩

/-- One element, laid open. -/
theorem Rd.get {α : Type} {T : Ty α} {w : World} {S : Nat → Prop} {A : Option Addr} {xs : List α} (h : Rd T w S A xs) {k : Nat} (hk : k < xs.length) :
    ∃ b off cs, A = some ⟨b, off, none⟩ ∧ S b ∧ b < w.heap.size ∧ T.K w S xs[k] cs ∧ ∀ i u, cs[i]? = some u → w.cell? ⟨b, off + k * T.sz + i, none⟩ = some u :=
  h k xs[k] (List.getElem?_eq_getElem hk)

/-- One-cell elements: the cell itself. -/
theorem Rd.cell {α : Type} {enc : α → Value} {h1 : ∀ x, (enc x).oneCell' = true} {w : World} {S : Nat → Prop} {A : Option Addr} {xs : List α} (h : Rd (oneT enc h1) w S A xs) {k : Nat} (hk : k < xs.length) :
    ∃ b off, A = some ⟨b, off, none⟩ ∧ S b ∧ b < w.heap.size ∧ w.cell? ⟨b, off + k, none⟩ = some (enc xs[k]) := by
  obtain ⟨b, off, cs, e, hS, hb, hK, hc⟩ := h.get hk
  obtain rfl : cs = [enc xs[k]] := hK
  have := hc 0 _ rfl
  exact ⟨b, off, e, hS, hb, by simpa [oneT] using this⟩

/-! ### A slice that the call itself has made -/
def chunk (sz : Nat) (cells : List Value) (k : Nat) : List Value := (cells.drop (k * sz)).take sz
theorem chunk_left {sz n k : Nat} {cells news : List Value} (hl : cells.length = n * sz) (hk : k < n) : chunk sz (cells ++ news) k = chunk sz cells k := by
  unfold chunk
  have h1 : k * sz + sz ≤ n * sz := by rw [← Nat.succ_mul]; exact Nat.mul_le_mul_right _ hk
  rw [List.drop_append_of_le_length (by omega), List.take_append_of_le_length (by rw [List.length_drop]; omega)]
theorem chunk_right {sz n k : Nat} {cells news : List Value} (hl : cells.length = n * sz) : chunk sz (cells ++ news) (n + k) = chunk sz news k := by
  unfold chunk
  rw [List.drop_append, List.drop_of_length_le (by rw [hl, Nat.add_mul]; omega), List.nil_append, hl, Nat.add_mul, Nat.add_sub_cancel_left]
theorem chunk_get {sz k i : Nat} {cells : List Value} {u : Value} (h : (chunk sz cells k)[i]? = some u) : cells[k * sz + i]? = some u := by
  unfold chunk at h
  rw [List.getElem?_take] at h
  split at h
  · rwa [List.getElem?_drop] at h
  · cases h
theorem chunk_one {sz : Nat} {cs : List Value} (h : cs.length = sz) : chunk sz cs 0 = cs := by
  unfold chunk; simp [← h]

/-- A row of the call's own (from block B on), its elements leading to S alone, and never to the row's own block. -/
def Own {α : Type} (T : Ty α) (e : TypeId) (w : World) (B : Nat) (S : Nat → Prop) (v : Value) (xs : List α) : Prop :=
  ∃ cells, w.ownsRow B e T.sz v xs.length cells ∧ ∀ k x, xs[k]? = some x → T.K w (fun b => S b ∧ some b ≠ v.ownBlock) x (chunk T.sz cells k)

theorem ownsRow_nil (w : World) (B e sz : Nat) : w.ownsRow B e sz (.slice none 0 0) 0 [] := ⟨by simp, .inl ⟨rfl, rfl⟩⟩
theorem Own.nil {α : Type} (T : Ty α) (e : TypeId) (w : World) (B : Nat) (S : Nat → Prop) : Own T e w B S (.slice none 0 0) [] := ⟨[], ownsRow_nil .., by intro k x h; simp at h⟩

/-- The row's block, if there is one, is the call's own. -/
theorem Own.blk {α : Type} {T : Ty α} {e : TypeId} {w : World} {B : Nat} {S : Nat → Prop} {v : Value} {xs : List α} (h : Own T e w B S v xs) (k : Nat) (hk : v.ownBlock = some k) : B ≤ k ∧ k < w.heap.size := by
  obtain ⟨cells, ho, _⟩ := h
  rcases ho.2 with ⟨rfl, _⟩ | ⟨g, cap, cur, rfl, hb, hh, _⟩
  · simp [Value.ownBlock] at hk
  · have : g = k := by simpa [Value.ownBlock] using hk
    subst this
    exact ⟨hb, (Array.getElem?_eq_some_iff.1 hh).1⟩

theorem Own.sl {α : Type} {T : Ty α} {e : TypeId} {w : World} {B : Nat} {S : Nat → Prop} {v : Value} {xs : List α} (h : Own T e w B S v xs) : Sl T w (fun b => B ≤ b ∨ S b) v xs := by
  obtain ⟨cells, ho, hK⟩ := h
  have hl := ho.1
  rcases ho.2 with ⟨rfl, h0⟩ | ⟨g, cap, cur, rfl, hb, hh, h1, h2, h3, h4⟩
  · have : xs = [] := List.eq_nil_of_length_eq_zero h0
    subst this
    exact Sl.nil ..
  · refine ⟨_, cap, rfl, h1, h2, (fun e => by cases e), fun k x hx => ⟨g, 0, chunk T.sz cells k, rfl, .inl hb, (Array.getElem?_eq_some_iff.1 hh).1, T.mono (hK k x hx) (fun b hS _ => ⟨rfl, .inr hS.1⟩), fun i u hi => ?_⟩⟩
    have := ho.cells (g := g) rfl (k * T.sz + i) u (chunk_get hi)
    rw [Nat.zero_add]
    rw [← this]
    congr 1
    unfold Addr.add
    split <;> simp_all

/-- The row through a step that leaves its block, and what its elements lead to, alone. -/
theorem Own.keep {α : Type} {T : Ty α} {e : TypeId} {w w' : World} {B : Nat} {S : Nat → Prop} {v : Value} {xs : List α} (h : Own T e w B S v xs)
    (hb : ∀ b, b < w.heap.size → (B ≤ b ∨ S b) → w'.heap[b]? = w.heap[b]?) : Own T e w' B S v xs := by
  have hblk := h.blk
  obtain ⟨cells, ho, hK⟩ := h
  refine ⟨cells, ⟨ho.1, ?_⟩, fun k x hx => T.mono (hK k x hx) (fun b hS hl => ⟨hb b hl (.inr hS.1), hS⟩)⟩
  rcases ho.2 with h0 | ⟨g, cap, cur, rfl, hb', hh, r⟩
  · exact .inl h0
  · have hg := hblk g rfl
    exact .inr ⟨g, cap, cur, rfl, hb', by rw [hb g hg.2 (.inl hg.1)]; exact hh, r⟩
theorem Own.below {α : Type} {T : Ty α} {e : TypeId} {w w' : World} {B : Nat} {S : Nat → Prop} {v : Value} {xs : List α} (h : Own T e w B S v xs) (hb : Below w.heap.size w w') : Own T e w' B S v xs :=
  h.keep fun b hl _ => hb.block b hl

/-- Elements more, at the law's own words. -/
theorem Own.app {α : Type} {T : Ty α} {e : TypeId} {w w' : World} {B : Nat} {S : Nat → Prop} {v v' : Value} {xs ys : List α} {cells news : List Value}
    (ho : w.ownsRow B e T.sz v xs.length cells) (hK : ∀ k x, xs[k]? = some x → T.K w (fun b => S b ∧ some b ≠ v.ownBlock) x (chunk T.sz cells k))
    (hx : ∀ k y, ys[k]? = some y → T.K w (fun b => S b ∧ some b ≠ v.ownBlock) y (chunk T.sz news k)) (ho' : w'.ownsRow B e T.sz v' (xs.length + ys.length) (cells ++ news)) (hg : w.grownBy w' v.ownBlock)
    (hat : v'.ownBlock = v.ownBlock ∨ v'.ownBlock = some w.heap.size ∨ v'.ownBlock = none) : Own T e w' B S v' (xs ++ ys) := by
  have hm : ∀ b, (S b ∧ some b ≠ v.ownBlock) → b < w.heap.size → w'.heap[b]? = w.heap[b]? ∧ (S b ∧ some b ≠ v'.ownBlock) := fun b hS hb =>
    ⟨hg.block b hb hS.2, hS.1, fun e => by
      rcases hat with h | h | h
      · exact hS.2 (by rw [e, h])
      · rw [h] at e; injection e with e; omega
      · rw [h] at e; cases e⟩
  refine ⟨cells ++ news, by simpa using ho', fun k y hy => ?_⟩
  rcases Nat.lt_or_ge k xs.length with hk | hk
  · rw [List.getElem?_append_left hk] at hy
    rw [chunk_left ho.1 hk]
    exact T.mono (hK k y hy) hm
  · rw [List.getElem?_append_right hk] at hy
    obtain ⟨j, rfl⟩ : ∃ j, k = xs.length + j := ⟨k - xs.length, by omega⟩
    rw [chunk_right ho.1]
    rw [Nat.add_sub_cancel_left] at hy
    exact T.mono (hx j y hy) hm

theorem Own.weak {α : Type} {T : Ty α} {e : TypeId} {w : World} {B B' : Nat} {S S' : Nat → Prop} {v : Value} {xs : List α} (h : Own T e w B S v xs) (hB : B' ≤ B) (hS : ∀ b, S b → S' b) : Own T e w B' S' v xs := by
  obtain ⟨cells, ⟨hl, ho⟩, hK⟩ := h
  refine ⟨cells, ⟨hl, ?_⟩, fun k x hx => T.mono (hK k x hx) fun b hb _ => ⟨rfl, hS b hb.1, hb.2⟩⟩
  rcases ho with h0 | ⟨g, cap, cur, e1, hb, r⟩
  · exact .inl h0
  · exact .inr ⟨g, cap, cur, e1, by omega, r⟩
/-- What the program says of a slice type and its elements. -/
structure Elt (P : Program) (t e sz bytes : Nat) : Prop where
  ht : P.underlying t = some (.slice e)
  hi : ∃ i z, P.info? e = some i ∧ i.zero = some z ∧ i.size = sz ∧ i.bytes = bytes ∧ z.cells.size = sz
  pos : 0 < sz
theorem Elt.mk' {P : Program} {t e sz bytes : Nat} {z : Value} (ht : P.underlying t = some (.slice e)) (hi : (P.info? e).map (fun i => (i.zero, i.size, i.bytes)) = some (some z, sz, bytes)) (hz : z.cells.size = sz) (pos : 0 < sz) : Elt P t e sz bytes := by
  refine ⟨ht, ?_, pos⟩
  cases h : P.info? e with
  | none => rw [h] at hi; cases hi
  | some i =>
    rw [h] at hi
    simp at hi
    exact ⟨i, z, rfl, hi.1, hi.2.1, hi.2.2, hz⟩

theorem at3 {p q r : Prop} (h : p ∨ q) : p ∨ q ∨ r := by rcases h with h | h <;> simp [h]
section
variable {P : Program} {ops : Array Oper} {Q : Exit → Act → World → Prop} {a : Act} {w : World} {rest : List Oper} {o : Oper} {α : Type}

/-- 'append(s, x)', s a row of the call's own, x one element in cells known. -/
theorem wpList_app1 (hgd : o.guard = none) (s x : Operand) (t e : Nat) (ho : o.op = .call { callee := .builtin .append, args := #[s, x], argTypes := #[t, t] })
    (T : Ty α) (bytes : Nat) (E : Elt P t e T.sz bytes) (B : Nat) (S : Nat → Prop) (v : Value) (xs : List α) (hs : a.eval s = v) (hown : Own T e w B S v xs)
    (ad : Addr) (c : Nat) (y : α) (news : List Value) (hx : a.eval x = .slice (some ad) 1 c) (hnews : ∀ j u, news[j]? = some u → w.cell? (ad.add j) = some u)
    (hK : T.K w (fun b => S b ∧ some b ≠ v.ownBlock) y news) (h63 : xs.length + 1 ≤ maxLen) (hbytes : (xs.length + 1) * bytes ≤ 140737488355328) (hB : B ≤ w.heap.size)
    (h : ∀ v' w', Own T e w' B S v' (xs ++ [y]) → w.grownBy w' v.ownBlock → (v'.ownBlock = v.ownBlock ∨ v'.ownBlock = some w.heap.size) → wpList P ops Q rest (a.put o.dst v') w') : wpList P ops Q (o :: rest) a w := by
  obtain ⟨cells, hrow, hKs⟩ := hown
  obtain ⟨ht, ⟨i, z, hi, hz, hsize, hby, hzs⟩, pos⟩ := E
  have hl := T.len hK
  refine wpList_append_own_at w hgd s x t ho B e i z T.sz bytes ht hi hz hsize hby hzs pos v xs.length cells hs hrow ad 1 c news hx (by omega) hnews (T.one hK) h63 hbytes hB fun v' w' h1 h2 _ h4 => h v' w' ?_ h2 h4
  exact Own.app (ys := [y]) hrow hKs (fun k y' hy => by
    have : k = 0 := by
      rcases Nat.eq_zero_or_pos k with h | h
      · exact h
      · rw [List.getElem?_eq_none (by simp; omega)] at hy; cases hy
    subst this
    simp at hy; subst hy
    rwa [chunk_one hl]) h1 h2 (at3 h4)
end

section
variable {P : Program} {ops : Array Oper} {Q : Exit → Act → World → Prop} {a : Act} {w : World} {o : Oper} {α : Type}
/-- The same at a step of a region that draws its order. -/
theorem step_app1 {K : Act → World → Prop} {E0 : Prop} (hgd : o.guard = none) (s x : Operand) (t e : Nat) (ho : o.op = .call { callee := .builtin .append, args := #[s, x], argTypes := #[t, t] })
    (T : Ty α) (bytes : Nat) (E : Elt P t e T.sz bytes) (B : Nat) (S : Nat → Prop) (v : Value) (xs : List α) (hs : a.eval s = v) (hown : Own T e w B S v xs)
    (ad : Addr) (c : Nat) (y : α) (news : List Value) (hx : a.eval x = .slice (some ad) 1 c) (hnews : ∀ j u, news[j]? = some u → w.cell? (ad.add j) = some u)
    (hK : T.K w (fun b => S b ∧ some b ≠ v.ownBlock) y news) (h63 : xs.length + 1 ≤ maxLen) (hbytes : (xs.length + 1) * bytes ≤ 140737488355328) (hB : B ≤ w.heap.size)
    (h : ∀ v' w', Own T e w' B S v' (xs ++ [y]) → w.grownBy w' v.ownBlock → (v'.ownBlock = v.ownBlock ∨ v'.ownBlock = some w.heap.size) → K (a.put o.dst v') w') :
    if Region.wanted o (yielded ops a.tmps) = true then Oper.wp P o a w K Q else E0 := by
  have hw : Region.wanted o (yielded ops a.tmps) = true := by simp [Region.wanted, hgd]
  rw [if_pos hw]
  obtain ⟨cells, hrow, hKs⟩ := hown
  obtain ⟨ht, ⟨i, z, hi, hz, hsize, hby, hzs⟩, pos⟩ := E
  have hl := T.len hK
  obtain ⟨v', w', hr, h1, h2, _, h4⟩ := run_append_own_at (P := P) w B t o.type e i z T.sz bytes ht hi hz hsize hby hzs pos v xs.length cells hrow ad 1 c news (by omega) hnews (T.one hK) h63 hbytes hB
  unfold Oper.wp execOp
  simp only [ho, resolve, invoke, builtin, Sem.run_bind, Sem.run_pure, Result.andThen_ok, List.map_toArray, List.map_cons, List.map_nil, hs, hx, hr]
  refine h v' w' ?_ h2 h4
  exact Own.app (ys := [y]) hrow hKs (fun k y' hy => by
    have : k = 0 := by
      rcases Nat.eq_zero_or_pos k with h | h
      · exact h
      · rw [List.getElem?_eq_none (by simp; omega)] at hy; cases hy
    subst this
    simp at hy; subst hy
    rwa [chunk_one hl]) h1 h2 (at3 h4)
end

/-- All cells of a slice that reads as a list. -/
theorem Rd.cells {α : Type} {T : Ty α} {w : World} {S : Nat → Prop} {A : Option Addr} {xs : List α} (h : Rd T w S A xs) (hpos : 0 < xs.length) :
    ∃ b off news, A = some ⟨b, off, none⟩ ∧ S b ∧ b < w.heap.size ∧ news.length = xs.length * T.sz ∧ (∀ j u, news[j]? = some u → w.cell? ⟨b, off + j, none⟩ = some u) ∧ (∀ k x, xs[k]? = some x → T.K w S x (chunk T.sz news k)) ∧ ∀ u ∈ news, u.oneCell' = true := by
  obtain ⟨b, off, _, e, hS, hb, _, _⟩ := h.get hpos
  have hall : ∀ k x, xs[k]? = some x → ∃ cs, T.K w S x cs ∧ ∀ i u, cs[i]? = some u → w.cell? ⟨b, off + k * T.sz + i, none⟩ = some u := by
    intro k x hx
    obtain ⟨b', off', cs, e', _, _, hK, hc⟩ := h k x hx
    rw [e] at e'
    injection e' with e'
    injection e' with e1 e2
    subst e1; subst e2
    exact ⟨cs, hK, hc⟩
  refine ⟨b, off, (List.range (xs.length * T.sz)).map fun j => (w.cell? ⟨b, off + j, none⟩).getD undef, e, hS, hb, by simp, ?_, ?_, ?_⟩
  case refine_1 =>
    intro j u hj
    rcases Nat.lt_or_ge j (xs.length * T.sz) with hlt | hge
    · rw [List.getElem?_map, List.getElem?_range hlt] at hj
      have hz : 0 < T.sz := by
        rcases Nat.eq_zero_or_pos T.sz with h0 | h0
        · rw [h0] at hlt; simp at hlt
        · exact h0
      have hk : j / T.sz < xs.length := by rw [Nat.div_lt_iff_lt_mul hz]; exact hlt
      obtain ⟨cs, hK, hc⟩ := hall (j / T.sz) xs[j / T.sz] (List.getElem?_eq_getElem hk)
      have hi : j % T.sz < cs.length := by rw [T.len hK]; exact Nat.mod_lt _ hz
      have := hc (j % T.sz) cs[j % T.sz] (List.getElem?_eq_getElem hi)
      rw [show off + j / T.sz * T.sz + j % T.sz = off + j from by have := Nat.div_add_mod' j T.sz; omega] at this
      simp only [Option.map_some, this, Option.getD_some] at hj
      rw [this]; exact hj
    · rw [List.getElem?_eq_none (by simp; exact hge)] at hj; cases hj
  case refine_2 =>
    intro k x hx
    obtain ⟨cs, hK, hc⟩ := hall k x hx
    have hk : k < xs.length := (List.getElem?_eq_some_iff.1 hx).1
    have : chunk T.sz ((List.range (xs.length * T.sz)).map fun j => (w.cell? ⟨b, off + j, none⟩).getD undef) k = cs := by
      have hle : k * T.sz + T.sz ≤ xs.length * T.sz := by rw [← Nat.succ_mul]; exact Nat.mul_le_mul_right _ hk
      unfold chunk
      refine List.ext_getElem? fun i => ?_
      rw [List.getElem?_take]
      split
      · rename_i hi
        rw [List.getElem?_drop, List.getElem?_map, List.getElem?_range (by omega)]
        have hi' : i < cs.length := by rw [T.len hK]; exact hi
        have := hc i cs[i] (List.getElem?_eq_getElem hi')
        rw [Nat.add_assoc] at this
        rw [List.getElem?_eq_getElem hi']
        simp [this]
      · rename_i hi
        rw [List.getElem?_eq_none (by rw [T.len hK]; omega)]
    rw [this]
    exact hK
  case refine_3 =>
    intro u hu
    obtain ⟨j, hj, rfl⟩ := List.mem_map.1 hu
    have hlt : j < xs.length * T.sz := List.mem_range.1 hj
    have hz : 0 < T.sz := by
      rcases Nat.eq_zero_or_pos T.sz with h0 | h0
      · rw [h0] at hlt; simp at hlt
      · exact h0
    have hk : j / T.sz < xs.length := by rw [Nat.div_lt_iff_lt_mul hz]; exact hlt
    obtain ⟨cs, hK, hc⟩ := hall (j / T.sz) xs[j / T.sz] (List.getElem?_eq_getElem hk)
    have hi : j % T.sz < cs.length := by rw [T.len hK]; exact Nat.mod_lt _ hz
    have := hc (j % T.sz) cs[j % T.sz] (List.getElem?_eq_getElem hi)
    rw [show off + j / T.sz * T.sz + j % T.sz = off + j from by have := Nat.div_add_mod' j T.sz; omega] at this
    rw [this]
    exact T.one hK _ (List.getElem_mem hi)

section
variable {P : Program} {ops : Array Oper} {Q : Exit → Act → World → Prop} {a : Act} {w : World} {rest : List Oper} {o : Oper} {α : Type}
/-- 'append(s, ys...)', s a row of the call's own, ys a slice that reads as a list. -/
theorem wpList_apps (hgd : o.guard = none) (s x : Operand) (t e : Nat) (ho : o.op = .call { callee := .builtin .append, args := #[s, x], argTypes := #[t, t] })
    (T : Ty α) (bytes : Nat) (E : Elt P t e T.sz bytes) (B : Nat) (S : Nat → Prop) (v : Value) (xs : List α) (hs : a.eval s = v) (hown : Own T e w B S v xs)
    (A : Option Addr) (c : Nat) (ys : List α) (hx : a.eval x = .slice A ys.length c) (hn : A = none → c = 0) (S0 : Nat → Prop) (hrd : Rd T w S0 A ys) (hT : ∀ y cs, T.K w S0 y cs → T.K w (fun b => S b ∧ some b ≠ v.ownBlock) y cs)
    (h63 : xs.length + ys.length ≤ maxLen) (hbytes : (xs.length + ys.length) * bytes ≤ 140737488355328) (hB : B ≤ w.heap.size)
    (h : ∀ v' w', Own T e w' B S v' (xs ++ ys) → w.grownBy w' v.ownBlock → (v'.ownBlock = v.ownBlock ∨ v'.ownBlock = some w.heap.size) → wpList P ops Q rest (a.put o.dst v') w') : wpList P ops Q (o :: rest) a w := by
  have E' := E
  obtain ⟨cells, hrow, hKs⟩ := hown
  obtain ⟨ht, ⟨i, z, hi, hz, hsize, hby, hzs⟩, pos⟩ := E
  rcases Nat.eq_zero_or_pos ys.length with h0 | h0
  · have : ys = [] := List.eq_nil_of_length_eq_zero h0
    subst this
    cases A with
    | none =>
      obtain rfl := hn rfl
      refine wpList_append_own_none hgd s x t ho B e i T.sz ht hi v xs.length cells hs hrow hx ?_
      refine h v w ?_ (World.grownBy.refl _ _) (.inl rfl)
      rw [List.append_nil]
      exact ⟨cells, hrow, hKs⟩
    | some ad =>
      refine wpList_append_own_at w hgd s x t ho B e i z T.sz bytes ht hi hz hsize hby hzs pos v xs.length cells hs hrow ad 0 c [] hx (by simp) (by simp) (by simp) h63 hbytes hB fun v' w' h1 h2 _ h4 => h v' w' ?_ h2 h4
      exact Own.app (ys := []) hrow hKs (by simp) h1 h2 (at3 h4)
  · obtain ⟨b, off, news, rfl, _, _, hl, hc, hK, h1⟩ := hrd.cells h0
    refine wpList_append_own_at w hgd s x t ho B e i z T.sz bytes ht hi hz hsize hby hzs pos v xs.length cells hs hrow ⟨b, off, none⟩ ys.length c news hx hl (fun j u hj => ?_) h1 h63 hbytes hB fun v' w' h1 h2 _ h4 => h v' w' ?_ h2 h4
    · have := hc j u hj
      rw [← this]; congr 1; unfold Addr.add; split <;> simp_all
    · exact Own.app hrow hKs (fun k y hy => hT _ _ (hK k y hy)) h1 h2 (at3 h4)
end

theorem Own.alloc {α : Type} {T : Ty α} {e : TypeId} {w : World} {B : Nat} {S : Nat → Prop} {v : Value} {xs : List α} (h : Own T e w B S v xs) (o : Obj) : Own T e (w.alloc o) B S v xs := h.below ((Below.refl _ _).alloc (Nat.le_refl _) o)
theorem Own.drew {α : Type} {T : Ty α} {e : TypeId} {w : World} {B : Nat} {S : Nat → Prop} {v : Value} {xs : List α} (h : Own T e w B S v xs) : Own T e w.drew B S v xs := h.keep fun _ _ _ => rfl
theorem Own.drewN {α : Type} {T : Ty α} {e : TypeId} {w : World} {B : Nat} {S : Nat → Prop} {v : Value} {xs : List α} (h : Own T e w B S v xs) (n : Nat) : Own T e (w.drewN n) B S v xs := h.keep fun _ _ _ => rfl
theorem Sl.sub {α : Type} {T : Ty α} {w : World} {S S' : Nat → Prop} {v : Value} {xs : List α} (h : Sl T w S v xs) (hs : ∀ b, S b → b < w.heap.size → S' b) : Sl T w S' v xs := h.mono fun b hS hb => ⟨rfl, hs b hS hb⟩
/-- A block known whole: its cells, none frozen. -/
theorem box_cells {w : World} {g : Nat} {cs : Array Value} {e : TypeId} (h : w.heap[g]? = some (.cells cs e (0, 0))) :
    (∀ i u, cs[i]? = some u → w.cell? ⟨g, i, none⟩ = some u) ∧ (∀ i, w.frozen? ⟨g, i, none⟩ = false) ∧ g < w.heap.size := by
  refine ⟨fun i u hu => by simp [World.cell?, h, hu], fun i => ?_, (Array.getElem?_eq_some_iff.1 h).1⟩
  simp [World.frozen?, h]
theorem box_new (w : World) (o : Obj) : (w.alloc o).heap[w.heap.size]? = some o := heap_alloc_new w o
theorem box_old (w : World) (o : Obj) {g : Nat} (h : g < w.heap.size) : (w.alloc o).heap[g]? = w.heap[g]? := Below.heap_alloc w o g h
theorem box_set {w : World} {g i : Nat} {cs : Array Value} {e : TypeId} {fr : Nat × Nat} (h : w.heap[g]? = some (.cells cs e fr)) (v : Value) : (w.setCell ⟨g, i, none⟩ v).heap[g]? = some (.cells (cs.setIfInBounds i v) e fr) := by
  simp only [World.setCell, Array.getElem?_modify, if_true, h]; rfl
theorem box_set_ne (w : World) {g b i : Nat} (h : g ≠ b) (v : Value) : (w.setCell ⟨b, i, none⟩ v).heap[g]? = w.heap[g]? := Below.heap_setCell w ⟨b, i, none⟩ v g h
theorem Own.fresh0 {α : Type} (T : Ty α) (e : TypeId) (w : World) (B : Nat) (hB : B ≤ w.heap.size) (S : Nat → Prop) : Own T e (w.alloc (.cells #[] e)) B S (.slice (some ⟨w.heap.size, 0, none⟩) 0 0) [] :=
  ⟨[], World.ownsRow_lit w #[] 0 hB (by simp [maxLen]) (by simp), by intro k x h; simp at h⟩
theorem new_cells {w : World} {g : Nat} (hg : g = w.heap.size) (cs : List Value) (e : TypeId) : ∀ j u, cs[j]? = some u → (w.alloc (.cells cs.toArray e)).cell? ((⟨g, 0, none⟩ : Addr).add j) = some u := by
  intro j u hj
  subst hg
  have : (⟨w.heap.size, 0, none⟩ : Addr).add j = ⟨w.heap.size, j, none⟩ := by unfold Addr.add; split <;> simp_all
  rw [this]
  exact (box_cells (box_new _ _)).1 j u (by simpa using hj)
/-- From block B on, a row of elements of type e. -/
def Sty (w : World) (B e : Nat) (b : Nat) : Prop := B ≤ b ∧ ∃ c fr, w.heap[b]? = some (.cells c e fr)
theorem Sty.keep {w w' : World} {B e b : Nat} (h : Sty w B e b) (hb : w'.heap[b]? = w.heap[b]?) : Sty w' B e b := ⟨h.1, by rw [hb]; exact h.2⟩
theorem Sty.lt {w : World} {B e b : Nat} (h : Sty w B e b) : b < w.heap.size := by
  obtain ⟨_, c, fr, h⟩ := h
  exact (Array.getElem?_eq_some_iff.1 h).1
theorem Sty.below {w w' : World} {B e b : Nat} (h : Sty w B e b) (hb : Below w.heap.size w w') : Sty w' B e b := h.keep (hb.block b h.lt)
theorem Sty.le {w : World} {B B' e b : Nat} (h : Sty w B e b) (hB : B' ≤ B) : Sty w B' e b := ⟨Nat.le_trans hB h.1, h.2⟩
theorem Sty.ne {w : World} {B B' e e' b b' : Nat} (h : Sty w B e b) (h' : Sty w B' e' b') (he : e ≠ e') : b ≠ b' := by
  rintro rfl
  obtain ⟨_, c, fr, h⟩ := h
  obtain ⟨_, c', fr', h'⟩ := h'
  rw [h] at h'
  injection h' with h'
  injection h' with _ h'
  exact he h'
theorem Own.ty {α : Type} {T : Ty α} {e : TypeId} {w : World} {B : Nat} {S : Nat → Prop} {v : Value} {xs : List α} (h : Own T e w B S v xs) (k : Nat) (hk : v.ownBlock = some k) : Sty w B e k := by
  obtain ⟨cells, ho, _⟩ := h
  rcases ho.2 with ⟨rfl, _⟩ | ⟨g, cap, cur, rfl, hb, hh, _⟩
  · simp [Value.ownBlock] at hk
  · have : g = k := by simpa [Value.ownBlock] using hk
    subst this
    exact ⟨hb, cur, _, hh⟩
theorem Own.slTy {α : Type} {T : Ty α} {e : TypeId} {w : World} {B : Nat} {S : Nat → Prop} {v : Value} {xs : List α} (h : Own T e w B S v xs) : Sl T w (fun b => Sty w B e b ∨ S b) v xs := by
  have hty := h.ty
  obtain ⟨cells, ho, hK⟩ := h
  have hl := ho.1
  rcases ho.2 with ⟨rfl, h0⟩ | ⟨g, cap, cur, rfl, hb, hh, h1, h2, h3, h4⟩
  · have : xs = [] := List.eq_nil_of_length_eq_zero h0
    subst this
    exact Sl.nil ..
  · refine ⟨_, cap, rfl, h1, h2, (fun e => by cases e), fun k x hx => ⟨g, 0, chunk T.sz cells k, rfl, .inl (hty g rfl), (Array.getElem?_eq_some_iff.1 hh).1, T.mono (hK k x hx) (fun b hS _ => ⟨rfl, .inr hS.1⟩), fun i u hi => ?_⟩⟩
    have := ho.cells (g := g) rfl (k * T.sz + i) u (chunk_get hi)
    rw [Nat.zero_add]
    rw [← this]
    congr 1
    unfold Addr.add
    split <;> simp_all
/-- What lies below B reads alike in two worlds that came of one. -/
theorem Rd.two {α : Type} {T : Ty α} {w w1 w2 : World} {B : Nat} {S : Nat → Prop} {A : Option Addr} {xs : List α} (h : Rd T w1 S A xs) (hS : ∀ b, S b → b < B) (h1 : Below B w w1) (h2 : Below B w w2) : Rd T w2 S A xs :=
  h.mono fun b hb _ => ⟨by rw [h2.block b (hS b hb), h1.block b (hS b hb)], hb⟩
/-- The world but for orders drawn. -/
def Qt (w w' : World) : Prop := ∃ n, w' = w.drewN n
theorem Qt.refl (w : World) : Qt w w := ⟨0, rfl⟩
theorem Qt.step {w w' : World} (h : Qt w w') (n : Nat) : Qt w (w'.drewN n) := by
  obtain ⟨m, rfl⟩ := h
  exact ⟨m + n, World.drewN_drewN ..⟩
theorem Qt.trans {w w1 w2 : World} (h : Qt w w1) (k : Qt w1 w2) : Qt w w2 := by
  obtain ⟨n, rfl⟩ := k
  exact h.step n
theorem Qt.below {w w' : World} (h : Qt w w') : Below w.heap.size w w' := by
  obtain ⟨n, rfl⟩ := h
  exact ⟨rfl, rfl, rfl, Nat.le_refl _, fun _ _ => rfl⟩
theorem Rd.qt {α : Type} {T : Ty α} {w w' : World} {S : Nat → Prop} {A : Option Addr} {xs : List α} (h : Rd T w S A xs) (hq : Qt w w') : Rd T w' S A xs := h.below hq.below
def RetQ (w : World) (v : Value) (en : Ending) (w' : World) : Prop := en = .returned v ∧ Qt w w'
theorem RetQ.qu {P : Program} {f : FuncId} {args : Array Value} {w : World} {n : Nat} {v : Value} (h : Calls P f args (w.drewN n) (RetQ (w.drewN n) v)) :
    Calls P f args (w.drewN n) fun e w'' => e = .returned v ∧ ∃ m, w'' = w.drewN m :=
  h.mono fun _ _ ⟨he, m, hm⟩ => ⟨he, n + m, by rw [hm, World.drewN_drewN]⟩
/-- What a call hands back, and in which world. -/
def Ret (V : Value → World → Prop) (en : Ending) (w' : World) : Prop := ∃ v, en = .returned v ∧ V v w'
/-- A bool of which p is known; the world as it was. -/
def RetB (w : World) (p : Bool → Prop) (en : Ending) (w' : World) : Prop := ∃ b, en = .returned (.bool b) ∧ w' = w ∧ p b
/-- A bool of which p is known; what was there is there. -/
def RetBB (w : World) (p : Bool → Prop) (en : Ending) (w' : World) : Prop := ∃ b, en = .returned (.bool b) ∧ Below w.heap.size w w' ∧ p b
theorem below_alloc (w : World) (o : Obj) : Below w.heap.size w (w.alloc o) := (Below.refl _ _).alloc (Nat.le_refl _) o
theorem _root_.Go.RowKit.Below.alloc' {w w' : World} (h : Below w.heap.size w w') (o : Obj) : Below w.heap.size w (w'.alloc o) := h.alloc h.size o
theorem _root_.Go.RowKit.Below.drewN' {w w' : World} (h : Below w.heap.size w w') (n : Nat) : Below w.heap.size w (w'.drewN n) := ⟨h.os, h.tape, h.output, h.size, h.block⟩
theorem _root_.Go.RowKit.Below.grown' {B : Nat} {w w1 w2 : World} {v : Value} (h : Below B w w1) (hg : w1.grownBy w2 v.ownBlock) (hB : B ≤ w1.heap.size) (hv : ∀ k, v.ownBlock = some k → B ≤ k) : Below B w w2 := h.grown hg hB hv
theorem _root_.Go.RowKit.Below.next {w w' w2 : World} (h : Below w.heap.size w w') (k : Below w'.heap.size w' w2) : Below w.heap.size w w2 := h.trans (k.mono h.size)
/-- A function hands back a row of its own. -/
def RetOwn {α : Type} (T : Ty α) (e : TypeId) (w : World) (xs : List α) (en : Ending) (w' : World) : Prop :=
  ∃ v', en = .returned v' ∧ Own T e w' w.heap.size (fun b => w.heap.size ≤ b) v' xs ∧ Below w.heap.size w w'
end Go.Proofs.Ytgppjcgcpjhjeaa
