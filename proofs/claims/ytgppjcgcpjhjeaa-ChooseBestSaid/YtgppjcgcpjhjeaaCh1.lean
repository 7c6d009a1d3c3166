/- Contracts: changes that are few and short, and copies of them in new memory (layer 12's reference). -/
import Derived.Test.YtgppjcgcpjhjeaaProg
import Derived.Test.YtgppjcgcpjhjeaaMap
namespace Go.Proofs.Ytgppjcgcpjhjeaa
open Go.RowKit

structure Prf where
  view : Int
  seq : Int
  body : ByteArray
  frm : List Int
structure Chg where
  frm : Int
  view : Int
  prfs : List Prf
def prfT : Ty Prf where
  sz := 4
  K := fun w S p cs => ∃ v, cs = [.int .i64 p.view, .int .i64 p.seq, .string p.body, v] ∧ Sl intT w S v p.frm
  len := fun ⟨v, h, _⟩ => by rw [h]; rfl
  one := fun ⟨v, h, A, c, e, _⟩ u hu => by subst h; subst e; simp at hu; rcases hu with rfl | rfl | rfl | rfl <;> rfl
  mono := fun ⟨v, h, h2⟩ hs => ⟨v, h, h2.mono hs⟩
def chgT : Ty Chg where
  sz := 3
  K := fun w S p cs => ∃ v, cs = [.int .i64 p.frm, .int .i64 p.view, v] ∧ Sl prfT w S v p.prfs
  len := fun ⟨v, h, _⟩ => by rw [h]; rfl
  one := fun ⟨v, h, A, c, e, _⟩ u hu => by subst h; subst e; simp at hu; rcases hu with rfl | rfl | rfl <;> rfl
  mono := fun ⟨v, h, h2⟩ hs => ⟨v, h, h2.mono hs⟩

/-- proofs that are few and short -/
def FewP (l : List Prf) : Prop := l.length ≤ 300 ∧ ∀ p ∈ l, p.frm.length ≤ 100
theorem Rd.prf {w : World} {S : Nat → Prop} {A : Option Addr} {xs : List Prf} (h : Rd prfT w S A xs) {k : Nat} (hk : k < xs.length) :
    ∃ b off A' c', A = some ⟨b, off, none⟩ ∧ S b ∧ b < w.heap.size ∧ w.cell? ⟨b, off + k * 4, none⟩ = some (.int .i64 xs[k].view) ∧ w.cell? ⟨b, off + k * 4 + 1, none⟩ = some (.int .i64 xs[k].seq)
      ∧ w.cell? ⟨b, off + k * 4 + 2, none⟩ = some (.string xs[k].body) ∧ w.cell? ⟨b, off + k * 4 + 3, none⟩ = some (.slice A' xs[k].frm.length c') ∧ xs[k].frm.length ≤ c' ∧ c' ≤ maxLen ∧ (A' = none → c' = 0) ∧ Rd intT w S A' xs[k].frm := by
  obtain ⟨b, off, cs, e, hS, hb, ⟨v, rfl, A', c', rfl, h1, h2, h3, h4⟩, hc⟩ := h.get hk
  exact ⟨b, off, A', c', e, hS, hb, hc 0 _ rfl, hc 1 _ rfl, hc 2 _ rfl, hc 3 _ rfl, h1, h2, h3, h4⟩

set_option maxHeartbeats 400000 in
theorem short_any (A : Option Addr) (c : Nat) (xs : List Prf) (w : World) (S : Nat → Prop) (hx : xs.length ≤ maxLen) (h : Rd prfT w S A xs) :
    Calls Try.prog 10 #[.slice A xs.length c] w (RetB w fun b => b = true → FewP xs ∧ xs.length ≤ 200) := by
  unfold maxLen at hx
  have H := Asd.mk h; clear h
  go_enter Try.func10, Try.ntmps10
  go_wp2
  · go_ret
    exact ⟨false, rfl, rfl, by simp⟩
  · have hn : xs.length ≤ 200 := by omega
    go_loop [3] (fun i => ∃ k : Nat, k ≤ xs.length ∧ i = .int .i64 k ∧ Asd (∀ j, (hj : j < xs.length) → j < k → xs[j].body.size ≤ 5000 ∧ xs[j].frm.length ≤ 100)) (fun i => xs.length - (intOf i).toNat)
    case atStart => exact ⟨0, by omega, rfl, ⟨fun j hj h0 => by omega⟩⟩
    case round =>
      obtain ⟨k, hk, rfl, HE⟩ := hrel
      by_cases hlt : k < xs.length
      · obtain ⟨b, off, A', c', rfl, hS, hb, g0, g1, g2, g3, h1, h2, h3, h4⟩ := H.out.prf hlt
        have H4 := Asd.mk h4; clear h4 h3
        go_wp2
        all_goals first
        | (go_ret; exact ⟨false, rfl, rfl, by simp⟩)
        | go_round
          case rel => exact ⟨k + 1, by omega, by go_num, ⟨fun j hj h0 => by
            by_cases e : j = k
            · subst e; constructor <;> omega
            · exact HE.out j hj (by omega)⟩⟩
          case measure => simp [intOf]; omega
      · go_wp2
        go_ret
        have hF : FewP xs := ⟨by omega, fun p hp => by
          obtain ⟨j, hj, rfl⟩ := List.getElem_of_mem hp
          exact (HE.out j hj (by omega)).2⟩
        exact ⟨true, rfl, rfl, fun _ => by first | exact ⟨hF, hn⟩ | exact hF⟩

/-- changes that are few and short -/
def FewC (l : List Chg) : Prop := l.length ≤ 50 ∧ ∀ c ∈ l, FewP c.prfs
theorem Rd.chg {w : World} {S : Nat → Prop} {A : Option Addr} {xs : List Chg} (h : Rd chgT w S A xs) {k : Nat} (hk : k < xs.length) :
    ∃ b off A' c', A = some ⟨b, off, none⟩ ∧ S b ∧ b < w.heap.size ∧ w.cell? ⟨b, off + k * 3, none⟩ = some (.int .i64 xs[k].frm) ∧ w.cell? ⟨b, off + k * 3 + 1, none⟩ = some (.int .i64 xs[k].view)
      ∧ w.cell? ⟨b, off + k * 3 + 2, none⟩ = some (.slice A' xs[k].prfs.length c') ∧ xs[k].prfs.length ≤ c' ∧ c' ≤ maxLen ∧ (A' = none → c' = 0) ∧ Rd prfT w S A' xs[k].prfs := by
  obtain ⟨b, off, cs, e, hS, hb, ⟨v, rfl, A', c', rfl, h1, h2, h3, h4⟩, hc⟩ := h.get hk
  exact ⟨b, off, A', c', e, hS, hb, hc 0 _ rfl, hc 1 _ rfl, hc 2 _ rfl, h1, h2, h3, h4⟩

set_option maxHeartbeats 400000 in
theorem Short_any (A : Option Addr) (c : Nat) (xs : List Chg) (w : World) (S : Nat → Prop) (hx : xs.length ≤ maxLen) (h : Rd chgT w S A xs) :
    Calls Try.prog 5 #[.agg #[.int .i64 0, .int .i64 0, .int .i64 0, .int .i64 0, .string ⟨#[]⟩, .slice none 0 0, .slice A xs.length c]] w
      (RetBB w fun b => b = true → FewC xs ∧ ∀ c ∈ xs, c.prfs.length ≤ 200) := by
  unfold maxLen at hx
  have H := Asd.mk h; clear h
  go_enter Try.func5, Try.ntmps5
  go_wp2_with fail
  refine (short_any none 0 [] _ (fun _ => True) (by simp [maxLen]) (Rd.nil _ _ _ _)).mono ?_
  rintro e w' ⟨b0, rfl, rfl, _⟩
  cases b0
  · go_wp2
    go_ret
    exact ⟨false, rfl, below_alloc _ _, by simp⟩
  · go_wp2
    · go_ret
      exact ⟨false, rfl, below_alloc _ _, by simp⟩
    · have hn : xs.length ≤ 50 := by omega
      go_loopw [4] (fun i wr => ∃ k : Nat, k ≤ xs.length ∧ i = .int .i64 k ∧ wr = w.alloc (.cells #[.int .i64 0, .int .i64 0, .int .i64 0, .int .i64 0, .string ⟨#[]⟩, .slice none 0 0, .slice A xs.length c] 27)
         ∧ Asd (∀ j, (hj : j < xs.length) → j < k → FewP xs[j].prfs ∧ xs[j].prfs.length ≤ 200)) (fun i _ => xs.length - (intOf i).toNat)
      case atStart => exact ⟨0, by omega, rfl, rfl, ⟨fun j hj h0 => by omega⟩⟩
      case round =>
        obtain ⟨k, hk, rfl, rfl, HE⟩ := hrel
        by_cases hlt : k < xs.length
        · obtain ⟨b, off, A', c', rfl, hS, hb, g0, g1, g2, h1, h2, h3, h4⟩ := H.out.chg hlt
          have H4 := Asd.mk (h4.below (below_alloc w (.cells #[.int .i64 0, .int .i64 0, .int .i64 0, .int .i64 0, .string ⟨#[]⟩, .slice none 0 0, .slice (some ⟨b, off, none⟩) xs.length c] 27))); clear h4 h3
          go_wp2_with fail
          refine (short_any _ _ _ _ S (by omega) H4.out).mono ?_
          rintro e w' ⟨b0, rfl, rfl, hb0⟩
          have HB0 := Asd.mk hb0; clear hb0
          cases b0
          · go_wp2
            go_ret
            exact ⟨false, rfl, below_alloc _ _, by simp⟩
          · go_wp2
            go_roundw
            case rel => exact ⟨k + 1, by omega, by go_num, (by first | rfl | trivial), ⟨fun j hj h0 => by
              by_cases e : j = k
              · subst e; exact HB0.out (by simp)
              · exact HE.out j hj (by omega)⟩⟩
            case measure => simp [intOf]; omega
        · go_wp2
          go_ret
          exact ⟨true, rfl, below_alloc _ _, fun _ => ⟨⟨hn, fun p hp => by
            obtain ⟨j, hj, rfl⟩ := List.getElem_of_mem hp
            exact (HE.out j hj (by omega)).1⟩, fun p hp => by
            obtain ⟨j, hj, rfl⟩ := List.getElem_of_mem hp
            exact (HE.out j hj (by omega)).2⟩⟩

theorem E3 : Elt Try.prog 30 3 1 8 := Elt.mk' Try.underlying30 (z := .int .i64 0) (by kernel_rfl) rfl (by decide)
theorem E32 : Elt Try.prog 25 32 4 56 := Elt.mk' Try.underlying25 (z := .agg #[.int .i64 0, .int .i64 0, .string ⟨#[]⟩, .slice none 0 0]) (by kernel_rfl) rfl (by decide)
theorem E29 : Elt Try.prog 22 29 3 40 := Elt.mk' Try.underlying22 (z := .agg #[.int .i64 0, .int .i64 0, .slice none 0 0]) (by kernel_rfl) rfl (by decide)

/-- A function hands back a row of its own, what its elements lead to being rows of whole numbers. -/
def RetPrfs (w : World) (xs : List Prf) (en : Ending) (w' : World) : Prop := ∃ v', en = .returned v' ∧ Own prfT 32 w' w.heap.size (Sty w' w.heap.size 3) v' xs ∧ Below w.heap.size w w'

set_option maxHeartbeats 400000 in
theorem copied_any (A : Option Addr) (c : Nat) (xs : List Prf) (w : World) (S : Nat → Prop) (hS : ∀ b, S b → b < w.heap.size) (hf : FewP xs) (h : Rd prfT w S A xs) :
    Calls Try.prog 11 #[.slice A xs.length c] w (RetPrfs w xs) := by
  have hn := hf.1
  have HF := Asd.mk hf; clear hf
  have H := Asd.mk h; clear h
  have HS := Asd.mk hS; clear hS
  go_enter Try.func11, Try.ntmps11
  go_wp2
  go_loopw [3, 4] (fun v i wr => ∃ k : Nat, k ≤ xs.length ∧ i = .int .i64 k ∧ Asd (Own prfT 32 wr w.heap.size (Sty wr w.heap.size 3) v (xs.take k)) ∧ Below w.heap.size w wr) (fun _ i _ => xs.length - (intOf i).toNat)
  case atStart => exact ⟨0, by omega, rfl, ⟨by simpa using Own.nil ..⟩, Below.refl _ _⟩
  case round =>
    obtain ⟨k, hk, rfl, HO, HB⟩ := hrel
    have hbs := HB.size
    by_cases hlt : k < xs.length
    · obtain ⟨b, off, A', c', rfl, hS, hb, g0, g1, g2, g3, h1, h2, h3, h4⟩ := (H.out.below HB).prf hlt
      have H4 := Asd.mk h4; clear h4
      have H3 := Asd.mk h3; clear h3
      have hu : ∀ g, u3.ownBlock = some g → g < wr.heap.size := fun g hg => (HO.out.blk g hg).2
      have HU := Asd.mk hu; clear hu
      go_wp2_with (first | (at_builtin; refine wpList_apps rfl (.tmp 16) (.tmp 21) 30 3 rfl intT 8 E3 (wr.heap.size + 1) (fun _ => False) (.slice (some ⟨wr.heap.size + 1, 0, none⟩) 0 0) [] rfl ?a1 A' c' xs[k].frm rfl H3.out S ?a2 (fun _ _ h => h) ?a3 ?a4 ?a5 ?_))
      case a1 =>
        have := Own.fresh0 intT 3 (wr.alloc (.cells #[.int .i64 xs[k].view, .int .i64 xs[k].seq, .string xs[k].body, .slice A' xs[k].frm.length c'] 32)) (wr.heap.size + 1) (by simp) (fun _ => False)
        simpa using this
      case a2 => exact ((H4.out.below (below_alloc _ _)).below (below_alloc _ _))
      case a3 => simp only [List.length_nil, Nat.zero_add]; omega
      case a4 => have := HF.out.2 _ (List.getElem_mem hlt); simp; omega
      case a5 => simp
      intro v1 w1 HO1 hg1 hat1
      have hb1 : Below wr.heap.size wr w1 := (((Below.refl _ _).alloc (Nat.le_refl _) _).alloc (by simp) _).grown' hg1 (by simp; omega) (by intro k hk; simp [Value.ownBlock] at hk; omega)
      have hx1 : w1.heap[wr.heap.size]? = some (.cells #[.int .i64 xs[k].view, .int .i64 xs[k].seq, .string xs[k].body, .slice A' xs[k].frm.length c'] 32 (0, 0)) := by
        rw [hg1.block _ (by simp; omega) (by simp [Value.ownBlock]), box_old _ _ (by simp), box_new]
      obtain ⟨q1, q2, q3⟩ := box_cells hx1
      have c0 := q1 0 _ rfl
      have c1 := q1 1 _ rfl
      have c2 := q1 2 _ rfl
      have c3 := q1 3 _ rfl
      have f3 := q2 3
      obtain ⟨A1, d1, rfl, hl1, hl2, hl3, HR1⟩ := HO1.slTy
      have HL3 := Asd.mk hl3
      clear hg1 hat1 hx1 q1 q2 hl3 HO1
      have HR1 := Asd.mk HR1
      have hz1 := hb1.size
      have HBb : Asd (Below wr.heap.size wr ((w1.setCell ⟨wr.heap.size, 3, none⟩ (.slice A1 xs[k].frm.length d1)).alloc (.cells #[.int .i64 xs[k].view, .int .i64 xs[k].seq, .string xs[k].body, .slice A1 xs[k].frm.length d1] 32))) :=
        ⟨(hb1.setCell (p := ⟨wr.heap.size, 3, none⟩) (Nat.le_refl _) _).alloc (by simp; omega) _⟩
      go_wp2_with (first | (at_builtin; refine wpList_app1 rfl (.tmp 24) (.tmp 26) 25 32 rfl prfT 56 E32 w.heap.size (Sty ((w1.setCell ⟨wr.heap.size, 3, none⟩ (.slice A1 xs[k].frm.length d1)).alloc (.cells #[.int .i64 xs[k].view, .int .i64 xs[k].seq, .string xs[k].body, .slice A1 xs[k].frm.length d1] 32)) w.heap.size 3) _ (xs.take k) rfl ?a1 ⟨_, 0, none⟩ _ xs[k] [.int .i64 xs[k].view, .int .i64 xs[k].seq, .string xs[k].body, .slice A1 xs[k].frm.length d1] rfl ?a2 ?a3 ?a4 ?a5 ?a6 ?_))
      case a1 => exact (HO.out.below HBb.out).weak (Nat.le_refl _) (fun b hb => hb.below HBb.out)
      case a2 => exact new_cells (by simp) [.int .i64 xs[k].view, .int .i64 xs[k].seq, .string xs[k].body, .slice A1 xs[k].frm.length d1] 32
      case a3 =>
        refine ⟨_, rfl, A1, d1, rfl, hl1, hl2, HL3.out, HR1.out.mono fun b hS hb => ?_⟩
        simp only [or_false] at hS
        have hne : b ≠ wr.heap.size := by have := hS.1; omega
        have heq : ((w1.setCell ⟨wr.heap.size, 3, none⟩ (.slice A1 xs[k].frm.length d1)).alloc (.cells #[.int .i64 xs[k].view, .int .i64 xs[k].seq, .string xs[k].body, .slice A1 xs[k].frm.length d1] 32)).heap[b]? = w1.heap[b]? := by
          rw [box_old _ _ (by simpa using hb), box_set_ne _ hne]
        refine ⟨heq, (hS.keep heq).le (by omega), fun e => ?_⟩
        have := HU.out b e.symm
        have := hS.1
        omega
      case a4 => have := List.length_take_le k xs; simp [maxLen]; omega
      case a5 => have := List.length_take_le k xs; omega
      case a6 => simp; omega
      intro v2 w2 HO2 hg2 _
      have HB2 : Below w.heap.size w w2 := ((((HB.trans (hb1.mono hbs)).setCell (p := ⟨wr.heap.size, 3, none⟩) hbs _).alloc (by simp; omega) _).grown' hg2 (by simp; omega) (fun k hk => (HO.out.blk k hk).1))
      have HO2 : Asd (Own prfT 32 w2 w.heap.size (Sty w2 w.heap.size 3) v2 (xs.take (k + 1))) := ⟨HO2.weak (Nat.le_refl _) fun b hb => hb.keep (hg2.block b hb.lt fun e => by
        exact (hb.ne ((HO.out.ty b e.symm).below HBb.out) (by decide)) rfl)⟩
      clear hg2 hb1 c0 c1 c2 c3 f3
      go_wp2
      go_roundw
      case rel => exact ⟨k + 1, by omega, by go_num, HO2, HB2⟩
      case measure => simp [intOf]; omega
    · go_wp2
      go_ret
      refine ⟨_, rfl, ?_, HB⟩
      have := HO.out
      rw [List.take_of_length_le (by omega)] at this
      exact this


/-- Changes whose proofs are rows of the call's own (their slices told). -/
def chgU (B : Nat) : Ty (Chg × Value) where
  sz := 3
  K := fun w S p cs => cs = [.int .i64 p.1.frm, .int .i64 p.1.view, p.2] ∧ (∀ g, p.2.ownBlock = some g → S g) ∧ Own prfT 32 w B (fun b => S b ∧ Sty w B 3 b) p.2 p.1.prfs
  len := fun ⟨h, _⟩ => by rw [h]; rfl
  one := fun ⟨h, _, h2⟩ u hu => by
    obtain ⟨A, c, e, _⟩ := h2.sl
    subst h
    simp at hu
    rcases hu with rfl | rfl | rfl
    · rfl
    · rfl
    · rw [e]; rfl
  mono := fun {w w' S S' x cs} ⟨h, h1, h2⟩ hs => by
    refine ⟨h, fun g hg => (hs g (h1 g hg) (h2.blk g hg).2).2, ?_⟩
    have hty := h2.ty
    obtain ⟨cells, ho, hK⟩ := h2
    refine ⟨cells, ⟨ho.1, ?_⟩, fun k x hx => prfT.mono (hK k x hx) fun b hb hl => ?_⟩
    · rcases ho.2 with h0 | ⟨g, cap, cur, e1, hb', hh, r⟩
      · exact .inl h0
      · have hg : x.2.ownBlock = some g := by rw [e1]; rfl
        have := (hs g (h1 g hg) (hty g hg).lt).1
        exact .inr ⟨g, cap, cur, e1, hb', by rw [this]; exact hh, r⟩
    · obtain ⟨q1, q2⟩ := hs b hb.1.1 hl
      exact ⟨q1, ⟨q2, hb.1.2.keep q1⟩, hb.2⟩
def Dist (us : List Value) : Prop := ∀ (i j g : Nat), i < j → (us[i]?.bind Value.ownBlock) = some g → (us[j]?.bind Value.ownBlock) ≠ some g
theorem Dist.snoc {us : List Value} {u : Value} (h : Dist us) (hu : ∀ x ∈ us, ∀ g, x.ownBlock = some g → u.ownBlock ≠ some g) : Dist (us ++ [u]) := by
  intro i j g hij hi
  rcases Nat.lt_or_ge j us.length with hj | hj
  · rw [List.getElem?_append_left hj]
    rw [List.getElem?_append_left (by omega)] at hi
    exact h i j g hij hi
  · rcases Nat.lt_or_ge us.length j with hj2 | hj2
    · rw [List.getElem?_eq_none (by simp; omega)]; simp
    · have : j = us.length := by omega
      subst this
      rw [List.getElem?_append_left hij] at hi
      rw [List.getElem?_append_right (Nat.le_refl _)]
      have hi' : us[i]? = some us[i] := List.getElem?_eq_getElem hij
      rw [hi'] at hi
      simp at hi ⊢
      exact hu _ (List.getElem_mem hij) g hi

def RetChgs (w : World) (xs : List Chg) (en : Ending) (w' : World) : Prop :=
  ∃ v' us, en = .returned v' ∧ us.length = xs.length ∧ Own (chgU w.heap.size) 29 w' w.heap.size (fun b => w.heap.size ≤ b) v' (xs.zip us) ∧ Dist us ∧ Below w.heap.size w w'

set_option maxHeartbeats 400000 in
theorem Changes_any (A : Option Addr) (c : Nat) (xs : List Chg) (w : World) (S : Nat → Prop) (hS : ∀ b, S b → b < w.heap.size) (hf : FewC xs) (h : Rd chgT w S A xs) :
    Calls Try.prog 6 #[.slice A xs.length c] w (RetChgs w xs) := by
  have hn := hf.1
  have HF := Asd.mk hf; clear hf
  have H := Asd.mk h; clear h
  have HS := Asd.mk hS; clear hS
  go_enter Try.func6, Try.ntmps6
  go_wp2
  go_loopw [3, 4] (fun v i wr => ∃ (k : Nat) (us : List Value), k ≤ xs.length ∧ i = .int .i64 k ∧ Asd (us.length = k) ∧ Asd (Own (chgU w.heap.size) 29 wr w.heap.size (fun b => w.heap.size ≤ b) v ((xs.take k).zip us)) ∧ Asd (Dist us ∧ ∀ x ∈ us, ∀ g, x.ownBlock = some g → g < wr.heap.size) ∧ Below w.heap.size w wr) (fun _ i _ => xs.length - (intOf i).toNat)
  case atStart => exact ⟨0, [], by omega, rfl, ⟨rfl⟩, ⟨by simpa using Own.nil ..⟩, ⟨by intro i j g _ h; simp at h, by simp⟩, Below.refl _ _⟩
  case round =>
    obtain ⟨k, us, hk, rfl, HUL, HO, HD, HB⟩ := hrel
    have hbs := HB.size
    by_cases hlt : k < xs.length
    · obtain ⟨b, off, A', c', rfl, hS, hb, g0, g1, g2, h1, h2, h3, h4⟩ := (H.out.below HB).chg hlt
      have H4 := Asd.mk h4; clear h4
      clear h3
      have hu : ∀ g, u3.ownBlock = some g → g < wr.heap.size := fun g hg => (HO.out.blk g hg).2
      have HU := Asd.mk hu; clear hu
      go_wp2_with fail
      refine (copied_any _ _ xs[k].prfs _ S (fun b hb => ?_) (HF.out.2 _ (List.getElem_mem hlt)) (H4.out.below (below_alloc _ _))).mono ?_
      · have := HS.out b hb; simp; omega
      rintro e w1 ⟨v1, rfl, HO1, hb0⟩
      have hb1 : Below wr.heap.size wr w1 := (below_alloc wr _).trans (hb0.mono (by simp))
      have hx1 : w1.heap[wr.heap.size]? = some (.cells #[.int .i64 xs[k].frm, .int .i64 xs[k].view, .slice A' xs[k].prfs.length c'] 29 (0, 0)) := by
        rw [hb0.block _ (by simp), box_new]
      obtain ⟨q1, q2, q3⟩ := box_cells hx1
      have c0 := q1 0 _ rfl
      have c1 := q1 1 _ rfl
      have c2 := q1 2 _ rfl
      have f2 := q2 2
      have hx2 : Sty w1 w.heap.size 29 wr.heap.size := ⟨hbs, _, _, hx1⟩
      obtain ⟨A1, d1, e1, _⟩ := HO1.sl
      subst e1
      have HO1 := Asd.mk HO1
      have HX2 := Asd.mk hx2
      clear hx1 q1 q2 hb0 hx2
      have hz1 := hb1.size
      have HBb : Asd (Below wr.heap.size wr ((w1.setCell ⟨wr.heap.size, 2, none⟩ (.slice A1 xs[k].prfs.length d1)).alloc (.cells #[.int .i64 xs[k].frm, .int .i64 xs[k].view, .slice A1 xs[k].prfs.length d1] 29))) :=
        ⟨(hb1.setCell (p := ⟨wr.heap.size, 2, none⟩) (Nat.le_refl _) _).alloc (by simp; omega) _⟩
      have heq : ∀ b, b < w1.heap.size → b ≠ wr.heap.size → ((w1.setCell ⟨wr.heap.size, 2, none⟩ (.slice A1 xs[k].prfs.length d1)).alloc (.cells #[.int .i64 xs[k].frm, .int .i64 xs[k].view, .slice A1 xs[k].prfs.length d1] 29)).heap[b]? = w1.heap[b]? := fun b hb hne => by
        rw [box_old _ _ (by simpa using hb), box_set_ne _ hne]
      have HEQ := Asd.mk heq
      clear heq
      go_wp2_with (first | (at_builtin; refine wpList_app1 rfl (.tmp 23) (.tmp 25) 22 29 rfl (chgU w.heap.size) 40 E29 w.heap.size (fun b => w.heap.size ≤ b) _ ((xs.take k).zip us) rfl ?a1 ⟨_, 0, none⟩ _ (xs[k], .slice A1 xs[k].prfs.length d1) [.int .i64 xs[k].frm, .int .i64 xs[k].view, .slice A1 xs[k].prfs.length d1] rfl ?a2 ?a3 ?a4 ?a5 ?a6 ?_))
      case a1 => exact HO.out.below HBb.out
      case a2 => exact new_cells (by simp) [.int .i64 xs[k].frm, .int .i64 xs[k].view, .slice A1 xs[k].prfs.length d1] 29
      case a3 =>
        have hO := HO1.out
        rw [show (wr.alloc (.cells #[.int .i64 xs[k].frm, .int .i64 xs[k].view, .slice A' xs[k].prfs.length c'] 29)).heap.size = wr.heap.size + 1 from by simp] at hO
        refine ⟨rfl, fun g hg => ⟨?_, fun e => ?_⟩, ?_⟩
        · have := (hO.blk g hg).1; show _ ≤ g; omega
        · have := HU.out g e.symm
          have := (hO.blk g hg).1
          omega
        · have hkp := hO.keep (w' := ((w1.setCell ⟨wr.heap.size, 2, none⟩ (.slice A1 xs[k].prfs.length d1)).alloc (.cells #[.int .i64 xs[k].frm, .int .i64 xs[k].view, .slice A1 xs[k].prfs.length d1] 29))) (fun b hb h => HEQ.out b hb (by
            rcases h with h | h
            · omega
            · have := h.1; omega))
          refine hkp.weak (by omega) fun b hb => ⟨⟨?_, fun e => ?_⟩, ?_⟩
          · have := hb.1; show _ ≤ b; omega
          · have := HU.out b e.symm
            have := hb.1
            omega
          · exact (hb.keep (HEQ.out b hb.lt (by have := hb.1; omega))).le (by omega)
      case a4 => have := List.length_take_le k xs; simp [maxLen]; omega
      case a5 => have := List.length_take_le k xs; simp; omega
      case a6 => simp; omega
      intro v2 w2 HO2 hg2 _
      have HB2 : Below w.heap.size w w2 := ((((HB.trans (hb1.mono hbs)).setCell (p := ⟨wr.heap.size, 2, none⟩) hbs _).alloc (by simp; omega) _).grown' hg2 (by simp; omega) (fun k hk => (HO.out.blk k hk).1))
      have hz2 := hg2.size
      have HD2 : Asd (Dist (us ++ [.slice A1 xs[k].prfs.length d1]) ∧ ∀ x ∈ us ++ [.slice A1 xs[k].prfs.length d1], ∀ g, x.ownBlock = some g → g < w2.heap.size) := by
        have hO := HO1.out
        rw [show (wr.alloc (.cells #[.int .i64 xs[k].frm, .int .i64 xs[k].view, .slice A' xs[k].prfs.length c'] 29)).heap.size = wr.heap.size + 1 from by simp] at hO
        refine ⟨HD.out.1.snoc fun x hx g hg e => ?_, fun x hx g hg => ?_⟩
        · have := HD.out.2 x hx g hg
          have := (hO.blk g e).1
          omega
        · simp at hz2
          rcases List.mem_append.1 hx with h | h
          · have := HD.out.2 x h g hg; omega
          · simp at h; subst h
            have := (hO.blk g hg).2
            omega
      have HO2 : Asd (Own (chgU w.heap.size) 29 w2 w.heap.size (fun b => w.heap.size ≤ b) v2 ((xs.take (k + 1)).zip (us ++ [.slice A1 xs[k].prfs.length d1]))) := by
        refine ⟨?_⟩
        rw [show xs.take (k + 1) = xs.take k ++ [xs[k]] from (List.take_append_getElem hlt).symm, List.zip_append (by rw [HUL.out, List.length_take]; omega)]
        exact HO2
      have HUL2 : Asd ((us ++ [Value.slice A1 xs[k].prfs.length d1]).length = k + 1) := ⟨by simp [HUL.out]⟩
      clear hg2 hb1 c0 c1 c2 f2 hz2
      go_wp2
      go_roundw
      case rel => exact ⟨k + 1, us ++ [.slice A1 xs[k].prfs.length d1], by omega, by go_num, HUL2, HO2, HD2, HB2⟩
      case measure => simp [intOf]; omega
    · go_wp2
      go_ret
      have hk' : k = xs.length := by omega
      refine ⟨_, us, rfl, by rw [HUL.out, hk'], ?_, HD.out.1, HB⟩
      have := HO.out
      rw [List.take_of_length_le (by omega)] at this
      exact this
end Go.Proofs.Ytgppjcgcpjhjeaa
