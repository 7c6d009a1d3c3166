/- Contracts: what changes choose (layer 14). -/
import Derived.Test.YtgppjcgcpjhjeaaCh1
namespace Go.Proofs.Ytgppjcgcpjhjeaa
open Go.RowKit

/-- What the best proofs say: of each place a view and a body; and the last place. -/
structure BS where
  f : Int → Option (Int × ByteArray)
  last : Int
def bsStep (s : BS) (p : Prf) : BS :=
  if p.seq < 1 ∨ 64 < p.seq then s else
  ⟨match s.f p.seq with
    | none => fun k => if k = p.seq then some (p.view, p.body) else s.f k
    | some b => if b.1 < p.view then fun k => if k = p.seq then some (p.view, p.body) else s.f k else s.f,
   if s.last < p.seq then p.seq else s.last⟩
def bs0 : BS := ⟨fun _ => none, 0⟩
def bsAll (l : List Chg) : BS := (l.flatMap (·.prfs)).foldl bsStep bs0
def bodyAt (s : BS) (i : Int) : ByteArray := match s.f i with | none => ⟨#[]⟩ | some b => b.2
def bodies (l : List Chg) : List ByteArray := (List.range (bsAll l).last.toNat).map fun (i : Nat) => bodyAt (bsAll l) ((i : Int) + 1)
def bsIn (s : BS) : Prop := 0 ≤ s.last ∧ s.last ≤ 64
theorem bsIn_step {s : BS} (h : bsIn s) (p : Prf) : bsIn (bsStep s p) := by
  unfold bsIn bsStep at *
  split
  · exact h
  · rename_i hp
    dsimp only
    split <;> omega
theorem bsIn_fold {s : BS} (h : bsIn s) (l : List Prf) : bsIn (l.foldl bsStep s) := by
  induction l generalizing s with
  | nil => exact h
  | cons p l ih => exact ih (bsIn_step h p)
def encBest (b : Int × ByteArray) : Value := .agg #[.int .i64 b.1, .string b.2]
def bsMap (s : BS) : Int → Option Value := fun k => (s.f k).map encBest
theorem bsMap_set (s : BS) (p : Prf) (k : Int) : (if k = p.seq then some (encBest (p.view, p.body)) else bsMap s k) = ((if k = p.seq then some (p.view, p.body) else s.f k)).map encBest := by
  unfold bsMap; split <;> rfl
theorem K3 : Keyd Try.prog 3 (fun n : Int => .int .i64 n) := Keyd.int Try.underlying3
theorem z43 : ∀ w, (zeroValue 43).run Try.prog w = .ok (.agg #[.int .i64 0, .string ⟨#[]⟩]) w := fun _ => by kernel_rfl
theorem E9 : Elt Try.prog 34 9 1 16 := Elt.mk' Try.underlying34 (z := .string ⟨#[]⟩) (by kernel_rfl) rfl (by decide)

set_option maxHeartbeats 1000000 in
theorem Bodies_any (A : Option Addr) (c : Nat) (xs : List Chg) (w : World) (S : Nat → Prop) (hS : ∀ b, S b → b < w.heap.size) (hf : FewC xs) (h : Rd chgT w S A xs) :
    Calls Try.prog 7 #[.slice A xs.length c] w (RetOwn strT 9 w (bodies xs)) := by
  have hn := hf.1
  have HF := Asd.mk hf; clear hf
  have H := Asd.mk h; clear h
  have HS := Asd.mk hS; clear hS
  have hmm := @run_makeMap Try.prog
  have hfd : ∀ (a b : Value) w, (Instr.field 43 (.agg #[a, b]) 1).run Try.prog w = .ok b w := fun _ _ _ => by kernel_rfl
  go_enter Try.func7, Try.ntmps7
  go_wp2
  go_loopw [4, 16] (fun l i wr => ∃ (k : Nat) (s : BS), k ≤ xs.length ∧ i = .int .i64 k ∧ l = .int .i64 s.last ∧ Asd (bsIn s) ∧ Asd (s = (((xs.take k).flatMap (·.prfs)).foldl bsStep bs0)) ∧ Asd (MapAt (fun n : Int => .int .i64 n) wr w.heap.size (bsMap s)) ∧ Below w.heap.size w wr) (fun _ i _ => xs.length - (intOf i).toNat)
  case atStart => exact ⟨0, bs0, by omega, rfl, rfl, ⟨by simp [bsIn, bs0]⟩, ⟨by simp⟩, ⟨MapAt.new _ _ _⟩, (below_alloc _ _)⟩
  case round =>
    obtain ⟨k, s, hk, rfl, rfl, HI, HE, HM, HB⟩ := hrel
    have hbs := HB.size
    by_cases hlt : k < xs.length
    · obtain ⟨b, off, A', c', rfl, hS, hb, g0, g1, g2, h1, h2, h3, h4⟩ := (H.out.below HB).chg hlt
      have H4 := Asd.mk h4; clear h4 h3
      go_wp2
      have HBo : Asd (Below w.heap.size w (wr.alloc (.cells #[.int .i64 xs[k].frm, .int .i64 xs[k].view, .slice A' xs[k].prfs.length c'] 29))) := ⟨HB.alloc hbs _⟩
      have HMo := Asd.mk (HM.out.below (below_alloc wr (.cells #[.int .i64 xs[k].frm, .int .i64 xs[k].view, .slice A' xs[k].prfs.length c'] 29)))
      have H4o := Asd.mk (H4.out.below (below_alloc wr (.cells #[.int .i64 xs[k].frm, .int .i64 xs[k].view, .slice A' xs[k].prfs.length c'] 29)))
      generalize wr.alloc (.cells #[.int .i64 xs[k].frm, .int .i64 xs[k].view, .slice A' xs[k].prfs.length c'] 29) = wo at HBo HMo H4o ⊢
      clear g0 g1 g2 HM H4
      have hFP := HF.out.2 _ (List.getElem_mem hlt)
      have hPn := hFP.1
      clear hFP
      go_loopw [4, 23] (fun l i wi => ∃ (j : Nat) (t : BS), j ≤ xs[k].prfs.length ∧ i = .int .i64 j ∧ l = .int .i64 t.last ∧ Asd (bsIn t) ∧ Asd (t = (xs[k].prfs.take j).foldl bsStep s) ∧ Asd (MapAt (fun n : Int => .int .i64 n) wi w.heap.size (bsMap t)) ∧ Asd (Below w.heap.size w wi)) (fun _ i _ => xs[k].prfs.length - (intOf i).toNat)
      case atStart => exact ⟨0, s, by omega, rfl, rfl, HI, ⟨by simp⟩, HMo, HBo⟩
      case round =>
        obtain ⟨j, t, hj, rfl, rfl, HIt, HEt, HMt, HBt⟩ := hrel
        have hbt := HBt.out.size
        by_cases hjt : j < xs[k].prfs.length
        · obtain ⟨b2, o2, A2, c2, e2, _, hb2, p0, p1, p2, p3, _, _, _, _⟩ := (H4o.out.two HS.out HBo.out HBt.out).prf hjt
          subst e2
          have hstep : bsStep t xs[k].prfs[j] = (xs[k].prfs.take (j + 1)).foldl bsStep s := by
            rw [HEt.out, ← List.take_append_getElem hjt, List.foldl_append]; rfl
          have HST := Asd.mk hstep; clear hstep
          by_cases hs : xs[k].prfs[j].seq < 1 ∨ 64 < xs[k].prfs[j].seq
          · have hsk : bsStep t xs[k].prfs[j] = t := by unfold bsStep; rw [if_pos hs]
            rw [hsk] at HST
            go_wp2
            all_goals
              go_roundw
              case rel => exact ⟨j + 1, t, by omega, by go_num, rfl, HIt, HST, ⟨HMt.out.below (below_alloc _ _)⟩, ⟨HBt.out.alloc hbt _⟩⟩
              case measure => simp [intOf]; omega
          · have hm1 := HMt.out.below (below_alloc wr (.cells #[.int .i64 xs[k].prfs[j].view, .int .i64 xs[k].prfs[j].seq, .string xs[k].prfs[j].body, .slice A2 xs[k].prfs[j].frm.length c2] 32))
            have hlt0 := HMt.out.lt
            have hlk := hm1.run_lookup K3 Try.underlying41 z43 xs[k].prfs[j].seq true
            have HM1 := Asd.mk hm1; clear hm1
            have hnx : bsStep t xs[k].prfs[j] = ⟨match t.f xs[k].prfs[j].seq with
                | none => fun q => if q = xs[k].prfs[j].seq then some (xs[k].prfs[j].view, xs[k].prfs[j].body) else t.f q
                | some b => if b.1 < xs[k].prfs[j].view then fun q => if q = xs[k].prfs[j].seq then some (xs[k].prfs[j].view, xs[k].prfs[j].body) else t.f q else t.f,
                if t.last < xs[k].prfs[j].seq then xs[k].prfs[j].seq else t.last⟩ := by unfold bsStep; rw [if_neg hs]
            have HIn := Asd.mk (bsIn_step HIt.out xs[k].prfs[j])
            have HNX := Asd.mk hnx; clear hnx
            have hs1 : ¬ xs[k].prfs[j].seq < 1 := fun h => hs (.inl h)
            have hs2 : ¬ 64 < xs[k].prfs[j].seq := fun h => hs (.inr h)
            clear hs
            cases hf : t.f xs[k].prfs[j].seq with
            | none =>
              simp only [bsMap, hf, Option.map_none, Option.getD_none, Option.isSome_none, if_true] at hlk
              have HF2 := Asd.mk hf; clear hf
              go_wp2_with (first | (at_mapUpdate; refine wpList_store_map rfl (.tmp 51) (.tmp 53) (.tmp 58) 41 rfl K3 (r := w.heap.size) (f := bsMap t) ?M1 Try.underlying41 rfl xs[k].prfs[j].seq rfl ?_))
              case M1 => exact HM1.out.below (below_alloc _ _)
              intro w2 HM2 hg2 hz2
              have hx2 : w2.heap[wr.heap.size]? = some (.cells #[.int .i64 xs[k].prfs[j].view, .int .i64 xs[k].prfs[j].seq, .string xs[k].prfs[j].body, .slice A2 xs[k].prfs[j].frm.length c2] 32 (0, 0)) := by
                rw [hg2.block _ (by simp; omega) (by simp; omega), box_old _ _ (by simp), box_new]
              have s1 := (box_cells hx2).1 1 _ rfl
              have HB2 : Below w.heap.size w w2 := ((HBt.out.alloc hbt _).alloc (by simp; omega) _).grown hg2 (by simp; omega) (fun k hk => by simp at hk; omega)
              have HM2 : Asd (MapAt (fun n : Int => .int .i64 n) w2 w.heap.size (bsMap (bsStep t xs[k].prfs[j]))) := by
                refine ⟨?_⟩
                have e : bsMap (bsStep t xs[k].prfs[j]) = fun k' => if k' = xs[k].prfs[j].seq then some (.agg #[.int .i64 xs[k].prfs[j].view, .string xs[k].prfs[j].body]) else bsMap t k' := by
                  funext q
                  rw [HNX.out]
                  simp only [bsMap, HF2.out]
                  split <;> rfl
                rw [e]; exact HM2
              have hz3 : w2.heap.size = wr.heap.size + 1 + 1 := by simpa using hz2
              clear hg2 hz2 hx2
              by_cases hmx : t.last < xs[k].prfs[j].seq
              all_goals
                go_wp2
                go_roundw
                case rel => exact ⟨j + 1, bsStep t xs[k].prfs[j], by omega, by go_num, (by rw [HNX.out]; simp [hmx]), HIn, HST, HM2, ⟨HB2⟩⟩
                case measure => simp [intOf]; omega
            | some bb =>
              simp only [bsMap, hf, Option.map_some, Option.getD_some, Option.isSome_some, if_true, encBest] at hlk
              have HF2 := Asd.mk hf; clear hf
              by_cases hv : bb.1 < xs[k].prfs[j].view
              · go_wp2_with (first | (at_mapUpdate; refine wpList_store_map rfl (.tmp 51) (.tmp 53) (.tmp 58) 41 rfl K3 (r := w.heap.size) (f := bsMap t) ?M2 Try.underlying41 rfl xs[k].prfs[j].seq rfl ?_))
                case M2 => exact HM1.out.below (below_alloc _ _)
                intro w2 HM2 hg2 hz2
                have hx2 : w2.heap[wr.heap.size]? = some (.cells #[.int .i64 xs[k].prfs[j].view, .int .i64 xs[k].prfs[j].seq, .string xs[k].prfs[j].body, .slice A2 xs[k].prfs[j].frm.length c2] 32 (0, 0)) := by
                  rw [hg2.block _ (by simp; omega) (by simp; omega), box_old _ _ (by simp), box_new]
                have s1 := (box_cells hx2).1 1 _ rfl
                have HB2 : Below w.heap.size w w2 := ((HBt.out.alloc hbt _).alloc (by simp; omega) _).grown hg2 (by simp; omega) (fun k hk => by simp at hk; omega)
                have HM2 : Asd (MapAt (fun n : Int => .int .i64 n) w2 w.heap.size (bsMap (bsStep t xs[k].prfs[j]))) := by
                  refine ⟨?_⟩
                  have e : bsMap (bsStep t xs[k].prfs[j]) = fun k' => if k' = xs[k].prfs[j].seq then some (.agg #[.int .i64 xs[k].prfs[j].view, .string xs[k].prfs[j].body]) else bsMap t k' := by
                    funext q
                    rw [HNX.out]
                    simp only [bsMap, HF2.out, hv, if_true]
                    split <;> rfl
                  rw [e]; exact HM2
                have hz3 : w2.heap.size = wr.heap.size + 1 + 1 := by simpa using hz2
                clear hg2 hz2 hx2
                by_cases hmx : t.last < xs[k].prfs[j].seq
                all_goals
                  go_wp2
                  go_roundw
                  case rel => exact ⟨j + 1, bsStep t xs[k].prfs[j], by omega, by go_num, (by rw [HNX.out]; simp [hmx]), HIn, HST, HM2, ⟨HB2⟩⟩
                  case measure => simp [intOf]; omega
              · have e : bsMap (bsStep t xs[k].prfs[j]) = bsMap t := by
                  funext q
                  rw [HNX.out]
                  simp only [bsMap, HF2.out, hv, if_false]
                have HM2 : Asd (MapAt (fun n : Int => .int .i64 n) ((wr.alloc (.cells #[.int .i64 xs[k].prfs[j].view, .int .i64 xs[k].prfs[j].seq, .string xs[k].prfs[j].body, .slice A2 xs[k].prfs[j].frm.length c2] 32)).alloc (.cells #[.int .i64 bb.1, .string bb.2] 43)) w.heap.size (bsMap (bsStep t xs[k].prfs[j]))) := ⟨by rw [e]; exact HM1.out.below (below_alloc _ _)⟩
                clear e
                by_cases hmx : t.last < xs[k].prfs[j].seq
                all_goals
                  go_wp2
                  go_roundw
                  case rel => exact ⟨j + 1, bsStep t xs[k].prfs[j], by omega, by go_num, (by rw [HNX.out]; simp [hmx]), HIn, HST, HM2, ⟨(HBt.out.alloc hbt _).alloc (by simp; omega) _⟩⟩
                  case measure => simp [intOf]; omega
        · go_wp2
          go_roundw
          case rel =>
            refine ⟨k + 1, t, by omega, by go_num, rfl, HIt, ⟨?_⟩, HMt, HBt.out⟩
            have hjj : j = xs[k].prfs.length := by omega
            rw [HEt.out, hjj, List.take_of_length_le (Nat.le_refl _), HE.out, ← List.foldl_append]
            congr 1
            rw [show xs.take (k + 1) = xs.take k ++ [xs[k]] from (List.take_append_getElem hlt).symm, List.flatMap_append]
            simp
          case measure => simp [intOf]; omega
    · have hk' : k = xs.length := by omega
      have hsE : s = bsAll xs := by rw [HE.out, hk', List.take_of_length_le (Nat.le_refl _)]; rfl
      have HSE := Asd.mk hsE
      have hl0 := HI.out.1
      have hl1 := HI.out.2
      clear hsE hk' HE
      obtain ⟨l, hl⟩ : ∃ l : Nat, s.last = l := ⟨s.last.toNat, by omega⟩
      have HL := Asd.mk hl
      rw [hl] at hl1 ⊢
      clear hl hl0
      go_wp2
      have HBo := Asd.mk HB
      clear HB
      go_loopw [11, 12] (fun v i wi => ∃ j : Nat, j ≤ l ∧ i = .int .i64 ((j : Int) + 1) ∧ Asd (Own strT 9 wi (w.heap.size + 1) (fun b => w.heap.size + 1 ≤ b) v ((bodies xs).take j)) ∧ Asd (MapAt (fun n : Int => .int .i64 n) wi w.heap.size (bsMap s)) ∧ Asd (Below w.heap.size w wi)) (fun _ i _ => l + 1 - (intOf i).toNat)
      case atStart => exact ⟨0, by omega, by go_num, ⟨by simpa using Own.nil ..⟩, HM, HBo⟩
      case round =>
        obtain ⟨j, hj, rfl, HO, HMj, HBj⟩ := hrel
        have hbl : (bodies xs).length = l := by simp [bodies, ← HSE.out, HL.out]
        have HBL := Asd.mk hbl
        clear hbl
        have hbj := HBj.out.size
        have hmr := HMj.out.lt
        by_cases hlt2 : j < l
        · have hjb : j < (bodies xs).length := by rw [HBL.out]; exact hlt2
          have hbe : (bodies xs)[j] = bodyAt s ((j : Int) + 1) := by simp [bodies, HSE.out]
          have HBE := Asd.mk hbe
          clear hbe
          have hlk := HMj.out.run_lookup K3 Try.underlying41 z43 ((j : Int) + 1) false
          have hval : ((bsMap s ((j : Int) + 1)).getD (.agg #[.int .i64 0, .string ⟨#[]⟩])) = .agg #[.int .i64 (((s.f ((j : Int) + 1)).map (·.1)).getD 0), .string (bodies xs)[j]] := by
            rw [HBE.out]; unfold bsMap bodyAt; cases s.f ((j : Int) + 1) <;> rfl
          simp only [hval, Bool.false_eq_true, if_false] at hlk
          clear hval
          generalize ((s.f ((j : Int) + 1)).map (·.1)).getD 0 = vv at hlk
          go_wp2_with (first | (at_builtin; refine wpList_app1 rfl (.tmp 70) (.tmp 75) 34 9 rfl strT 16 E9 (w.heap.size + 1) (fun b => w.heap.size + 1 ≤ b) _ ((bodies xs).take j) rfl ?a1 ⟨_, 0, none⟩ _ (bodies xs)[j] [.string (bodies xs)[j]] rfl ?a2 ?a3 ?a4 ?a5 ?a6 ?_))
          case a1 => exact HO.out.alloc _
          case a2 => exact new_cells rfl [.string (bodies xs)[j]] 9
          case a3 => rfl
          case a4 => have := List.length_take_le j (bodies xs); simp [maxLen]; omega
          case a5 => have := List.length_take_le j (bodies xs); omega
          case a6 => simp; omega
          intro v2 w2 HO2 hg2 _
          have hbk : ∀ q, u11.ownBlock = some q → w.heap.size + 1 ≤ q := fun q hq => (HO.out.blk q hq).1
          have HB2 : Below w.heap.size w w2 := (HBj.out.alloc hbj _).grown' hg2 (by simp; omega) (fun q hq => by have := hbk q hq; omega)
          have HM2 := Asd.mk ((HMj.out.below (below_alloc wr _)).keep (hg2.block _ (by simp; omega) (fun e => by have := hbk _ e.symm; omega)))
          have HO2 := Asd.mk HO2
          clear hg2 hlk
          go_wp2
          go_roundw
          case rel => exact ⟨j + 1, by omega, by go_num, HO2, HM2, ⟨HB2⟩⟩
          case measure => simp [intOf]; omega
        · go_wp2
          go_ret
          refine ⟨_, rfl, ?_, HBj.out⟩
          have := HO.out
          rw [List.take_of_length_le (by rw [HBL.out]; omega)] at this
          exact this.weak (by omega) (fun b hb => by omega)

theorem Rd.one {α : Type} {T : Ty α} {w : World} {S : Nat → Prop} {b : Nat} {cs : Array Value} {e : TypeId} {fr : Nat × Nat} {x : α} (hS : S b) (h : w.heap[b]? = some (.cells cs e fr)) (hK : T.K w S x cs.toList) : Rd T w S (some ⟨b, 0, none⟩) [x] := by
  intro k y hy
  have : k = 0 := by
    rcases Nat.eq_zero_or_pos k with h | h
    · exact h
    · rw [List.getElem?_eq_none (by simp; omega)] at hy; cases hy
  subst this
  simp at hy; subst hy
  refine ⟨b, 0, cs.toList, rfl, hS, (Array.getElem?_eq_some_iff.1 h).1, hK, fun i u hu => ?_⟩
  have hu' : cs[i]? = some u := by simpa using hu
  simp [World.cell?, h, hu']

theorem bodies_nil : bodies [] = [] := by simp [bodies, bsAll, bs0]
set_option maxHeartbeats 400000 in
theorem Fits_nil (s : ByteArray) (w : World) : Calls Try.prog 9 #[.slice none 0 0, .int .i64 1, .string s] w (RetBB w (fun b => b = !s.toList.isEmpty)) := by
  go_enter Try.func9, Try.ntmps9
  go_wp2_with fail
  refine (Bodies_any none 0 [] w (fun _ => False) (fun _ h => h.elim) ⟨by simp, by simp⟩ (Rd.nil _ _ _ _)).mono ?_
  rintro e w' ⟨v, rfl, HO, HB⟩
  rw [bodies_nil] at HO
  obtain ⟨A, c, rfl, _⟩ := HO.sl
  have HB := Asd.mk HB
  clear HO
  by_cases hs : s.toList.isEmpty = true
  · go_wp2
    go_ret
    exact ⟨false, by simp, HB.out, by simp [hs]⟩
  · have hs' : s.toList.isEmpty = false := by simpa using hs
    clear hs
    go_wp2
    go_ret
    exact ⟨true, by simp, HB.out, by simp [hs']⟩

def upC : List Chg := [⟨0, 0, [⟨1, 2, ⟨#[98]⟩, []⟩]⟩]
theorem bodies_up : bodies upC = [⟨#[]⟩, ⟨#[98]⟩] := by
  simp [bodies, bsAll, bs0, upC, bsStep, bodyAt]
  rfl
end Go.Proofs.Ytgppjcgcpjhjeaa
