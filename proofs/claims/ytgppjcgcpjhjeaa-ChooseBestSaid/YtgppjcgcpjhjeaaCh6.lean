/- The statement ChooseBest: its walk. -/
import Derived.Test.YtgppjcgcpjhjeaaCh2
import Derived.Test.YtgppjcgcpjhjeaaCh5
namespace Go.Proofs.Ytgppjcgcpjhjeaa
open Go.RowKit

def RetTrue (w : World) (e : Ending) (w' : World) : Prop := e = .returned (.bool true) ∧ Below w.heap.size w w'
def bare (c : Chg) : Chg := ⟨c.frm, c.view, []⟩
/-- All proofs of a place are of views below v. -/
def LowV (seq v : Int) (l : List Chg) : Prop := ∀ c ∈ l, ∀ p ∈ c.prfs, p.seq = seq → p.view < v

set_option maxRecDepth 100000 in
set_option maxHeartbeats 2000000 in
theorem loops_any (A : Option Addr) (c : Nat) (xs : List Chg) (seq at_ : Int) (body : ByteArray) (w : World) (hx : xs.length ≤ maxLen) (hc : A = none → c = 0) (h : Rd chgT w (· < w.heap.size) A xs)
    (ha : -9223372036854775808 ≤ at_ ∧ at_ ≤ 9223372036854775807) :
    Calls Try.prog 3 #[.slice A xs.length c, .int .i64 seq, .string body, .int .i64 at_] w (RetTrue w) := by
  unfold maxLen at hx
  have H := Asd.mk h; clear h
  go_enter Try.func3, Try.ntmps3
  go_wp2_with fail
  refine (up_any _).mono ?_
  rintro e w1 ⟨b, rfl, HB1, rfl⟩
  have HB1 := Asd.mk HB1
  go_wp2_with fail
  refine (Short_any A c xs w1 (· < w.heap.size) (by unfold maxLen; omega) (H.out.below HB1.out)).mono ?_
  rintro e w2 ⟨b, rfl, HB2, hb⟩
  have HB2 := Asd.mk (HB1.out.next HB2)
  cases b with
  | false =>
    clear hb
    go_wp2
    all_goals
      go_ret
      exact ⟨rfl, HB2.out⟩
  | true =>
    have HF := Asd.mk (hb rfl).1
    have HF2 := Asd.mk (hb rfl).2
    have hn := HF.out.1
    clear hb
    have hs : seq < 1 ∨ (¬ seq < 1 ∧ 64 < seq) ∨ (¬ seq < 1 ∧ ¬ 64 < seq ∧ ((xs.length : Int) == 0) = true) ∨ (¬ seq < 1 ∧ ¬ 64 < seq ∧ ((xs.length : Int) == 0) = false) := by
      cases ((xs.length : Int) == 0) <;> simp <;> omega
    rcases hs with hs | ⟨hs1, hs⟩ | ⟨hs1, hs2, hs⟩ | ⟨hs1, hs2, hs3⟩
    · go_wp2
      go_ret
      exact ⟨rfl, HB2.out⟩
    · go_wp2
      go_ret
      exact ⟨rfl, HB2.out⟩
    · go_wp2
      go_ret
      exact ⟨rfl, HB2.out⟩
    · have hs4 : 0 < xs.length := by rw [beq_eq_false_iff_ne] at hs3; omega
      go_wp2
      clear HB1
      go_loopw [11, 12, 13, 14] (fun v u i _ wr => ∃ (k : Nat) (view : Int), k ≤ xs.length ∧ i = .int .i64 k ∧ v = .int .i64 view ∧ 0 ≤ view ∧ view ≤ 1000 ∧ Asd (LowV seq view (xs.take k)) ∧ Asd (Own chgT 29 wr w.heap.size (fun b => w.heap.size ≤ b) u ((xs.take k).map bare)) ∧ Asd (Below w.heap.size w wr)) (fun _ _ i _ _ => xs.length - (intOf i).toNat)
      case atStart => exact ⟨0, 0, by omega, rfl, rfl, by omega, by omega, ⟨by simp [LowV]⟩, ⟨by simpa using Own.nil ..⟩, HB2⟩
      case round =>
        obtain ⟨k, view, hk, rfl, rfl, hv0, hv1, HL, HO, HB⟩ := hrel
        by_cases hlt : k < xs.length
        · obtain ⟨b, off, A', c', rfl, hS, hb, g0, g1, g2, h1, h2, h3, h4⟩ := (H.out.below HB.out).chg hlt
          have H4 := Asd.mk h4; clear h4 h3
          have hbs := HB.out.size
          have HA4 : Asd (((xs.take k).map bare).length + 1 ≤ maxLen) := ⟨by have := List.length_take_le k xs; simp [maxLen]; omega⟩
          have HA5 : Asd ((((xs.take k).map bare).length + 1) * 40 ≤ 140737488355328) := ⟨by have := List.length_take_le k xs; simp; omega⟩
          go_wp2
          have hk0 : (0 : Int) ≤ (k : Int) := Int.natCast_nonneg _
          have hk1 : (k : Int) < (xs.length : Int) := by omega
          go_region_held3 (fun w' => w'.cell? ⟨b, off + k * 3, none⟩ = some (.int .i64 xs[k].frm) ∧ w'.cell? ⟨b, off + k * 3 + 1, none⟩ = some (.int .i64 xs[k].view))
            (first | go_keep | (go_split_ands; refine ⟨?_, ?_⟩ <;> (rw [hg2.cell_far _ (by simp; omega) (by intro e; have := (HO.out.blk _ e.symm).1; simp at this; omega)]; assumption)))
            ((refine step_app1 (by rfl) (.tmp 45) (.tmp 57) 22 29 (by rfl) chgT 40 E29 w.heap.size (fun b => w.heap.size ≤ b) u12 ((xs.take k).map bare) (by rfl) ((HO.out.alloc _).drew) ⟨wr.heap.size, 0, none⟩ 1 (bare xs[k]) [.int .i64 xs[k].frm, .int .i64 xs[k].view, .slice none 0 0] (by rfl) (new_cells rfl [.int .i64 xs[k].frm, .int .i64 xs[k].view, .slice none 0 0] 29) ⟨_, rfl, Sl.nil ..⟩ HA4.out HA5.out (Nat.le_trans hbs (by simp)) ?_; intro v2 w2 HO2 hg2 hat2))
          have hbk : ∀ q, u12.ownBlock = some q → w.heap.size ≤ q := fun q hq => (HO.out.blk q hq).1
          have HB2' : Asd (Below w.heap.size w w2) := ⟨((HB.out.alloc hbs _).drew).grown' hg2 (Nat.le_trans hbs (by simp)) hbk⟩
          have HO2 : Asd (Own chgT 29 w2 w.heap.size (fun b => w.heap.size ≤ b) v2 ((xs.take (k + 1)).map bare)) := by
            refine ⟨?_⟩
            rw [show xs.take (k + 1) = xs.take k ++ [xs[k]] from (List.take_append_getElem hlt).symm, List.map_append]
            exact HO2
          have HBw := HB
          clear hg2 hat2 HA4 HA5 HO hbk
          clear g0 g1
          have hbw : b < w.heap.size := hS
          have G2 : Asd (w.cell? ⟨b, off + k * 3 + 2, none⟩ = some (.slice A' xs[k].prfs.length c')) := ⟨by rw [← HB.out.cell (p := ⟨b, off + k * 3 + 2, none⟩) hbw]; exact g2⟩
          clear g2
          have hPn := (HF.out.2 _ (List.getElem_mem hlt)).1
          go_wp2
          go_loopw [11, 14] (fun v i wi => ∃ (j : Nat) (vw : Int), j ≤ xs[k].prfs.length ∧ i = .int .i64 j ∧ v = .int .i64 vw ∧ 0 ≤ vw ∧ vw ≤ 1000 ∧ Asd (LowV seq vw (xs.take k)) ∧ Asd (∀ p ∈ xs[k].prfs.take j, p.seq = seq → p.view < vw) ∧ Asd (Own chgT 29 wi w.heap.size (fun b => w.heap.size ≤ b) v2 ((xs.take (k + 1)).map bare)) ∧ Asd (Below w.heap.size w wi)) (fun _ i _ => xs[k].prfs.length - (intOf i).toNat)
          case atStart => exact ⟨0, view, by omega, rfl, rfl, hv0, hv1, HL, ⟨by simp⟩, HO2, HB2'⟩
          case round =>
            obtain ⟨j, vw, hj, rfl, rfl, hw0, hw1, HLj, HPj, HOj, HBj⟩ := hrel
            have hbj := HBj.out.size
            have g2 : wr.cell? ⟨b, off + k * 3 + 2, none⟩ = some (.slice A' xs[k].prfs.length c') := by rw [HBj.out.cell (p := ⟨b, off + k * 3 + 2, none⟩) hbw]; exact G2.out
            by_cases hjt : j < xs[k].prfs.length
            · obtain ⟨b2, o2, A2, c2, e2, _, hb2, p0, p1, p2, p3, _, _, _, _⟩ := (H4.out.two (fun _ h => h) HBw.out HBj.out).prf hjt
              subst e2
              have HOa := Asd.mk (HOj.out.alloc (.cells #[.int .i64 xs[k].prfs[j].view, .int .i64 xs[k].prfs[j].seq, .string xs[k].prfs[j].body, .slice A2 xs[k].prfs[j].frm.length c2] 32))
              have HBa : Asd (Below w.heap.size w (wr.alloc (.cells #[.int .i64 xs[k].prfs[j].view, .int .i64 xs[k].prfs[j].seq, .string xs[k].prfs[j].body, .slice A2 xs[k].prfs[j].frm.length c2] 32))) := ⟨HBj.out.alloc hbj _⟩
              by_cases e : xs[k].prfs[j].seq = seq
              · have e1 : (xs[k].prfs[j].seq == seq) = true := by rw [beq_iff_eq]; exact e
                have E := Asd.mk e
                clear e
                by_cases hv : vw ≤ xs[k].prfs[j].view
                · by_cases h1k : xs[k].prfs[j].view < 1000
                  · have hnv : 0 ≤ xs[k].prfs[j].view := by omega
                    go_wp2
                    go_roundw
                    case rel =>
                      refine ⟨j + 1, xs[k].prfs[j].view + 1, by omega, by go_num, rfl, by omega, by omega, ⟨fun c hc p hp e => by have := HLj.out c hc p hp e; omega⟩, ⟨fun p hp e => ?_⟩, HOa, HBa⟩
                      rw [← List.take_append_getElem hjt] at hp
                      rcases List.mem_append.1 hp with h | h
                      · have := HPj.out p h e; omega
                      · simp at h; subst h; omega
                    case measure => simp [intOf]; omega
                  · go_wp2
                    go_ret
                    exact ⟨rfl, HBa.out⟩
                · go_wp2
                  go_roundw
                  case rel =>
                    refine ⟨j + 1, vw, by omega, by go_num, rfl, by omega, by omega, HLj, ⟨fun p hp e => ?_⟩, HOa, HBa⟩
                    rw [← List.take_append_getElem hjt] at hp
                    rcases List.mem_append.1 hp with h | h
                    · exact HPj.out p h e
                    · simp at h; subst h; omega
                  case measure => simp [intOf]; omega
              · have e1 : (xs[k].prfs[j].seq == seq) = false := by rw [beq_eq_false_iff_ne]; exact e
                have E := Asd.mk e
                clear e
                go_wp2
                go_roundw
                case rel =>
                  refine ⟨j + 1, vw, by omega, by go_num, rfl, by omega, by omega, HLj, ⟨fun p hp e => ?_⟩, HOa, HBa⟩
                  rw [← List.take_append_getElem hjt] at hp
                  rcases List.mem_append.1 hp with h | h
                  · exact HPj.out p h e
                  · simp at h; subst h; exact absurd e E.out
                case measure => simp [intOf]; omega
            · have hje : j = xs[k].prfs.length := by omega
              have HJE := Asd.mk hje
              clear hje
              go_wp2
              go_roundw
              case rel =>
                refine ⟨k + 1, vw, by omega, by go_num, rfl, hw0, hw1, ⟨fun c hc p hp e => ?_⟩, HOj, HBj⟩
                rw [← List.take_append_getElem hlt] at hc
                rcases List.mem_append.1 hc with h | h
                · exact HLj.out c h p hp e
                · simp at h; subst h
                  have := HPj.out p (by rw [HJE.out, List.take_of_length_le (Nat.le_refl _)]; exact hp) e
                  exact this
              case measure => simp [intOf]; omega
        · have hk' : k = xs.length := by omega
          have hLV : Asd (LowV seq view xs) := ⟨by have := HL.out; rwa [hk', List.take_of_length_le (Nat.le_refl _)] at this⟩
          have hON : Asd (Own chgT 29 wr w.heap.size (fun b => w.heap.size ≤ b) u12 (xs.map bare)) := ⟨by have := HO.out; rwa [hk', List.take_of_length_le (Nat.le_refl _)] at this⟩
          clear hk' HL HO
          have hn0 : (0 : Int) < (xs.length : Int) := by omega
          have hn1 : (xs.length : Int) ≠ 0 := by omega
          have hpos : ∃ j : Nat, j < xs.length ∧ -(at_ + 1).tmod ↑xs.length = (j : Int) ∨ 0 ≤ at_ := by
            by_cases h : 0 ≤ at_
            · exact ⟨0, .inr h⟩
            · have h1 : 0 ≤ -(at_ + 1) := by omega
              have h2 := Int.emod_nonneg (-(at_ + 1)) hn1
              have h3 := Int.emod_lt_of_pos (-(at_ + 1)) hn0
              refine ⟨((-(at_ + 1)) % (xs.length : Int)).toNat, .inl ⟨by omega, ?_⟩⟩
              rw [← Int.neg_tmod, Int.tmod_eq_emod_of_nonneg h1]; omega
          have hpos2 : ∃ j : Nat, j < xs.length ∧ at_ % ↑xs.length = (j : Int) := by
            have h2 := Int.emod_nonneg at_ hn1
            have h3 := Int.emod_lt_of_pos at_ hn0
            exact ⟨(at_ % (xs.length : Int)).toNat, by omega, by omega⟩
          have HP := Asd.mk hpos
          have HP2 := Asd.mk hpos2
          clear hpos hpos2 hn1
          obtain ⟨cur, hcur⟩ : ∃ cur : Int, cur = at_ := ⟨_, rfl⟩
          by_cases hat : at_ < 0
          case' pos =>
            have h1 : 0 ≤ -(at_ + 1) := by omega
            have h2 : -(at_ + 1) ≤ 9223372036854775807 := by omega
            go_wp2_with fail
            obtain ⟨j, hj, ej⟩ : ∃ j : Nat, j < xs.length ∧ -(at_ + 1).tmod ↑xs.length = (j : Int) := by
              obtain ⟨j, h | h⟩ := HP.out
              · exact ⟨j, h⟩
              · omega
            rw [ej]
            clear ej h1 h2
          case' neg =>
            go_wp2_with fail
            obtain ⟨j, hj, ej⟩ := HP2.out
            rw [ej]
            clear ej
          all_goals
            clear hat HP HP2 ha hcur
            refine (Changes_any A c xs wr (· < w.heap.size) (fun b hb => by have := HB.out.size; omega) HF.out (H.out.below HB.out)).mono ?_
            rintro e w3 ⟨v3, us, rfl, hul, HO3, HD3, HB3⟩
            have hbs := HB.out.size
            obtain ⟨g, cap, rfl, hgc, hgm, R⟩ := chgRow_open HO3 hul hs4
            have hju : j < us.length := by omega
            obtain ⟨_, _, k2⟩ := R.cells j hj hju
            have hgl := R.ty.lt
            have hgb := R.base
            obtain ⟨Au, cu, hue, hu1, hu2, hu3, _⟩ := (R.own j hj hju).sl
            rw [hue] at k2
            have HUE := Asd.mk hue
            have HR := Asd.mk R
            have HBr3 := Asd.mk HB3
            have HB3 := Asd.mk (HB.out.next HB3)
            have HD3 := Asd.mk HD3
            have HUL := Asd.mk hul
            have HF3 := Asd.mk (HF2.out _ (List.getElem_mem hj))
            clear R hul hue hu3 HO3
            have hj0 : (0 : Int) ≤ (j : Int) := Int.natCast_nonneg _
            have hj1 : (j : Int) < (xs.length : Int) := by omega
            go_wp2_with (first | (at_builtin; refine wpList_app1 rfl (.tmp 122) (.tmp 127) 25 32 rfl prfT 56 E32 wr.heap.size (Sty (w3.alloc (.cells #[.int .i64 view, .int .i64 seq, .string body, .slice none 0 0] 32)) wr.heap.size 3) (.slice Au xs[j].prfs.length cu) xs[j].prfs rfl ?a1 ⟨w3.heap.size, 0, none⟩ 1 ⟨view, seq, body, []⟩ [.int .i64 view, .int .i64 seq, .string body, .slice none 0 0] rfl ?a2 ?a3 ?a4 ?a5 ?a6 ?_))
            case a1 => rw [← HUE.out]; exact ((HR.out.own j hj hju).below (below_alloc _ _)).weak (Nat.le_refl _) (fun b hb => hb.below (below_alloc _ _))
            case a2 => exact new_cells rfl [.int .i64 view, .int .i64 seq, .string body, .slice none 0 0] 32
            case a3 => exact ⟨_, rfl, Sl.nil ..⟩
            case a4 => have := HF3.out; simp [maxLen]; omega
            case a5 => have := HF3.out; omega
            case a6 => have := HB3.out.size; simp; omega
            intro v4 w4 HO4 hg4 _
            have hrd5 := chgRow_grown HR.out HUL.out HD3.out hj hju (below_alloc w3 (.cells #[.int .i64 view, .int .i64 seq, .string body, .slice none 0 0] 32)) HO4 (by rw [HUE.out]; exact hg4)
            obtain ⟨A4, c4, e4, _⟩ := HO4.sl
            simp only [List.length_append, List.length_cons, List.length_nil, Nat.zero_add] at e4
            subst e4
            have hg4e : w4.heap[g]? = w3.heap[g]? := by
              rw [hg4.block g (by simp; omega) (fun e => ((HR.out.ty.below (below_alloc _ _)).ne (((HR.out.own j hj hju).ty g (by rw [HUE.out]; exact e.symm)).below (below_alloc w3 (.cells #[.int .i64 view, .int .i64 seq, .string body, .slice none 0 0] 32))) (by decide)) rfl), box_old _ _ hgl]
            have k4 : w4.cell? ⟨g, j * 3 + 2, none⟩ = some (.slice Au xs[j].prfs.length cu) := by rw [World.cell?_of_block (w := w3) (a := ⟨g, j * 3 + 2, none⟩) hg4e]; exact k2
            have f4 : w4.frozen? ⟨g, j * 3 + 2, none⟩ = false := by rw [World.frozen?_of_block (w := w3) (a := ⟨g, j * 3 + 2, none⟩) hg4e]; exact HR.out.froz _
            have hz4 := hg4.size
            have hwl : w.heap.size ≤ g := by omega
            have HB5 : Asd (Below w.heap.size w (w4.setCell ⟨g, j * 3 + 2, none⟩ (.slice A4 (xs[j].prfs.length + 1) c4))) := by
              have := HB3.out.size
              exact ⟨(((HB3.out.alloc (by omega) _).grown' hg4 (by simp; omega) (fun q hq => by have := ((HR.out.own j hj hju).blk q (by rw [HUE.out]; exact hq)).1; omega))).setCell (p := ⟨g, j * 3 + 2, none⟩) hwl _⟩
            have HBr : Asd (Below wr.heap.size wr (w4.setCell ⟨g, j * 3 + 2, none⟩ (.slice A4 (xs[j].prfs.length + 1) c4))) := by
              have := HBr3.out.size
              exact ⟨(((HBr3.out.alloc (by omega) _).grown' hg4 (by simp; omega) (fun q hq => by have := ((HR.out.own j hj hju).blk q (by rw [HUE.out]; exact hq)).1; omega))).setCell (p := ⟨g, j * 3 + 2, none⟩) hgb _⟩
            have HRD5 := Asd.mk hrd5
            have hg4z : w3.heap.size + 1 ≤ w4.heap.size := by simpa using hz4
            clear hg4 hg4e hrd5 k2 HO4 hz4
            have hlw : (withOne xs j ⟨view, seq, body, []⟩).length = xs.length := by simp [withOne]
            have hfw : FewC (withOne xs j ⟨view, seq, body, []⟩) := by
              refine ⟨by omega, fun c hc => ?_⟩
              unfold withOne at hc
              rcases List.mem_or_eq_of_mem_set hc with h | h
              · exact HF.out.2 c h
              · rw [List.getElem?_eq_getElem hj] at h
                subst h
                refine ⟨by have := HF3.out; simp; omega, fun p hp => ?_⟩
                rcases List.mem_append.1 hp with h | h
                · exact (HF.out.2 _ (List.getElem_mem hj)).2 p h
                · simp at h; subst h; simp
            have HBEST := Asd.mk (best_chosen xs j hj seq view body (by omega) (by omega) hLV.out)
            have HFW := Asd.mk hfw
            have HLW := Asd.mk hlw
            generalize hxs' : withOne xs j ⟨view, seq, body, []⟩ = xs' at HBEST HFW HLW HRD5
            clear hfw hlw hxs'
            go_wp2_with fail
            generalize w4.setCell ⟨g, j * 3 + 2, none⟩ (.slice A4 (xs[j].prfs.length + 1) c4) = w5 at HB5 HBr HRD5 ⊢
            have hr5 := HRD5.out.mono (S' := (· < w5.heap.size)) fun b _ hb => ⟨rfl, hb⟩
            have hcall := Changes_any (some ⟨g, 0, none⟩) cap xs' w5 (· < w5.heap.size) (fun b hb => hb) HFW.out hr5
            rw [HLW.out] at hcall
            refine hcall.mono ?_
            rintro e w6 ⟨v6, us6, rfl, hul6, HO6, _, HB6⟩
            obtain ⟨A6, c6, e6, g61, g62, g63, HR6⟩ := chgU_sl HO6 hul6
            subst e6
            have HR6 := Asd.mk (HR6.mono (S' := (· < w6.heap.size)) fun b _ hb => ⟨rfl, hb⟩)
            have HR5 := Asd.mk ((hr5.below HB6).mono (S' := (· < w6.heap.size)) fun b _ hb => ⟨rfl, hb⟩)
            have HB6 := Asd.mk HB6
            clear hr5 hcall HO6 hul6 g63 g61 g62 k4 f4
            rw [HLW.out]
            go_wp2_with fail
            have hcall := Bodies_any (some ⟨g, 0, none⟩) cap xs' w6 (· < w6.heap.size) (fun b hb => hb) HFW.out HR5.out
            rw [HLW.out] at hcall
            refine hcall.mono ?_
            rintro e w7 ⟨v7, rfl, HO7, HB7⟩
            obtain ⟨A7, c7, e7, g71, g72, g73, HR7⟩ := HO7.sl
            subst e7
            have hb1 := HBEST.out.1
            have hlt7 : (seq - 1).toNat < (bodies xs').length := by omega
            obtain ⟨b7, o7, rfl, _, hb7, q7⟩ := HR7.cell hlt7
            have hq7 : (bodies xs')[(seq - 1).toNat] = body := by
              have := HBEST.out.2
              rw [List.getElem?_eq_getElem hlt7] at this
              injection this
            rw [hq7] at q7
            have HB7 := Asd.mk HB7
            clear hq7 HO7 HR7 hcall hlt7
            have hz7 : (bodies xs').length ≤ 9223372036854775807 := by unfold maxLen at g72; omega
            go_wp2_with fail
            have hcall := Same_same (some ⟨g, 0, none⟩) A6 cap c6 xs' w7 (· < w6.heap.size) (· < w6.heap.size) HFW.out (HR5.out.below HB7.out) (HR6.out.below HB7.out)
            rw [HLW.out] at hcall
            refine hcall.mono ?_
            rintro e w8 ⟨b8, rfl, HB8, rfl⟩
            have p8 : w8.cell? ⟨b7, o7 + (seq - 1).toNat, none⟩ = some (.string body) := by rw [HB8.cell (p := ⟨b7, o7 + (seq - 1).toNat, none⟩) hb7]; exact q7
            rw [show (seq - 1).toNat = seq.toNat - 1 from by omega] at p8
            have hbd : (body.toList != body.toList) = false := by simp
            have hs0 : 0 ≤ seq - 1 := by omega
            have hs9 : seq - 1 < ((bodies xs').length : Int) := by omega
            have HB8 := Asd.mk (((HB6.out.next HB7.out)).next HB8)
            clear hcall q7
            obtain ⟨A12, c12, e12, _, _, _, HR12⟩ := ((hON.out.below (HBr.out.next HB8.out))).sl
            subst e12
            have HR12 := Asd.mk (HR12.mono (S' := (· < w8.heap.size)) fun b _ hb => ⟨rfl, hb⟩)
            have hl12 : (xs.map bare).length = xs.length := by simp
            have hf12 : FewC (xs.map bare) := ⟨by omega, fun c hc => by
              obtain ⟨c', _, rfl⟩ := List.mem_map.1 hc
              exact ⟨by simp [bare], by simp [bare]⟩⟩
            have hb12 : bodies (xs.map bare) = [] := bodies_none _ fun c hc => by
              obtain ⟨c', _, rfl⟩ := List.mem_map.1 hc
              rfl
            have hcall := Bodies_any A12 c12 (xs.map bare) w8 (· < w8.heap.size) (fun b hb => hb) hf12 HR12.out
            rw [hb12] at hcall
            have HC := Asd.mk hcall
            clear hcall hb12 hf12 HR12
            go_wp2_with fail
            rw [show xs.length = (xs.map bare).length from by simp]
            refine HC.out.mono ?_
            rintro e w9 ⟨v9, rfl, HO9, HB9⟩
            obtain ⟨A9, c9, e9, _⟩ := HO9.sl
            subst e9
            have HB9 := Asd.mk (HB5.out.next (HB8.out.next HB9))
            clear HO9
            go_wp2
            go_ret
            exact ⟨rfl, HB9.out⟩
end Go.Proofs.Ytgppjcgcpjhjeaa
