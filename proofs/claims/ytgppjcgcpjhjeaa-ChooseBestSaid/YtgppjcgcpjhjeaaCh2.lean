/- Contracts: rows of proofs and changes that are the same are told to be the same (layer 12's reference). -/
import Derived.Test.YtgppjcgcpjhjeaaCh1
namespace Go.Proofs.Ytgppjcgcpjhjeaa
open Go.RowKit

set_option maxHeartbeats 400000 in
theorem ints_same (A1 A2 : Option Addr) (c1 c2 : Nat) (xs : List Int) (w : World) (S1 S2 : Nat → Prop) (hx : xs.length ≤ 100000) (h1 : Rd intT w S1 A1 xs) (h2 : Rd intT w S2 A2 xs) :
    Calls Try.prog 13 #[.slice A1 xs.length c1, .slice A2 xs.length c2] w (RetQ w (.bool true)) := by
  have H1 := Asd.mk h1; clear h1
  have H2 := Asd.mk h2; clear h2
  have hl2 : ((xs.length : Int) != (xs.length : Int)) = false := by simp
  go_enter Try.func13, Try.ntmps13
  go_wp2
  go_loopw [5] (fun i wr => ∃ k : Nat, k ≤ xs.length ∧ i = .int .i64 k ∧ Qt w wr) (fun i _ => xs.length - (intOf i).toNat)
  case atStart => exact ⟨0, by omega, rfl, Qt.refl _⟩
  case round =>
    obtain ⟨k, hk, rfl, HQ⟩ := hrel
    by_cases hlt : k < xs.length
    · obtain ⟨b1, o1, rfl, _, hb1, g1⟩ := (H1.out.qt HQ).cell hlt
      obtain ⟨b2, o2, rfl, _, hb2, g2⟩ := (H2.out.qt HQ).cell hlt
      have he2 : (xs[k] != xs[k]) = false := by simp
      go_wp2
      go_quiet (fail)
      go_wp2
      go_roundw
      case rel => exact ⟨k + 1, by omega, by go_num, HQ.step _⟩
      case measure => simp [intOf]; omega
    · go_wp2
      go_ret
      exact ⟨rfl, HQ⟩

set_option maxHeartbeats 1000000 in
theorem SameProofs_same (A1 A2 : Option Addr) (c1 c2 : Nat) (xs : List Prf) (w : World) (S1 S2 : Nat → Prop) (hf : FewP xs) (h1 : Rd prfT w S1 A1 xs) (h2 : Rd prfT w S2 A2 xs) :
    Calls Try.prog 12 #[.slice A1 xs.length c1, .slice A2 xs.length c2] w (RetQ w (.bool true)) := by
  have H1 := Asd.mk h1; clear h1
  have H2 := Asd.mk h2; clear h2
  have hn := hf.1
  have HF := Asd.mk hf; clear hf
  have hl2 : ((xs.length : Int) != (xs.length : Int)) = false := by simp
  go_enter Try.func12, Try.ntmps12
  go_wp2
  go_loopw [5] (fun i wr => ∃ k : Nat, k ≤ xs.length ∧ i = .int .i64 k ∧ Qt w wr) (fun i _ => xs.length - (intOf i).toNat)
  case atStart => exact ⟨0, by omega, rfl, Qt.refl _⟩
  case round =>
    obtain ⟨k, hk, rfl, HQ⟩ := hrel
    by_cases hlt : k < xs.length
    · obtain ⟨b1, o1, A1', c1', rfl, _, hb1, g10, g11, g12, g13, k11, k12, k13, k14⟩ := (H1.out.qt HQ).prf hlt
      obtain ⟨b2, o2, A2', c2', rfl, _, hb2, g20, g21, g22, g23, k21, k22, k23, k24⟩ := (H2.out.qt HQ).prf hlt
      have hp := HF.out.2 _ (List.getElem_mem hlt)
      have hcall : ∀ n, Calls Try.prog 13 #[.slice A1' xs[k].frm.length c1', .slice A2' xs[k].frm.length c2'] (wr.drewN n) (RetQ (wr.drewN n) (.bool true)) := fun n =>
        ints_same _ _ _ _ _ _ S1 S2 (by omega) (k14.qt ⟨n, rfl⟩) (k24.qt ⟨n, rfl⟩)
      have HC := Asd.mk hcall
      clear hcall k13 k14 k23 k24 hp
      have e1 : (xs[k].view != xs[k].view) = false := by simp
      have e2 : (xs[k].seq != xs[k].seq) = false := by simp
      have e3 : (xs[k].body.toList != xs[k].body.toList) = false := by simp
      go_wp2
      go_quiet ((go_at_call 13; exact RetQ.qu (HC.out _)))
      go_wp2
      go_roundw
      case rel => exact ⟨k + 1, by omega, by go_num, HQ.step _⟩
      case measure => simp [intOf]; omega
    · go_wp2
      go_ret
      exact ⟨rfl, HQ⟩


/-- The world behind two boxes. -/
def msgBox (A : Option Addr) (n c : Nat) : Obj := .cells #[.int .i64 0, .int .i64 0, .int .i64 0, .int .i64 0, .string ⟨#[]⟩, .slice none 0 0, .slice A n c] 27

set_option maxHeartbeats 1000000 in
theorem Same_same (A1 A2 : Option Addr) (c1 c2 : Nat) (xs : List Chg) (w : World) (S1 S2 : Nat → Prop) (hf : FewC xs) (h1 : Rd chgT w S1 A1 xs) (h2 : Rd chgT w S2 A2 xs) :
    Calls Try.prog 8 #[.agg #[.int .i64 0, .int .i64 0, .int .i64 0, .int .i64 0, .string ⟨#[]⟩, .slice none 0 0, .slice A1 xs.length c1], .agg #[.int .i64 0, .int .i64 0, .int .i64 0, .int .i64 0, .string ⟨#[]⟩, .slice none 0 0, .slice A2 xs.length c2]] w
      (RetBB w (· = true)) := by
  have H1 := Asd.mk h1; clear h1
  have H2 := Asd.mk h2; clear h2
  have hn := hf.1
  have HF := Asd.mk hf; clear hf
  have hl2 : ((xs.length : Int) != (xs.length : Int)) = false := by simp
  go_enter Try.func8, Try.ntmps8
  go_wp2_with fail
  refine (SameProofs_same none none 0 0 [] _ (fun _ => True) (fun _ => True) ⟨by simp, by simp⟩ (Rd.nil _ _ _ _) (Rd.nil _ _ _ _)).mono ?_
  rintro e w' ⟨rfl, hq⟩
  have hB : Below w.heap.size w w' := ((below_alloc w _).alloc' _).next hq.below
  have hx1 : w'.heap[w.heap.size]? = some (msgBox A1 xs.length c1) := by
    rw [hq.below.block _ (by simp; omega), box_old _ _ (by simp), box_new]; rfl
  have hx2 : w'.heap[w.heap.size + 1]? = some (msgBox A2 xs.length c2) := by
    rw [hq.below.block _ (by simp)]
    have := box_new (w.alloc (msgBox A1 xs.length c1)) (msgBox A2 xs.length c2)
    simpa [msgBox] using this
  have HX1 := Asd.mk hx1
  have HX2 := Asd.mk hx2
  have HB := Asd.mk hB
  have p1 := (box_cells hx1).1 6 _ rfl
  have p2 := (box_cells hx2).1 6 _ rfl
  clear hx1 hx2 hq hB
  go_wp2
  clear p1 p2
  go_loopw [5] (fun i wr => ∃ k : Nat, k ≤ xs.length ∧ i = .int .i64 k ∧ Asd (Qt w' wr)) (fun i _ => xs.length - (intOf i).toNat)
  case atStart => exact ⟨0, by omega, rfl, ⟨Qt.refl _⟩⟩
  case round =>
    obtain ⟨k, hk, rfl, HQ⟩ := hrel
    have bq := HQ.out.below
    obtain ⟨q1, _, b1⟩ := box_cells (w := wr) (g := w.heap.size) (by rw [bq.block _ (box_cells HX1.out).2.2, HX1.out]; rfl)
    obtain ⟨q2, _, b2⟩ := box_cells (w := wr) (g := w.heap.size + 1) (by rw [bq.block _ (box_cells HX2.out).2.2, HX2.out]; rfl)
    have p1 := q1 6 _ rfl
    have p2 := q2 6 _ rfl
    clear q1 q2 bq
    by_cases hlt : k < xs.length
    · obtain ⟨b1, o1, A1', c1', rfl, _, hb1, g10, g11, g12, k11, k12, k13, k14⟩ := ((H1.out.below HB.out).qt HQ.out).chg hlt
      obtain ⟨b2, o2, A2', c2', rfl, _, hb2, g20, g21, g22, k21, k22, k23, k24⟩ := ((H2.out.below HB.out).qt HQ.out).chg hlt
      have hp := HF.out.2 _ (List.getElem_mem hlt)
      have hcall : ∀ n, Calls Try.prog 12 #[.slice A1' xs[k].prfs.length c1', .slice A2' xs[k].prfs.length c2'] (wr.drewN n) (RetQ (wr.drewN n) (.bool true)) := fun n =>
        SameProofs_same _ _ _ _ _ _ S1 S2 hp (k14.qt ⟨n, rfl⟩) (k24.qt ⟨n, rfl⟩)
      have HC := Asd.mk hcall
      clear hcall k13 k14 k23 k24 hp
      have e1 : (xs[k].view != xs[k].view) = false := by simp
      have e2 : (xs[k].frm != xs[k].frm) = false := by simp
      go_wp2
      go_quiet ((go_at_call 12; exact RetQ.qu (HC.out _)))
      go_wp2
      go_roundw
      case rel => exact ⟨k + 1, by omega, by go_num, ⟨HQ.out.step _⟩⟩
      case measure => simp [intOf]; omega
    · go_wp2
      go_ret
      exact ⟨true, rfl, HB.out.next HQ.out.below, rfl⟩
end Go.Proofs.Ytgppjcgcpjhjeaa
