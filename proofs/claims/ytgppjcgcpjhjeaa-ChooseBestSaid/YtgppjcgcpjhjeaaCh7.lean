/- The statement ChooseBest holds: for every input the call returns true, and what is handed in reads as it did. -/
import Derived.Test.YtgppjcgcpjhjeaaRows
import Derived.Test.YtgppjcgcpjhjeaaCh6
import Derived.Test.YtgppjcgcpjhjeaaOpen
namespace Go.Proofs.Ytgppjcgcpjhjeaa
open Go.ChangeShapes Go.WideShapes Go.ChangeAt Go.RowKit
open Go.ChangeMaps (open_string shut_string)

theorem opens_prf : Opens Try.prog 32 prfT := by
  intro H enc w fuel cs x hx
  obtain ⟨hl, n, hf⟩ := trod_fields Try.underlying32 hx
  have hc : Try.prog.cellsOf 32 = 4 := by kernel_rfl
  have c3 : Try.prog.cellsOf 3 = 1 := by kernel_rfl
  have c9 : Try.prog.cellsOf 9 = 1 := by kernel_rfl
  have c30 : Try.prog.cellsOf 30 = 1 := by kernel_rfl
  rw [hc] at hl
  match cs, hl with
  | [a, b, c, d], _ =>
    obtain ⟨y0, h0⟩ := hf 0 _ rfl
    obtain ⟨y1, h1⟩ := hf 1 _ rfl
    obtain ⟨y2, h2⟩ := hf 2 _ rfl
    obtain ⟨y3, h3⟩ := hf 3 _ rfl
    simp only [c3, c9, c30, List.drop_zero, List.drop_succ_cons, List.take_succ_cons, List.take_zero] at h0 h1 h2 h3
    obtain ⟨a', ha⟩ := opens_int Try.underlying3 H enc w n _ _ h0
    obtain ⟨b', hb⟩ := opens_int Try.underlying3 H enc w n _ _ h1
    obtain ⟨c', hc'⟩ := opens_string Try.underlying9 H enc w n _ _ h2
    obtain ⟨d', v, hd, hs⟩ := opens_slice Try.underlying30 c3 (by decide) (opens_int Try.underlying3) H enc w n _ _ h3
    injection ha with ha
    injection hb with hb
    injection hc' with hc'
    injection hd with hd
    subst ha; subst hb; subst hc'; subst hd
    exact ⟨⟨a', b', c', d'⟩, _, rfl, hs⟩
theorem opens_chg : Opens Try.prog 29 chgT := by
  intro H enc w fuel cs x hx
  obtain ⟨hl, n, hf⟩ := trod_fields Try.underlying29 hx
  have hc : Try.prog.cellsOf 29 = 3 := by kernel_rfl
  have c3 : Try.prog.cellsOf 3 = 1 := by kernel_rfl
  have c25 : Try.prog.cellsOf 25 = 1 := by kernel_rfl
  have c32 : Try.prog.cellsOf 32 = 4 := by kernel_rfl
  rw [hc] at hl
  match cs, hl with
  | [a, b, d], _ =>
    obtain ⟨y0, h0⟩ := hf 0 _ rfl
    obtain ⟨y1, h1⟩ := hf 1 _ rfl
    obtain ⟨y2, h2⟩ := hf 2 _ rfl
    simp only [c3, c25, List.drop_zero, List.drop_succ_cons, List.take_succ_cons, List.take_zero] at h0 h1 h2
    obtain ⟨a', ha⟩ := opens_int Try.underlying3 H enc w n _ _ h0
    obtain ⟨b', hb⟩ := opens_int Try.underlying3 H enc w n _ _ h1
    obtain ⟨d', v, hd, hs⟩ := opens_slice Try.underlying25 c32 (by decide) opens_prf H enc w n _ _ h2
    injection ha with ha
    injection hb with hb
    injection hd with hd
    subst ha; subst hb; subst hd
    exact ⟨⟨a', b', d'⟩, _, rfl, hs⟩

theorem own : ownKnob Try.prog.godebug = none := by kernel_rfl
theorem laidOut : laidOutB Try.prog = true := by kernel_rfl
set_option maxRecDepth 100000 in
theorem chooseBest_lifted (os : Os) (started : os.Started) (H : Type) (enc : TypeId × Value → H) :
    ReturnsInHanded {} Try.checked os 3 .any (Rows.chooseBestSpec.pre6 enc Try.prog Try.f3 Rows.chooseBestRow.domain false) (Rows.chooseBestSpec.post enc Try.prog Try.f3 false true false false) := by
  refine returnsInHanded_of_change_sized (C := Try.checked) own started (by kernel_rfl) Try.func3
    (ChangeSpec.witness6 (enc := enc) (C := Try.checked) false ⟨#[], #[.slice none 0 0, .int .i64 0, .string ByteArray.empty, .int .i64 0], []⟩ 8 (by kernel_rfl) (by kernel_rfl) (by kernel_rfl) (by kernel_rfl)) ?_
  intro W base args ds gs before hval0 hW hcnd hsz0 _
  have hval : ∀ (j : Nat) t v, Try.f3.params[j]? = some t → args[j]? = some v → Value.okWide Try.prog W .any base t v := hval0
  have hW' := hW
  obtain ⟨p, q, hA0, hV, rfl, hfz, hnd⟩ := hW
  have hA : DataW.TrodAll enc Try.prog W 0 (fun _ => true) true Try.f3.params.toList args.toList ds p := hA0
  rw [Try.params3] at hA hval
  obtain ⟨v0, vs0, d0, ds0, p0, q0, hargs, rfl, rfl, h0, r0⟩ := trodAll_cons hA
  obtain ⟨v1, vs1, d1, ds1, p1, q1, rfl, rfl, rfl, h1, r1⟩ := trodAll_cons r0
  obtain ⟨v2, vs2, d2, ds2, p2, q2, rfl, rfl, rfl, h2, r2⟩ := trodAll_cons r1
  obtain ⟨v3, vs3, d3, ds3, p3, q3, rfl, rfl, rfl, h3, r3⟩ := trodAll_cons r2
  obtain ⟨rfl, rfl, rfl⟩ := trodAll_nil r3
  obtain rfl : args = #[v0, v1, v2, v3] := by cases args; simp_all
  obtain ⟨rfl, rfl⟩ := trodVars_none hV
  obtain ⟨a0, len0, cap0, rfl⟩ := okWide_slice Try.underlying22 (hval 0 22 v0 rfl rfl)
  have lt0 : ∀ x ∈ p0, x.block < W.heap.size := by obtain ⟨m, hm⟩ := h0; exact DataW.trod_lt m _ _ _ hm
  obtain ⟨xs, A, c, e0, hc0, hc1, hc2, hrd⟩ := open_sl (opens_slice Try.underlying22 (by kernel_rfl) (by decide) opens_chg) h0 ⟨_, _, _, rfl⟩
  obtain ⟨a1, rfl, rfl, rfl, w1⟩ := open_int Try.underlying3 (hval 1 3 v1 rfl rfl) h1
  obtain ⟨a2, rfl, rfl, rfl, y2⟩ := open_string Try.underlying9 (hval 2 9 v2 rfl rfl) h2
  obtain ⟨a3, rfl, rfl, rfl, w3⟩ := open_int Try.underlying3 (hval 3 3 v3 rfl rfl) h3
  injection e0 with e0 e1 e2
  subst e0; subst e1; subst e2
  clear hA0 hval0 hsz0
  have hb3 : -9223372036854775808 ≤ a3 ∧ a3 ≤ 9223372036854775807 := bounds_i64 w3
  refine (loops_any _ _ xs a1 a3 a2 W (Nat.le_trans hc0 hc1) hc2 hrd hb3).mono fun e W' ⟨he, bel⟩ => ?_
  subst he
  exact ⟨_, rfl, _, _, _, [], _, [], hW', trodAll_mk1 (shut_bool Try.underlying4 _), (trodAll_cons_mk (Below.trod laidOut (by kernel_rfl) (of_decide_eq_true (by kernel_rfl)) h0 bel lt0) (trodAll_cons_mk (shut_int Try.underlying3 w1) (trodAll_cons_mk (shut_string Try.underlying9 y2) (trodAll_cons_mk (shut_int Try.underlying3 w3) trodAll_mk0)))), rfl, bel.frame _, fun h => by cases h⟩
theorem chooseBest_holds : Rows.ChooseBestSaid :=
  OpenClaim.holds_of_wide 3 Try.f3 rfl rfl rfl rfl rfl rfl rfl ⟨rfl, rfl, rfl, rfl, rfl⟩ rfl rfl rfl rfl rfl (by kernel_rfl) Try.func3 (by kernel_rfl)
    (of_decide_eq_true (by kernel_rfl)) (by unfold Func.isWrapper; first | (rw [if_pos (by decide +kernel)]; kernel_rfl) | (rw [if_neg (by decide +kernel)]; exact ⟨rfl, rfl⟩))
    (fun os started H enc _ => chooseBest_lifted os started H enc)
#print axioms chooseBest_holds
end Go.Proofs.Ytgppjcgcpjhjeaa
