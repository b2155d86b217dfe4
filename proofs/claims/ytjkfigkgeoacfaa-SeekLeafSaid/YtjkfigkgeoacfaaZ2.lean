/- SeekLeaf: whatever the plan, the byte and the key: the law returns true, and each argument reads behind the call as it read before. No condition. -/
import Derived.Test.YtjkfigkgeoacfaaZ0
import Derived.Test.YtjkfigkgeoacfaaX1
set_option linter.unusedVariables false
set_option linter.unusedSimpArgs false
namespace Go.Proofs.Ytjkfigkgeoacfaa
open Go.ChangeShapes Go.WideShapes Go.ChangeAt Go.RowKit

set_option maxRecDepth 100000 in
theorem seekLeaf_lifted (hwalk : Walk3 6) (os : Os) (started : os.Started) (H : Type) (enc : TypeId × Value → H) :
    ReturnsInHanded {} Try.checked os 6 .any (Rows.seekLeafSpec.pre6 enc Try.prog Try.f6 Rows.seekLeafRow.domain false) (Rows.seekLeafSpec.post enc Try.prog Try.f6 false true false false) := by
  refine returnsInHanded_of_change (C := Try.checked) Try.own started (by kernel_rfl) Try.func6
    (ChangeSpec.witness6 (enc := enc) (C := Try.checked) false ⟨#[], #[.agg #[.slice none 0 0, .slice none 0 0, .slice none 0 0, .slice none 0 0, .slice none 0 0], .int .u8 0, .int .i64 0], []⟩ 8 (by kernel_rfl) (by kernel_rfl) (by kernel_rfl) (by kernel_rfl)) ?_
  intro W base args ds gs before hval0 hW hcnd _
  have hval : ∀ (j : Nat) t v, Try.f6.params[j]? = some t → args[j]? = some v → Value.okWide Try.prog W .any base t v := hval0
  have hW' := hW
  obtain ⟨p, q, hA0, hV, rfl, hfz, hnd⟩ := hW
  have hA : DataW.TrodAll enc Try.prog W 0 (fun _ => true) true Try.f6.params.toList args.toList ds p := hA0
  rw [Try.params6] at hA hval
  obtain ⟨v0, v1, v2, d0, d1, d2, p0, p1, p2, rfl, rfl, rfl, h0, h1, h2⟩ := trodAll_three hA
  obtain ⟨rfl, rfl⟩ := trodVars_none hV
  obtain ⟨b, rfl, rfl, rfl, wb⟩ := open_int Try.underlying5 (hval 1 5 v1 rfl rfl) h1
  obtain ⟨key, rfl, rfl, rfl, wk⟩ := open_int Try.underlying2 (hval 2 2 v2 rfl rfl) h2
  obtain ⟨kv, sv, ev, gv, tv, ks, ss, es, gs, ts, rfl, g0, g1, g2, g3, g4, w1, w2, w3, w4⟩ := plan_open (hval 0 25 v0 rfl rfl) h0
  clear hA0 hval0
  simp only [List.append_nil] at hW'
  have hlt : ∀ x ∈ p0, x.block < W.heap.size := fun x hx => by simpa using hW'.lt x hx
  refine (hwalk W kv sv ev gv tv ks ss es gs ts b key g0 g1 g2 g3 g4 w1 w2 w3 w4 wb).mono fun e W' ⟨he, ⟨N, hN⟩, hE⟩ => ?_
  subst he
  have hnx := below_of hN hE
  have hargs : DataW.Trod enc Try.prog W' 0 (fun b => decide (b < W.heap.size)) true 25 (.agg #[kv, sv, ev, gv, tv]) d0 p0 := Below.trod Try.laidOut (by kernel_rfl) (of_decide_eq_true (by kernel_rfl)) h0 hnx hlt
  refine ⟨_, rfl, _, _, _, [], p0 ++ ([] ++ []), [], hW', ?_, ?_, rfl, hnx.frame _, fun h => by cases h⟩
  · exact trodAll_mk1 (shut_bool Try.underlying4 true)
  · exact trodAll_mk3 hargs (shut_int Try.underlying5 wb) (shut_int Try.underlying2 wk)

theorem seekLeaf_row (hwalk : Walk3 6) : Rows.SeekLeafSaid :=
  OpenClaim.holds_of_wide 6 Try.f6 rfl rfl rfl rfl rfl rfl rfl ⟨rfl, rfl, rfl, rfl, rfl⟩ rfl rfl rfl rfl rfl (by kernel_rfl) Try.func6 (by kernel_rfl)
    (of_decide_eq_true (by kernel_rfl)) (by unfold Func.isWrapper; rw [if_neg (of_decide_eq_false (by kernel_rfl))]; exact ⟨rfl, rfl⟩)
    (fun os started H enc _ => seekLeaf_lifted hwalk os started H enc)

theorem seekLeaf_walk : Walk3 6 := by
  intro W kv sv ev gv tv ks ss es gs ts b key g0 g1 g2 g3 g4 w1 w2 w3 w4 wb
  have hb := wf_u8 wb
  exact seekLeaf_all (p := ⟨ks, ss, es, gs, ts⟩) ⟨g0, g1, g2, g3, g4, fun x hx => wf_u8 (w1 x hx), fun x hx => wf_u8 (w2 x hx), fun x hx => wf_u8 (w3 x hx), fun x hx => wf_u8 (w4 x hx)⟩ hb.1 hb.2 key (heapL_has W)
theorem seekLeaf_holds : Rows.SeekLeafSaid := seekLeaf_row seekLeaf_walk
#print axioms seekLeaf_holds
end Go.Proofs.Ytjkfigkgeoacfaa
