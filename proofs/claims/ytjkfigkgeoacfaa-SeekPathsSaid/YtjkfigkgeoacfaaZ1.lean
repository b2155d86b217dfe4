/- SeekPaths: whatever the plan, the byte and the key: the law returns true, and each argument reads behind the call as it read before. No condition. -/
import Derived.Test.YtjkfigkgeoacfaaZ0
import Derived.Test.YtjkfigkgeoacfaaX0
set_option linter.unusedVariables false
set_option linter.unusedSimpArgs false
namespace Go.Proofs.Ytjkfigkgeoacfaa
open Go.RowKit

theorem wf_u8 {n : Int} (h : (Lit.int .u8 n).wf = true) : 0 ≤ n ∧ n < 256 := by
  have hmin : IntKind.u8.min = 0 := rfl
  have hmax : IntKind.u8.max = 255 := rfl
  simp only [Lit.wf, Bool.and_eq_true, decide_eq_true_eq] at h
  omega
theorem seekPaths_walk : Walk3 3 := by
  intro W kv sv ev gv tv ks ss es gs ts b key g0 g1 g2 g3 g4 w1 w2 w3 w4 wb
  have hb := wf_u8 wb
  exact seekPaths_any (p := ⟨ks, ss, es, gs, ts⟩) ⟨g0, g1, g2, g3, g4, fun x hx => wf_u8 (w1 x hx), fun x hx => wf_u8 (w2 x hx), fun x hx => wf_u8 (w3 x hx), fun x hx => wf_u8 (w4 x hx)⟩ hb.1 hb.2 key (heapL_has W)
theorem seekPaths_holds : Rows.SeekPathsSaid := seekPaths_row seekPaths_walk
#print axioms seekPaths_holds
end Go.Proofs.Ytjkfigkgeoacfaa
