import Derived.Test.YtjkfigkgeoacfaaL1
set_option linter.unusedVariables false
set_option linter.unusedSimpArgs false
namespace Go.Proofs.Ytjkfigkgeoacfaa
open Go.RowKit

/-- A planted world's arena is well formed; the way in it leads from the entry to the tree. -/
theorem planted_ok {a b : Int} {threads : Nat} {s : Sh} {records : Int} (hs : s.Small) (hm : s.many ≤ 60000) : (plantedWorld a b threads s 0 records).arena.Ok := by
  have hF := newWorld_fresh (a := a) (b := b) (threads := threads) (records := records) (nodes := 2 + s.many + 0) (by omega) (by omega)
  obtain ⟨b1, b2, b3⟩ := made_fresh s hs _ hF (by simp [newWorld])
  have h := (b1.ok.setSlot (i := 1) (s := { newSlot (entryNode (refOf 0 1)) 1 with ways := [(madeA (newWorld a b threads (2 + s.many + 0) records).arena s).2] }) (by simp [newSlot]) (by simp [newSlot, entryNode])).setSlot (i := 0) (s := { newSlot leafNode 1 with used := false }) (by simp [newSlot]) (by simp [newSlot, leafNode])
  exact ⟨h.slots, h.count, h.sizes⟩
theorem planted_path {a b : Int} {threads : Nat} {s : Sh} {records : Int} (hs : s.Small) (hm : s.many ≤ 60000) {B h : Nat} {lo hi : Option Int} (hg : Good B h lo hi s) (key : Int) :
    ∃ (r0 : Int) (sl : ASlot) (ss : List (Int × ANode × Nat)) (ts : List Int), (plantedWorld a b threads s 0 records).arena.slots[1]? = some sl ∧ sl.used = true ∧ sl.count = 1 ∧ sl.ways[0]? = some r0 ∧
      PathA (plantedWorld a b threads s 0 records).arena key (refOf 1 1) ((refOf 1 1, entryNode (refOf 0 1), 0) :: ss) (r0 :: ts) ∧ Trace (plantedWorld a b threads s 0 records).arena key r0 s (tells ss) ts ∧ ts.length < s.many ∧ (∀ st ∈ ss, st.2.1.pairs.length ≤ 100000) ∧ InT (plantedWorld a b threads s 0 records).arena r0 s := by
  have hok := planted_ok (a := a) (b := b) (threads := threads) (records := records) hs hm
  have hF := newWorld_fresh (a := a) (b := b) (threads := threads) (records := records) (nodes := 2 + s.many + 0) (by omega) (by omega)
  obtain ⟨keep, hin⟩ := made_in s hs _ hF (by simp [newWorld]) (by simp [newWorld])
  have k1 := keep 1 _ rfl
  have k0 := keep 0 _ rfl
  have hl1 := (List.getElem?_eq_some_iff.1 k1).1
  have hl0 := (List.getElem?_eq_some_iff.1 k0).1
  have hin' : InT (plantedWorld a b threads s 0 records).arena (madeA (newWorld a b threads (2 + s.many + 0) records).arena s).2 s := by
    refine hin.keep fun i x hi hx => ?_
    show (((madeA (newWorld a b threads (2 + s.many + 0) records).arena s).1.slots.set 1 _).set 0 _)[i]? = some x
    rw [List.getElem?_set_ne (by omega), List.getElem?_set_ne (by omega)]
    exact hx
  obtain ⟨hr0, ss, ts, hp, ht, hlt, hpl⟩ := inT_path hok key hin' hg
  have hs1 : (plantedWorld a b threads s 0 records).arena.slots[1]? = some { newSlot (entryNode (refOf 0 1)) 1 with ways := [(madeA (newWorld a b threads (2 + s.many + 0) records).arena s).2] } := by
    show (((madeA (newWorld a b threads (2 + s.many + 0) records).arena s).1.slots.set 1 _).set 0 _)[1]? = _
    rw [List.getElem?_set_ne (by omega), List.getElem?_set_self hl1]
  refine ⟨_, _, ss, ts, hs1, rfl, rfl, rfl, ?_, ht, hlt, hpl, hin'⟩
  have := PathA.node (key := key) hs1 rfl rfl (show (entryNode (refOf 0 1)).keys.Pairwise (· < ·) from List.Pairwise.nil) (by simp [newSlot, entryNode]) rfl (r' := (madeA (newWorld a b threads (2 + s.many + 0) records).arena s).2) rfl hr0 hp
  exact this
theorem planted_faults {a b : Int} {threads : Nat} {s : Sh} {records : Int} (hs : s.Small) (hm : s.many ≤ 60000) : (plantedWorld a b threads s 0 records).arena.faults = 0 := by
  have key : ∀ (s : Sh) (A : AArena), A.faults = 0 → (madeA A s).1.faults = 0 := by
    refine Sh.ind ?_
    intro l t ps ks kids ih A hA
    have hL : ∀ (ls : List Sh), (∀ k ∈ ls, k ∈ kids) → ∀ (A : AArena), A.faults = 0 → (madeL A ls).1.faults = 0 := by
      intro ls
      induction ls with
      | nil => intro _ A hA; simpa [madeL] using hA
      | cons k ls ih2 =>
        intro hmm A hA
        simp only [madeL]
        exact ih2 (fun x hx => hmm x (List.mem_cons_of_mem _ hx)) _ (ih k (hmm k (List.mem_cons_self ..)) A hA)
    simp only [madeA]
    have h := hL kids (fun _ h => h) A hA
    generalize madeL A kids = M at h
    simp only [AArena.alloc]
    split <;> exact h
  exact key s _ rfl
end Go.Proofs.Ytjkfigkgeoacfaa
