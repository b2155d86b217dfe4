import Derived.Test.YtjkfigkgeoacfaaP3
set_option linter.unusedVariables false
set_option linter.unusedSimpArgs false
namespace Go.Proofs.Ytjkfigkgeoacfaa
open Go.RowKit

theorem wraps_i64 (n : Int) (h0 : 0 ≤ n) (h1 : n < 2 ^ 63) : IntKind.i64.wrap n = n := by rw [IntKind.wrap_i64]; omega
theorem wraps_u32 (n : Int) (h0 : 0 ≤ n) (h1 : n < 2 ^ 32) : IntKind.u32.wrap n = n := by rw [IntKind.wrap_u32]; omega
theorem and40 (x : Int) (h0 : 0 ≤ x) (h1 : x < 9223372036854775808) : bits .and .i64 x 1099511627775 = x % 1099511627776 :=
  bits_mask .i64 63 (by decide) wraps_i64 40 (by decide) x h0 h1
theorem and23 (x : Int) (h0 : 0 ≤ x) (h1 : x < 4294967296) : bits .and .u32 x 8388607 = x % 8388608 :=
  bits_mask .u32 32 (by decide) wraps_u32 23 (by decide) x h0 h1
theorem or40 (x y : Int) (hx0 : 0 ≤ x) (hx : x % 1099511627776 = 0) (hx1 : x < 9223372036854775808) (h0 : 0 ≤ y) (h1 : y < 1099511627776) : bits .or .i64 x y = x + y :=
  bits_join .i64 63 (by decide) wraps_i64 40 x y hx0 hx hx1 h0 h1 (by omega)

/-- The number of a reference. -/
theorem refOf_eq {p c : Int} (hp : 0 ≤ p) (hp' : p < 1000000) (hc : 0 ≤ c) (hc' : c < 8000000) : refOf p c = c * 1099511627776 + (p + 1) := by
  unfold refOf
  rw [and23 c hc (by omega)]
  have e1 : c % 8388608 = c := by omega
  have e2 : wrap64 c = c := by unfold wrap64; omega
  have e3 : wrap64 (c * 1099511627776) = c * 1099511627776 := by unfold wrap64; omega
  have e4 : wrap64 (p + 1) = p + 1 := by unfold wrap64; omega
  rw [e1, e2, e3, e4, and40 (p + 1) (by omega) (by omega)]
  have e5 : (p + 1) % 1099511627776 = p + 1 := by omega
  rw [e5, or40 _ _ (by omega) (by omega) (by omega) (by omega) (by omega)]
theorem place_refOf {p c : Int} (hp : 0 ≤ p) (hp' : p < 1000000) (hc : 0 ≤ c) (hc' : c < 8000000) : place (refOf p c) = p := by
  rw [refOf_eq hp hp' hc hc']
  unfold place
  rw [and40 _ (by omega) (by omega)]
  have : (c * 1099511627776 + (p + 1)) % 1099511627776 = p + 1 := by omega
  rw [this]
  unfold wrap64
  omega
theorem refOf_inj {p c p' c' : Int} (hp : 0 ≤ p) (hp' : p < 1000000) (hc : 0 ≤ c) (hc' : c < 8000000) (gp : 0 ≤ p') (gp' : p' < 1000000) (gc : 0 ≤ c') (gc' : c' < 8000000) (h : refOf p c = refOf p' c') : p = p' ∧ c = c' := by
  rw [refOf_eq hp hp' hc hc', refOf_eq gp gp' gc gc'] at h
  omega

/-- What an arena's numbers are bound by. -/
structure AArena.Ok (A : AArena) : Prop where
  slots : A.slots.length ≤ 65536
  count : ∀ s ∈ A.slots, 0 ≤ s.count ∧ s.count < 7000000
  sizes : ∀ s ∈ A.slots, s.node.pairs.length ≤ 60000 ∧ s.node.keys.length ≤ 60000 ∧ s.node.ways.length ≤ 60000 ∧ s.ways.length ≤ 60000

/-- Where a place's cells lie. -/
structure SlotAt (w : World) (a : Nat) (n i : Nat) (s : ASlot) (g off cap : Nat) (pv kv wv yv : Value) : Prop where
  arena : w.cell? ⟨a, 0, none⟩ = some (.slice (some ⟨g, off, none⟩) n cap)
  cell : ∀ k v, (slotCells s pv kv wv yv)[k]? = some v → w.cell? ⟨g, off + i * 10 + k, none⟩ = some v

theorem row_some {T sz : Nat} {v : Value} {n : Nat} {xs : List Value} {L : HL} (h : Row T sz v n xs L) (hn : 0 < n) :
    ∃ g off cap cur, v = .slice (some ⟨g, off, none⟩) n cap ∧ L = [(g, Obj.cells cur T (0, 0))] ∧ n ≤ cap ∧ Fits cap ∧ off + cap * sz = cur.size ∧ (cur.toList.drop off).take (n * sz) = xs := by
  rcases h.2 with ⟨A, rfl, rfl, rfl⟩ | h
  · omega
  · exact h
theorem row_at {sz : Nat} {off : Nat} {cur : Array Value} {n : Nat} {xs : List Value} (h : (cur.toList.drop off).take (n * sz) = xs) {j : Nat} {u : Value} (hu : xs[j]? = some u) : cur[off + j]? = some u := by
  rw [← h, List.getElem?_take] at hu
  split at hu
  · rw [List.getElem?_drop, Array.getElem?_toList] at hu; exact hu
  · cases hu

theorem ArenaRep.at_ {R R2 : HL} {a : Nat} {A : AArena} {L : HL} (hA : ArenaRep R a A L) {w : World} (hw : Has w (L ++ R2)) {i : Nat} {s : ASlot} (hi : A.slots[i]? = some s) :
    ∃ g off cap pv kv wv yv Ly, SlotAt w a A.slots.length i s g off cap pv kv wv yv ∧ NodeRep R s.node pv kv wv ∧ Row 39 1 yv s.ways.length (ints s.ways) Ly ∧ ∀ p ∈ Ly, p ∈ L := by
  obtain ⟨sv, fv, css, Ls, Lf, Lw, rfl, hs, hf, hl⟩ := hA
  have hlt : i < A.slots.length := (List.getElem?_eq_some_iff.1 hi).1
  obtain ⟨cs, L1, Li, L2, h1, h2, h3, _⟩ := hl.split hi
  obtain ⟨g, off, cap, cur, rfl, rfl, _, _, _, htake⟩ := row_some hs (by omega)
  obtain ⟨pv, kv, wv, yv, hn, hy, rfl⟩ := h3
  refine ⟨g, off, cap, pv, kv, wv, yv, Li, ⟨(hw.cell (b := a) (List.mem_append_left _ (List.mem_cons_self ..)) 0).trans rfl, fun k v hv => ?_⟩, hn, hy, fun p hp => by simp [h2, hp]⟩
  have hk : k < 10 := (List.getElem?_eq_some_iff.1 hv).1
  rw [hw.cell (b := g) (c := cur) (t := 91) (fr := (0, 0)) (by simp), Nat.add_assoc]
  refine row_at htake ?_
  rw [flat_at hl.ten h1 k hk]
  exact hv

theorem beq_refl_int (r : Int) : (r == r) = true := by simp

set_option maxHeartbeats 400000 in
theorem way_spec {R R2 : HL} {a : Nat} {A : AArena} {L : HL} (hA : ArenaRep R a A L) (hO : A.Ok) {w : World} (hw : Has w (L ++ R2)) {i : Nat} {s : ASlot} (hi : A.slots[i]? = some s) (hu : s.used = true) {k : Nat} {x : Int} (hk : s.ways[k]? = some x) :
    Calls Try.prog 12 #[.pointer (some ⟨a, 0, none⟩), .int .i64 (refOf i s.count), .int .i64 k] w fun e w' => e = .returned (.int .i64 x) ∧ w = w' := by
  obtain ⟨g, off, cap, pv, kv, wv, yv, Ly, hs, hn, hy, hm⟩ := hA.at_ hw hi
  have hlt : i < A.slots.length := (List.getElem?_eq_some_iff.1 hi).1
  have hkl : k < s.ways.length := (List.getElem?_eq_some_iff.1 hk).1
  have hms := List.mem_of_getElem? hi
  have hc := hO.count s hms
  have hz := hO.sizes s hms
  have hsl := hO.slots
  obtain ⟨yg, yoff, ymc, ycur, rfl, rfl, _, _, _, htake⟩ := row_some hy (by omega)
  refine way_raw a g off A.slots.length cap _ i s.count w yg yoff s.ways.length ymc k x (place_refOf (by omega) (by omega) hc.1 (by omega)) hlt (by omega) hs.arena (by have := hs.cell 9 _ rfl; rwa [hu] at this) (hs.cell 8 _ rfl) (beq_refl_int _) (hs.cell 5 _ rfl) hkl (by omega) ?_
  rw [hw.cell (b := yg) (c := ycur) (t := 39) (fr := (0, 0)) (List.mem_append_left _ (hm _ (by simp)))]
  exact row_at htake (by simp [hk])

set_option maxHeartbeats 400000 in
theorem look_spec {R R2 : HL} {a : Nat} {A : AArena} {L : HL} (hA : ArenaRep R a A L) (hO : A.Ok) (hsub : ∀ p, p ∈ R → p ∈ R2) {w : World} (hw : Has w (L ++ R2)) {i : Nat} {s : ASlot} (hi : A.slots[i]? = some s) (hu : s.used = true) :
    Calls Try.prog 32 #[.pointer (some ⟨a, 0, none⟩), .int .i64 (refOf i s.count)] w fun e w' =>
      ∃ pv kv wv N, e = .returned (nodeV s.node pv kv wv) ∧ NodeRep N s.node pv kv wv ∧ Has w' (L ++ (N ++ R2)) ∧ Ext w w' := by
  obtain ⟨g, off, cap, pv, kv, wv, yv, Ly, hs, hn, hy, hm⟩ := hA.at_ hw hi
  have hlt : i < A.slots.length := (List.getElem?_eq_some_iff.1 hi).1
  have hms := List.mem_of_getElem? hi
  have hc := hO.count s hms
  have hz := hO.sizes s hms
  have hsl := hO.slots
  have hn' := hn.mono (R' := L ++ R2) (fun p hp => List.mem_append_right _ (hsub p hp))
  refine (look_raw a g off A.slots.length cap _ i s.count w (L ++ R2) hw (place_refOf (by omega) (by omega) hc.1 (by omega)) hlt (by omega) hs.arena (World.block_lt_of_cell? w _ (hs.cell 9 _ rfl)) (World.block_lt_of_cell? w _ hs.arena) (by have := hs.cell 9 _ rfl; rwa [hu] at this) (hs.cell 8 _ rfl) (beq_refl_int _)
    s.node.inner s.node.tagged pv kv wv _ _ _ s.node.pairs s.node.keys s.node.ways (hs.cell 0 _ rfl) (hs.cell 1 _ rfl) (hs.cell 2 _ rfl) (hs.cell 3 _ rfl) (hs.cell 4 _ rfl) hn'.p hn'.k hn'.w (by omega) (by omega) (by omega)).mono ?_
  rintro e w' ⟨pv', kv', wv', L1, L2, L3, rfl, r1, r2, r3, hw', he⟩
  refine ⟨pv', kv', wv', L3 ++ (L2 ++ L1), rfl, ⟨(r1.rd []).mono ?_, (r2.rd []).mono ?_, (r3.rd []).mono ?_⟩, hw'.perm (perm_of_count fun x => by simp only [List.count_append, List.count_cons, List.count_nil, arenaObj, slotObj, nodeObj, worldObj]; omega), he⟩
  all_goals (intro p hp; simp only [List.mem_append] at hp ⊢; grind)
end Go.Proofs.Ytjkfigkgeoacfaa
