import Derived.Test.YtjkfigkgeoacfaaW4
set_option linter.unusedVariables false
set_option linter.unusedSimpArgs false
namespace Go.Proofs.Ytjkfigkgeoacfaa
open Go.RowKit Go.Proofs.YtjkfigkgeoacfaaW.PrintLast

/-- How many of some keys are below one; how many aren't above it. -/
def lowN (ks : List Int) (k : Int) : Nat := ks.countP (fun x => decide (x < k))
def wayN (ks : List Int) (k : Int) : Nat := ks.countP (fun x => decide (x ≤ k))
theorem lowN_le (ks : List Int) (k : Int) : lowN ks k ≤ ks.length := List.countP_le_length
theorem wayN_le (ks : List Int) (k : Int) : wayN ks k ≤ ks.length := List.countP_le_length
theorem lowN_iff {ks : List Int} (hr : ks.Pairwise (· < ·)) {k : Int} : ∀ {j : Nat} {x : Int}, ks[j]? = some x → (x < k ↔ j < lowN ks k) := by
  induction ks with
  | nil => intro j x h; simp at h
  | cons y ys ih =>
    intro j x h
    obtain ⟨h1, h2⟩ := List.pairwise_cons.1 hr
    by_cases hy : y < k
    · have e : lowN (y :: ys) k = lowN ys k + 1 := by simp [lowN, hy]
      rw [e]
      cases j with
      | zero => simp at h; subst h; simp [hy]
      | succ j => simp at h; rw [ih h2 h]; omega
    · have e : lowN (y :: ys) k = 0 := by
        have : ∀ z ∈ ys, ¬ z < k := fun z hz => by have := h1 z hz; omega
        simp only [lowN, List.countP_cons, hy, decide_false, Bool.false_eq_true, if_false, Nat.add_zero]
        exact List.countP_eq_zero.2 (fun z hz => by simpa using this z hz)
      rw [e]
      cases j with
      | zero => simp at h; subst h; simp [hy]
      | succ j => simp at h; have := h1 x (List.mem_of_getElem? h); omega
theorem wayN_eq {ks : List Int} (hr : ks.Pairwise (· < ·)) (k : Int) : wayN ks k = lowN ks k + if ks[lowN ks k]? = some k then 1 else 0 := by
  induction ks with
  | nil => simp [wayN, lowN]
  | cons y ys ih =>
    obtain ⟨h1, h2⟩ := List.pairwise_cons.1 hr
    rcases Int.lt_trichotomy y k with hy | hy | hy
    · have e : lowN (y :: ys) k = lowN ys k + 1 := by simp [lowN, hy]
      have e2 : wayN (y :: ys) k = wayN ys k + 1 := by simp [wayN, show y ≤ k by omega]
      rw [e, e2, ih h2]
      simp only [List.getElem?_cons_succ]
      omega
    · subst hy
      have z1 : ∀ z ∈ ys, ¬ z < y := fun z hz => by have := h1 z hz; omega
      have z2 : ∀ z ∈ ys, ¬ z ≤ y := fun z hz => by have := h1 z hz; omega
      have e : lowN (y :: ys) y = 0 := by
        simp only [lowN, List.countP_cons, Int.lt_irrefl, decide_false, Bool.false_eq_true, if_false, Nat.add_zero]
        exact List.countP_eq_zero.2 (fun z hz => by simpa using z1 z hz)
      have e2 : wayN (y :: ys) y = 1 := by
        simp only [wayN, List.countP_cons, Int.le_refl, decide_true, if_true]
        rw [List.countP_eq_zero.2 (fun z hz => by simpa using z2 z hz)]
      rw [e, e2]
      simp
    · have z1 : ∀ z ∈ y :: ys, ¬ z < k := fun z hz => by
        rcases List.mem_cons.1 hz with rfl | hz
        · omega
        · have := h1 z hz; omega
      have z2 : ∀ z ∈ y :: ys, ¬ z ≤ k := fun z hz => by
        rcases List.mem_cons.1 hz with rfl | hz
        · omega
        · have := h1 z hz; omega
      have e : lowN (y :: ys) k = 0 := List.countP_eq_zero.2 (fun z hz => by simpa using z1 z hz)
      have e2 : wayN (y :: ys) k = 0 := List.countP_eq_zero.2 (fun z hz => by simpa using z2 z hz)
      rw [e, e2]
      have : ¬ y = k := by omega
      simp [this]

theorem isNaN_any (x : Int) (w : World) : Calls Try.prog 85 #[.int .i64 x] w fun e w' => e = .returned (.bool false) ∧ w = w' := by
  go_enter Try.func85, Try.ntmps85
  go_wp2
  go_ret
  exact ⟨rfl, rfl⟩
theorem less_any (x y : Int) (w : World) : Calls Try.prog 84 #[.int .i64 x, .int .i64 y] w fun e w' => e = .returned (.bool (decide (x < y))) ∧ w = w' := by
  by_cases h : x < y
  · go_enter Try.func84, Try.ntmps84
    go_wp2
    go_ret
    exact ⟨by simp [h], rfl⟩
  · go_enter Try.func84, Try.ntmps84
    go_wp2
    go_ret
    exact ⟨by simp [h], rfl⟩

set_option maxRecDepth 100000 in
set_option maxHeartbeats 1000000 in
theorem bs_any {R : HL} {v : Value} {ks : List Int} (hk : Rd R 2 1 v ks.length (ints ks)) (hr : ks.Pairwise (· < ·)) (hb : ks.length ≤ 100000) (k : Int) {w : World} (hw : Has w R) :
    Calls Try.prog 82 #[v, .int .i64 k] w fun e w' => e = .returned (.tuple #[.int .i64 (lowN ks k : Nat), .bool (decide (ks[lowN ks k]? = some k))]) ∧ w' = w := by
  obtain ⟨A, cap, rfl, hcap, hfit, hc⟩ := hk.cells hw
  have hle := lowN_le ks k
  go_enter Try.func82, Try.ntmps82
  go_wp2
  go_loopw [7, 8] (fun i j wr => ∃ a b : Nat, i = .int .i64 a ∧ j = .int .i64 b ∧ a ≤ lowN ks k ∧ lowN ks k ≤ b ∧ b ≤ ks.length ∧ wr = w) (fun i j _ => (intOf j).toNat - (intOf i).toNat)
  case atStart => exact ⟨0, ks.length, rfl, rfl, Nat.zero_le _, hle, Nat.le_refl _, rfl⟩
  case round =>
    obtain ⟨a, b, rfl, rfl, h1, h2, h3, rfl⟩ := hrel
    by_cases hab : a < b
    · have hd : decide ((a : Int) < b) = true := decide_eq_true (by omega)
      obtain ⟨g, off, rfl, hlt, hx⟩ := hc (by omega)
      have hm : (a + b) / 2 < ks.length := by omega
      have hy : ks[(a + b) / 2]? = some ks[(a + b) / 2] := List.getElem?_eq_getElem hm
      have hcell := hx ((a + b) / 2) (.int .i64 ks[(a + b) / 2]) (by simp [ints, hm])
      have hiff := lowN_iff hr (k := k) hy
      clear hy hx hc
      generalize ks[(a + b) / 2] = y at hcell hiff
      generalize lowN ks k = n at *
      by_cases hyk : y < k
      · have hm2 := hiff.1 hyk
        have hless : ∀ w, Calls Try.prog 84 #[.int .i64 y, .int .i64 k] w fun e w' => e = .returned (.bool true) ∧ w = w' := fun w => by have h := less_any y k w; rwa [decide_eq_true hyk] at h
        have Hless := Lib.hid hless
        clear hiff hless
        go_wp2_with (go_at_call 84; refine (Hless.out _).mono ?_; rintro e w' ⟨rfl, rfl⟩)
        go_roundw
        case rel => exact ⟨(a + b) / 2 + 1, b, by go_num, rfl, by omega, h2, h3, trivial⟩
        case measure => simp [intOf]; omega
      · have hm2 : n ≤ (a + b) / 2 := by
          rcases Nat.lt_or_ge ((a + b) / 2) n with h | h
          · exact absurd (hiff.2 h) hyk
          · exact h
        have hless : ∀ w, Calls Try.prog 84 #[.int .i64 y, .int .i64 k] w fun e w' => e = .returned (.bool false) ∧ w = w' := fun w => by have h := less_any y k w; rwa [decide_eq_false hyk] at h
        have Hless := Lib.hid hless
        clear hiff hless
        go_wp2_with (go_at_call 84; refine (Hless.out _).mono ?_; rintro e w' ⟨rfl, rfl⟩)
        go_roundw
        case rel => exact ⟨a, (a + b) / 2, rfl, by go_num, h1, hm2, by omega, trivial⟩
        case measure => simp [intOf]; omega
    · have hd : decide ((a : Int) < b) = false := decide_eq_false (by omega)
      have hab' : a = lowN ks k := by omega
      by_cases han : a < ks.length
      · have hd2 : decide ((a : Int) < ks.length) = true := decide_eq_true (by omega)
        obtain ⟨g, off, rfl, hlt, hx⟩ := hc (by omega)
        have hcell := hx a (.int .i64 ks[a]) (by simp [ints, han])
        have hg : ks[lowN ks k]? = some ks[a] := by rw [← hab']; exact List.getElem?_eq_getElem han
        have Hg := Lib.hid (And.intro hg hab')
        clear hg hab' h1 h2 hx hc
        generalize ks[a] = y at hcell Hg
        by_cases hyk : y = k
        · have hq : (y == k) = true := by rw [beq_iff_eq]; exact hyk
          go_wp2
          go_ret2
          refine ⟨?_, rfl⟩
          rw [Hg.out.1, ← Hg.out.2]
          simp [hyk]
        · have hq : (y == k) = false := beq_false_of_ne hyk
          go_wp2_with (go_at_call 85; refine (isNaN_any _ _).mono ?_; rintro e w' ⟨rfl, rfl⟩)
          go_ret2
          refine ⟨?_, rfl⟩
          rw [Hg.out.1, ← Hg.out.2]
          simp [hyk]
      · have hd2 : decide ((a : Int) < ks.length) = false := decide_eq_false (by omega)
        have hg : ks[lowN ks k]? = none := List.getElem?_eq_none (by omega)
        have Hg := Lib.hid (And.intro hg hab')
        clear hg hab' h1 h2
        go_wp2
        go_ret2
        refine ⟨?_, rfl⟩
        rw [Hg.out.1, ← Hg.out.2]
        rfl

set_option maxRecDepth 100000 in
set_option maxHeartbeats 1000000 in
theorem innerWay_any {R : HL} {kv : Value} {Aw : Option Addr} {nw cw : Nat} {ks : List Int} (hk : Rd R 2 1 kv ks.length (ints ks)) (hr : ks.Pairwise (· < ·)) (hb : ks.length ≤ 100000) (hn : nw = ks.length + 1) (k : Int) {w : World} (hw : Has w R) :
    Calls Try.prog 67 #[.agg #[kv, .slice Aw nw cw], .int .i64 k] w fun e w' => e = .returned (.int .i64 (wayN ks k : Nat)) ∧ (∃ N, Has w' (N ++ R)) ∧ Ext w w' := by
  subst hn
  have hle := wayN_le ks k
  have hle2 := lowN_le ks k
  have he := wayN_eq hr k
  obtain ⟨_, Ak, ck, rfl, _⟩ := id hk
  have hW := hw.alloc (.cells #[.slice Ak ks.length ck, .slice Aw (ks.length + 1) cw] 67)
  have hE := (Ext.refl w).alloc (.cells #[.slice Ak ks.length ck, .slice Aw (ks.length + 1) cw] 67)
  obtain ⟨cb, _⟩ := hW.blk (List.mem_cons_self ..)
  have cb0 := cb 0
  have cb1 := cb 1
  have hbs := bs_any hk.cons hr hb k hW
  have HW := Lib.hid (And.intro hW (And.intro hE hbs))
  clear hW hE hbs cb
  simp at cb0 cb1
  by_cases hf : ks[lowN ks k]? = some k
  · rw [if_pos hf] at he
    have HW := Lib.hid (And.intro (decide_eq_true hf) HW)
    have hlt : lowN ks k < ks.length := (List.getElem?_eq_some_iff.1 hf).1
    clear hf
    generalize lowN ks k = n at *
    go_enter Try.func67, Try.ntmps67
    go_wp2_with (go_at_call 82; refine HW.out.2.out.2.2.mono ?_; rintro e w' ⟨rfl, rfl⟩; rw [HW.out.1])
    go_ret
    exact ⟨by rw [he]; rfl, ⟨[_], HW.out.2.out.1⟩, HW.out.2.out.2.1⟩
  · rw [if_neg hf] at he
    have HW := Lib.hid (And.intro (decide_eq_false hf) HW)
    clear hf
    generalize lowN ks k = n at *
    go_enter Try.func67, Try.ntmps67
    go_wp2_with (go_at_call 82; refine HW.out.2.out.2.2.mono ?_; rintro e w' ⟨rfl, rfl⟩; rw [HW.out.1])
    go_ret
    exact ⟨by rw [he]; rfl, ⟨[_], HW.out.2.out.1⟩, HW.out.2.out.2.1⟩
end Go.Proofs.Ytjkfigkgeoacfaa
