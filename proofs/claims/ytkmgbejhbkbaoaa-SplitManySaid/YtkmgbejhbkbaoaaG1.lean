/- The library's calls on slices of numbers, in L0's words; what the translation says of slice types. -/
import Derived.Test.YtkmgbejhbkbaoaaL1
import Derived.Test.YtkmgbejhbkbaoaaShelf
import Derived.Sort.OwnSortedInts
import Derived.Lib.OwnBridge
namespace Go.Proofs.Ytkmgbejhbkbaoaa
set_option linter.unusedSimpArgs false
set_option linter.unusedVariables false
open Go.RowKit Go.Sort

theorem Try.info3 : (Try.prog.info? 3).map (fun i => (i.zero, i.size, i.bytes)) = some (some (.int .i64 0), 1, 8) := by kernel_rfl
theorem ei_of {P : Program} {t e : TypeId} {z : Value} {sz bytes : Nat} (ht : P.underlying t = some (.slice e)) (h : (P.info? e).map (fun i => (i.zero, i.size, i.bytes)) = some (some z, sz, bytes)) (hz : z.cells.size = sz) (h0 : 0 < sz) : EI P t e sz bytes := by
  refine ⟨ht, ?_, h0⟩
  cases hi : P.info? e with
  | none => rw [hi] at h; cases h
  | some i =>
    rw [hi] at h
    simp only [Option.map_some, Option.some.injEq, Prod.mk.injEq] at h
    exact ⟨i, z, rfl, h.1, h.2.1, h.2.2, hz⟩
theorem ei_int : EI Try.prog 22 3 1 8 := ei_of Try.underlying22 Try.info3 rfl (by decide)

section
variable {w : World} {S : List Nat} {v : Value} {xs : List Int} {e : TypeId}
theorem own_slr {B n : Nat} {w' : World} (h : w'.ownsRow B e 1 v n (xs.map (Value.int .i64))) : ∃ S, SlR kInt e w' S v xs ∧ (∀ k ∈ S, B ≤ k) ∧ S.Nodup := by
  have hl : xs.length = n := by simpa using h.1
  subst hl
  rcases h.2 with ⟨rfl, h0⟩ | ⟨g, cap, cur, rfl, hb, hg, hn, hm, hs, ht⟩
  · exact ⟨[], .inl ⟨none, rfl, List.eq_nil_of_length_eq_zero h0, rfl⟩, by simp, by simp⟩
  · rcases Nat.eq_zero_or_pos cap with h0 | h0
    · subst h0
      have h0 : xs = [] := List.eq_nil_of_length_eq_zero (by omega)
      subst h0
      exact ⟨[], .inl ⟨_, rfl, rfl, rfl⟩, by simp, by simp⟩
    · exact ⟨[g], slr_sc.2 (.inr ⟨g, cap, cur, rfl, h0, hn, hm, hg, by simpa using hs, rfl, by simpa using ht⟩), by simpa using hb, by simp⟩

theorem blk_put {g n : Nat} {C : Array Value} {ts : List Int} {os : Array Obj} (hb : Blk w g e C) (hl : ts.length ≤ C.size) :
    Blk (grow (putRow (Value.int .i64) (Sort.ahead w n) g 0 ts.toArray) os) g e (putCells (Value.int .i64) 0 ts.toArray C) := heap_sortedI _ hb
theorem ext_put {g n : Nat} {d : Array Int} {os : Array Obj} : Ext [g] w (grow (putRow (Value.int .i64) (Sort.ahead w n) g 0 d) os) := by
  have h := grownBy_sortedI (w := w) (g := g) (n := n) (os := os) d
  exact ⟨h.os, h.tape, h.output, h.size, fun k hk hn => h.block k hk (by simpa using hn)⟩
/-- behind a call that has put as many numbers into the row -/
theorem slr_put {g n cap : Nat} {ts : List Int} {os : Array Obj} (h : SlR kInt e w S (.slice (some ⟨g, 0, none⟩) xs.length cap) xs) (h0 : 0 < xs.length) (hl : ts.length = xs.length) :
    SlR kInt e (grow (putRow (Value.int .i64) (Sort.ahead w n) g 0 ts.toArray) os) S (.slice (some ⟨g, 0, none⟩) xs.length cap) ts ∧ Ext S w (grow (putRow (Value.int .i64) (Sort.ahead w n) g 0 ts.toArray) os) := by
  obtain ⟨g', cap', C, hv, hp, h1, h2, hb, hC, rfl, ht⟩ := slr_own h (by rintro rfl; simp at h0)
  injection hv with e1 e2 e3
  injection e1 with e1
  injection e1 with e1
  subst e1 e3
  refine ⟨slr_sc.2 (.inr ⟨g, cap, _, by rw [hl], hp, by omega, h2, blk_put hb (by omega), by simp [putCells, hC], rfl, take_putCellsI C ts (by omega)⟩), ext_put⟩

theorem sort_calls (h : SlR kInt 3 w S v xs) (hsz : xs.length ≤ 1073741824) :
    Calls Try.prog 66 #[v] w fun e w' => e = .returned (.tuple #[]) ∧ SlR kInt 3 w' S v (xs.mergeSort fun x y => decide (x ≤ y)) ∧ Ext S w w' := by
  by_cases h0 : xs = []
  · subst h0
    obtain ⟨A, cap, rfl, _⟩ := h.shape
    refine (Try.slices_Sort_int_none A cap w).mono ?_
    rintro e w' ⟨rfl, rfl⟩
    exact ⟨rfl, by simpa using h, Ext.refl _ _⟩
  · have hp : 0 < xs.length := by cases xs; exact absurd rfl h0; simp
    obtain ⟨g, cap, C, rfl, hc0, h1, h2, hb, hC, rfl, ht⟩ := slr_own h h0
    refine (Try.slices_Sort_int g 0 cap xs w (holds_of_blockI hb ht) hb.lt (by omega)).mono ?_
    rintro e w' ⟨rfl, n, os, rfl⟩
    exact ⟨rfl, slr_put h hp (by simp)⟩

theorem compact_calls (h : SlR kInt 3 w S v xs) (hsz : xs.length ≤ 1073741824) :
    Calls Try.prog 67 #[v] w fun e w' => ∃ v', e = .returned v' ∧ SlR kInt 3 w' S v' (Lib.compact xs) ∧ Ext S w w' := by
  by_cases h0 : xs = []
  · subst h0
    obtain ⟨A, cap, rfl, _⟩ := h.shape
    refine (Try.slices_Compact_int_empty A cap w).mono ?_
    rintro e w' ⟨rfl, rfl⟩
    exact ⟨_, rfl, h, Ext.refl _ _⟩
  · have hp : 0 < xs.length := by cases xs; exact absurd rfl h0; simp
    obtain ⟨g, cap, C, rfl, hc0, h1, h2, hb, hC, rfl, ht⟩ := slr_own h h0
    refine (Try.slices_Compact_int g 0 cap xs w (holds_of_blockI hb ht) (by omega) h1).mono ?_
    rintro e w' ⟨rfl, n, rfl⟩
    have hle := Lib.compact_length_le xs
    obtain ⟨h3, h4⟩ := slr_put (n := n) (os := #[]) (ts := Lib.compact xs ++ List.replicate (xs.length - (Lib.compact xs).length) 0) h hp (by rw [List.length_append, List.length_replicate]; omega)
    rw [grow_empty] at h3 h4
    refine ⟨_, rfl, ?_, h4⟩
    obtain ⟨g', cap', C', hv, hp', h1', h2', hb', hC', hS', ht'⟩ := slr_own h3 (by intro hn; have := congrArg List.length hn; rw [List.length_append, List.length_replicate, List.length_nil] at this; omega)
    injection hv with e1 e2 e3
    injection e1 with e1
    injection e1 with e1
    subst e1 e3
    refine slr_sc.2 (.inr ⟨g, cap, C', rfl, hp', by omega, h2', hb', hC', rfl, ?_⟩)
    have := congrArg (List.take (Lib.compact xs).length) ht'
    rw [List.take_take, Nat.min_eq_left (by simp), List.map_append, List.take_left' (by simp)] at this
    exact this

theorem reverse_calls (h : SlR kInt 3 w S v xs) (hsz : xs.length ≤ 1073741824) :
    Calls Try.prog 65 #[v] w fun e w' => e = .returned (.tuple #[]) ∧ SlR kInt 3 w' S v xs.reverse ∧ Ext S w w' := by
  by_cases h0 : xs = []
  · subst h0
    obtain ⟨A, cap, rfl, _⟩ := h.shape
    refine (Try.slices_Reverse_int_empty A cap w).mono ?_
    rintro e w' ⟨rfl, rfl⟩
    exact ⟨rfl, by simpa using h, Ext.refl _ _⟩
  · have hp : 0 < xs.length := by cases xs; exact absurd rfl h0; simp
    obtain ⟨g, cap, C, rfl, hc0, h1, h2, hb, hC, rfl, ht⟩ := slr_own h h0
    refine (Try.slices_Reverse_int g 0 cap xs w (holds_of_blockI hb ht) (by omega)).mono ?_
    rintro e w' ⟨rfl, n, rfl⟩
    obtain ⟨h3, h4⟩ := slr_put (n := n) (os := #[]) (ts := xs.reverse) h hp (by simp)
    rw [grow_empty] at h3 h4
    exact ⟨rfl, h3, h4⟩

theorem contains_calls (h : SlR kInt e w S v xs) (hsz : xs.length ≤ 1073741824) (x : Int) :
    Calls Try.prog 73 #[v, .int .i64 x] w fun e w' => e = .returned (.bool (xs.contains x)) ∧ w' = w := by
  by_cases h0 : xs = []
  · subst h0
    obtain ⟨A, cap, rfl, _⟩ := h.shape
    refine (Try.slices_Contains_int_empty A cap x w).mono ?_
    rintro e w' ⟨rfl, rfl⟩
    exact ⟨by simp, rfl⟩
  · obtain ⟨g, cap, C, rfl, hc0, h1, h2, hb, hC, rfl, ht⟩ := slr_own h h0
    refine (Try.slices_Contains_int g 0 xs.length cap xs x w (Nat.le_refl _) (by omega) ?_).mono ?_
    · intro j hj
      have := (holds_of_blockI hb ht j (by simpa using hj)).1
      rw [this]
      simp [List.getD, hj]
    · rintro e w' ⟨rfl, rfl⟩
      exact ⟨by rw [List.take_length], rfl⟩

theorem clone_calls (h : SlR kInt e w S v xs) (hsz : xs.length ≤ 1073741824) :
    Calls Try.prog 61 #[v] w fun e w' => ∃ v' S', e = .returned v' ∧ SlR kInt 3 w' S' v' xs ∧ Ext [] w w' ∧ (∀ k ∈ S', w.heap.size ≤ k) ∧ S'.Nodup := by
  by_cases h0 : xs = []
  · subst h0
    obtain ⟨A, cap, rfl, _⟩ := h.shape
    cases A with
    | none =>
      refine (Try.slices_Clone_int_nil 0 cap w).mono ?_
      rintro e w' ⟨rfl, rfl⟩
      exact ⟨_, [], rfl, .inl ⟨_, rfl, rfl, rfl⟩, Ext.refl _ _, by simp, by simp⟩
    | some a =>
      refine (Try.slices_Clone_int_zero a cap w).mono ?_
      rintro e w' ⟨v', rfl, ho, _, hb⟩
      obtain ⟨S', h1, h2, h3⟩ := own_slr (xs := []) (by simpa using ho)
      exact ⟨v', S', rfl, h1, Ext.of_below hb, h2, h3⟩
  · obtain ⟨g, cap, C, rfl, hc0, h1, h2, hb, hC, rfl, ht⟩ := slr_own h h0
    refine (Try.slices_Clone_int g 0 xs.length cap xs w (Nat.le_refl _) (by omega) ?_).mono ?_
    · intro j hj
      have := (holds_of_blockI hb ht j (by simpa using hj)).1
      rw [this]
      simp [List.getD, hj]
    · rintro e w' ⟨v', rfl, ho, _, hb'⟩
      rw [List.take_length] at ho
      obtain ⟨S', h1, h2, h3⟩ := own_slr ho
      exact ⟨v', S', rfl, h1, Ext.of_below hb', h2, h3⟩
end
end Go.Proofs.Ytkmgbejhbkbaoaa
