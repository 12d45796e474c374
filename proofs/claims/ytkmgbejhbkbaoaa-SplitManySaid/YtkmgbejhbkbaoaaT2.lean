/- Small things of the laws: a rest; the example; the chapter's case. -/
import Derived.Test.YtkmgbejhbkbaoaaT1
import Derived.Test.YtkmgbejhbkbaoaaS8
namespace Go.Proofs.Ytkmgbejhbkbaoaa
set_option linter.unusedSimpArgs false
set_option linter.unusedVariables false
open Go.RowKit

theorem tmod_bounds (x n : Int) (hn : 0 < n) : -n < x.tmod n ∧ x.tmod n < n := by
  have h := Int.tmod_lt_of_pos x hn
  refine ⟨?_, h⟩
  have h2 := Int.lt_tmod_of_pos x hn
  omega
theorem tmod_twice (x n : Int) (hn : 0 < n) : (x.tmod n + n).tmod n = x % n := by
  have h := tmod_bounds x n hn
  rw [Int.tmod_eq_emod_of_nonneg (by omega), Int.add_emod_right]
  have h2 : x.tmod n = x % n ∨ x.tmod n = x % n - n := by
    have := Int.tmod_eq_emod (a := x) (b := n)
    rw [this]
    split
    · left; omega
    · right; omega
  rcases h2 with h2 | h2
  · rw [h2, Int.emod_emod_of_dvd]; exact Int.dvd_refl n
  · rw [h2, Int.sub_emod_right, Int.emod_emod_of_dvd]; exact Int.dvd_refl n
set_option maxRecDepth 20000 in
theorem rest_calls (w : World) (x n : Int) (h0 : 0 < n) (h1 : n ≤ 1048576) : Calls Try.prog 16 #[.int .i64 x, .int .i64 n] w fun e w' => e = .returned (.int .i64 (x % n)) ∧ w = w' := by
  have hb := tmod_bounds x n h0
  have hm := Lib.hid (tmod_twice x n h0)
  obtain ⟨hb1, hb2⟩ := hb
  have hn : ¬ n = 0 := by omega
  go_enter Try.func16, Try.ntmps16
  go_wp2
  go_ret
  exact ⟨by rw [← hm.out, Int.tmod_eq_emod_of_nonneg (a := x.tmod n + n) (by omega)]; rfl, rfl⟩

section
variable {α : Type} {d : Kd α} {e : TypeId} {w : World}
theorem elems_nil : Elems d w [] [] [] := ⟨rfl, fun i x h => by simp at h⟩
theorem elems_cons {S : List Nat} {x : α} {cs : List Value} {Ss : List (List Nat)} {D : List Value} {ys : List α} (h : d.rep w S x cs) (hD : Elems d w Ss D ys) (hl : D.length = ys.length * d.sz) : Elems d w (S :: Ss) (cs ++ D) (x :: ys) := by
  have h1 := elems_single h
  have hc := d.len h
  have := Elems.append (E := cs ++ D) h1 hD (by simp [hc]) (by
    rw [List.length_singleton, Nat.one_mul, List.take_of_length_le (l := cs ++ D) (by rw [List.length_append, hc, hl, Nat.add_mul]; simp), List.take_of_length_le (by omega)]) hl
  simpa using this
theorem slr_lit {g : Nat} {Ss : List (List Nat)} {cs : List Value} {xs : List α} (hb : Blk w g e cs.toArray) (hE : Elems d w Ss cs xs) (hl : cs.length = xs.length * d.sz) (hne : 0 < xs.length) (hn : xs.length ≤ 1073741824) (hg : g ∉ Ss.flatten) :
    SlR d e w (g :: Ss.flatten) (.slice (some ⟨g, 0, none⟩) xs.length xs.length) xs :=
  .inr ⟨g, xs.length, cs.toArray, Ss, rfl, hne, Nat.le_refl _, by simp only [maxLen]; omega, hb, by simpa using hl, hg, rfl, hE⟩
end

set_option maxRecDepth 20000 in
set_option maxHeartbeats 1600000 in
theorem example_calls (w : World) : Calls Try.prog 18 #[] w fun e w' => ∃ v' S', e = .returned v' ∧ FnR w' S' v' exF ∧ New w w' S' := by
  go_enter Try.func18, Try.ntmps18
  go_wp2
  obtain ⟨n, hn⟩ : ∃ n, n = w.heap.size := ⟨_, rfl⟩
  obtain ⟨w1, e1⟩ : ∃ x, x = w.alloc (.cells #[.int .i64 1, .slice (some ⟨w.heap.size + 1 + 1 + 1 + 1 + 1 + 1 + 1, 0, none⟩) 3 3] 26) := ⟨_, rfl⟩
  have z1 : w1.heap.size = n + 1 := by rw [e1]; simp [hn]
  have B0 : Blk w1 (n) 26 #[.int .i64 1, .slice (some ⟨n + 1 + 1 + 1 + 1 + 1 + 1 + 1, 0, none⟩) 3 3] := by
    have h := Blk.new w #[.int .i64 1, .slice (some ⟨w.heap.size + 1 + 1 + 1 + 1 + 1 + 1 + 1, 0, none⟩) 3 3] 26
    rw [← e1] at h
    rw [hn]
    simpa [hn] using h
  have x1 : Ext [] w w1 := by rw [e1]; exact (Ext.refl _ _).alloc _
  obtain ⟨w2, e2⟩ : ∃ x, x = w1.alloc (.cells #[.int .i64 0] 3) := ⟨_, rfl⟩
  have z2 : w2.heap.size = n + 1 + 1 := by rw [e2]; simp [z1]
  have B1 : Blk w2 (n + 1) 3 #[.int .i64 0] := by
    have h := Blk.new w1 #[.int .i64 0] 3
    rw [← e2] at h
    rw [hn]
    simpa [z1, hn] using h
  have x2 : Ext [] w1 w2 := by rw [e2]; exact (Ext.refl _ _).alloc _
  obtain ⟨w3, e3⟩ : ∃ x, x = w2.alloc (.cells #[.int .i64 1, .int .i64 2] 3) := ⟨_, rfl⟩
  have z3 : w3.heap.size = n + 1 + 1 + 1 := by rw [e3]; simp [z2]
  have B2 : Blk w3 (n + 1 + 1) 3 #[.int .i64 1, .int .i64 2] := by
    have h := Blk.new w2 #[.int .i64 1, .int .i64 2] 3
    rw [← e3] at h
    rw [hn]
    simpa [z2, hn] using h
  have x3 : Ext [] w2 w3 := by rw [e3]; exact (Ext.refl _ _).alloc _
  obtain ⟨w4, e4⟩ : ∃ x, x = w3.alloc (.cells #[.int .i64 2] 3) := ⟨_, rfl⟩
  have z4 : w4.heap.size = n + 1 + 1 + 1 + 1 := by rw [e4]; simp [z3]
  have B3 : Blk w4 (n + 1 + 1 + 1) 3 #[.int .i64 2] := by
    have h := Blk.new w3 #[.int .i64 2] 3
    rw [← e4] at h
    rw [hn]
    simpa [z3, hn] using h
  have x4 : Ext [] w3 w4 := by rw [e4]; exact (Ext.refl _ _).alloc _
  obtain ⟨w5, e5⟩ : ∃ x, x = w4.alloc (.cells #[.int .i64 0, .int .i64 0, .int .i64 1, .int .i64 0] 49) := ⟨_, rfl⟩
  have z5 : w5.heap.size = n + 1 + 1 + 1 + 1 + 1 := by rw [e5]; simp [z4]
  have B4 : Blk w5 (n + 1 + 1 + 1 + 1) 49 #[.int .i64 0, .int .i64 0, .int .i64 1, .int .i64 0] := by
    have h := Blk.new w4 #[.int .i64 0, .int .i64 0, .int .i64 1, .int .i64 0] 49
    rw [← e5] at h
    rw [hn]
    simpa [z4, hn] using h
  have x5 : Ext [] w4 w5 := by rw [e5]; exact (Ext.refl _ _).alloc _
  obtain ⟨w6, e6⟩ : ∃ x, x = w5.alloc (.cells #[.int .i64 1, .slice (some ⟨w.heap.size + 1 + 1 + 1 + 1, 0, none⟩) 2 2] 46) := ⟨_, rfl⟩
  have z6 : w6.heap.size = n + 1 + 1 + 1 + 1 + 1 + 1 := by rw [e6]; simp [z5]
  have B5 : Blk w6 (n + 1 + 1 + 1 + 1 + 1) 46 #[.int .i64 1, .slice (some ⟨n + 1 + 1 + 1 + 1, 0, none⟩) 2 2] := by
    have h := Blk.new w5 #[.int .i64 1, .slice (some ⟨w.heap.size + 1 + 1 + 1 + 1, 0, none⟩) 2 2] 46
    rw [← e6] at h
    rw [hn]
    simpa [z5, hn] using h
  have x6 : Ext [] w5 w6 := by rw [e6]; exact (Ext.refl _ _).alloc _
  obtain ⟨w7, e7⟩ : ∃ x, x = w6.alloc (.cells #[.int .i64 1] 3) := ⟨_, rfl⟩
  have z7 : w7.heap.size = n + 1 + 1 + 1 + 1 + 1 + 1 + 1 := by rw [e7]; simp [z6]
  have B6 : Blk w7 (n + 1 + 1 + 1 + 1 + 1 + 1) 3 #[.int .i64 1] := by
    have h := Blk.new w6 #[.int .i64 1] 3
    rw [← e7] at h
    rw [hn]
    simpa [z6, hn] using h
  have x7 : Ext [] w6 w7 := by rw [e7]; exact (Ext.refl _ _).alloc _
  obtain ⟨w8, e8⟩ : ∃ x, x = w7.alloc (.cells #[.slice none 0 0, .slice none 0 0, .int .i64 2, .slice (some ⟨w.heap.size + 1, 0, none⟩) 1 1, .slice (some ⟨w.heap.size + 1 + 1, 0, none⟩) 2 2, .int .i32 0, .slice none 0 0, .slice none 0 0, .int .i64 1, .slice none 0 0, .slice (some ⟨w.heap.size + 1 + 1 + 1, 0, none⟩) 1 1, .int .i32 0, .slice (some ⟨w.heap.size + 1 + 1 + 1 + 1 + 1, 0, none⟩) 1 1, .slice none 0 0, .int .i64 4, .slice (some ⟨w.heap.size + 1 + 1 + 1 + 1 + 1 + 1, 0, none⟩) 1 1, .slice none 0 0, .int .i32 0] 43) := ⟨_, rfl⟩
  have z8 : w8.heap.size = n + 1 + 1 + 1 + 1 + 1 + 1 + 1 + 1 := by rw [e8]; simp [z7]
  have B7 : Blk w8 (n + 1 + 1 + 1 + 1 + 1 + 1 + 1) 43 #[.slice none 0 0, .slice none 0 0, .int .i64 2, .slice (some ⟨n + 1, 0, none⟩) 1 1, .slice (some ⟨n + 1 + 1, 0, none⟩) 2 2, .int .i32 0, .slice none 0 0, .slice none 0 0, .int .i64 1, .slice none 0 0, .slice (some ⟨n + 1 + 1 + 1, 0, none⟩) 1 1, .int .i32 0, .slice (some ⟨n + 1 + 1 + 1 + 1 + 1, 0, none⟩) 1 1, .slice none 0 0, .int .i64 4, .slice (some ⟨n + 1 + 1 + 1 + 1 + 1 + 1, 0, none⟩) 1 1, .slice none 0 0, .int .i32 0] := by
    have h := Blk.new w7 #[.slice none 0 0, .slice none 0 0, .int .i64 2, .slice (some ⟨w.heap.size + 1, 0, none⟩) 1 1, .slice (some ⟨w.heap.size + 1 + 1, 0, none⟩) 2 2, .int .i32 0, .slice none 0 0, .slice none 0 0, .int .i64 1, .slice none 0 0, .slice (some ⟨w.heap.size + 1 + 1 + 1, 0, none⟩) 1 1, .int .i32 0, .slice (some ⟨w.heap.size + 1 + 1 + 1 + 1 + 1, 0, none⟩) 1 1, .slice none 0 0, .int .i64 4, .slice (some ⟨w.heap.size + 1 + 1 + 1 + 1 + 1 + 1, 0, none⟩) 1 1, .slice none 0 0, .int .i32 0] 43
    rw [← e8] at h
    rw [hn]
    simpa [z7, hn] using h
  have x8 : Ext [] w7 w8 := by rw [e8]; exact (Ext.refl _ _).alloc _
  rw [← e1, ← e2, ← e3, ← e4, ← e5, ← e6, ← e7, ← e8]
  clear e1 e2 e3 e4 e5 e6 e7 e8
  have y8 : Ext [] w8 w8 := Ext.refl _ _
  have y7 : Ext [] w7 w8 := x8.nil y8
  have y6 : Ext [] w6 w8 := x7.nil y7
  have y5 : Ext [] w5 w8 := x6.nil y6
  have y4 : Ext [] w4 w8 := x5.nil y5
  have y3 : Ext [] w3 w8 := x4.nil y4
  have y2 : Ext [] w2 w8 := x3.nil y3
  have y1 : Ext [] w1 w8 := x2.nil y2
  have hx : Ext [] w w8 := x1.nil y1
  have b0 := B0.ext y1 (by simp)
  have b1 := B1.ext y2 (by simp)
  have b2 := B2.ext y3 (by simp)
  have b3 := B3.ext y4 (by simp)
  have b4 := B4.ext y5 (by simp)
  have b5 := B5.ext y6 (by simp)
  have b6 := B6.ext y7 (by simp)
  have b7 := B7.ext y8 (by simp)
  obtain ⟨W, hW⟩ : ∃ W, W = w8 := ⟨_, rfl⟩
  subst hW
  have hI : ∀ (g : Nat) (l : List Int), 0 < l.length → l.length ≤ 10 → Blk W g 3 (l.map (Value.int .i64)).toArray → SlR kInt 3 W [g] (.slice (some ⟨g, 0, none⟩) l.length l.length) l := fun g l h1 h2 hb =>
    slr_sc.2 (.inr ⟨g, l.length, _, rfl, h1, Nat.le_refl _, by simp only [maxLen]; omega, hb, by simp, rfl, by rw [List.take_of_length_le (by simp)]⟩)
  have s1 := hI (n + 1) [0] (by simp) (by simp) b1
  have s2 := hI (n + 1 + 1) [1, 2] (by simp) (by simp) b2
  have s3 := hI (n + 1 + 1 + 1) [2] (by simp) (by simp) b3
  have s6 := hI (n + 1 + 1 + 1 + 1 + 1 + 1) [1] (by simp) (by simp) b6
  have s4 : SlR kIn 49 W [n + 1 + 1 + 1 + 1] (.slice (some ⟨n + 1 + 1 + 1 + 1, 0, none⟩) 2 2) [⟨0, 0⟩, ⟨1, 0⟩] := by
    have := slr_lit (d := kIn) (Ss := [[], []]) (xs := [⟨0, 0⟩, ⟨1, 0⟩]) b4 (elems_cons (d := kIn) (cs := [.int .i64 0, .int .i64 0]) ⟨rfl, rfl⟩ (elems_cons (d := kIn) (cs := [.int .i64 1, .int .i64 0]) ⟨rfl, rfl⟩ elems_nil rfl) rfl) rfl (by simp) (by simp) (by simp)
    simpa using this
  have s5 : SlR kPhi 46 W [n + 1 + 1 + 1 + 1 + 1, n + 1 + 1 + 1 + 1] (.slice (some ⟨n + 1 + 1 + 1 + 1 + 1, 0, none⟩) 1 1) [⟨1, [⟨0, 0⟩, ⟨1, 0⟩]⟩] := by
    have := slr_lit (d := kPhi) (Ss := [[n + 1 + 1 + 1 + 1]]) (xs := [⟨1, [⟨0, 0⟩, ⟨1, 0⟩]⟩]) b5 (elems_cons (d := kPhi) (cs := [.int .i64 1, .slice (some ⟨n + 1 + 1 + 1 + 1, 0, none⟩) 2 2]) ⟨_, rfl, s4⟩ elems_nil rfl) rfl (by simp) (by simp) (by simp)
    simpa using this
  have r0 : kBlock.rep W ([] ++ ([] ++ ([n + 1] ++ [n + 1 + 1]))) ⟨[], [], ⟨2, [0], [1, 2], 0⟩⟩ [.slice none 0 0, .slice none 0 0, .int .i64 2, .slice (some ⟨n + 1, 0, none⟩) 1 1, .slice (some ⟨n + 1 + 1, 0, none⟩) 2 2, .int .i32 0] :=
    ⟨_, _, _, _, [], [], _, _, rfl, ⟨SlR.nil _ _ _, SlR.nil _ _ _, s1, s2, rfl⟩⟩
  have r1 : kBlock.rep W ([] ++ ([] ++ ([] ++ [n + 1 + 1 + 1]))) ⟨[], [], ⟨1, [], [2], 0⟩⟩ [.slice none 0 0, .slice none 0 0, .int .i64 1, .slice none 0 0, .slice (some ⟨n + 1 + 1 + 1, 0, none⟩) 1 1, .int .i32 0] :=
    ⟨_, _, _, _, [], [], [], _, rfl, ⟨SlR.nil _ _ _, SlR.nil _ _ _, SlR.nil _ _ _, s3, rfl⟩⟩
  have r2 : kBlock.rep W ([n + 1 + 1 + 1 + 1 + 1, n + 1 + 1 + 1 + 1] ++ ([] ++ ([n + 1 + 1 + 1 + 1 + 1 + 1] ++ []))) ⟨[⟨1, [⟨0, 0⟩, ⟨1, 0⟩]⟩], [], ⟨4, [1], [], 0⟩⟩ [.slice (some ⟨n + 1 + 1 + 1 + 1 + 1, 0, none⟩) 1 1, .slice none 0 0, .int .i64 4, .slice (some ⟨n + 1 + 1 + 1 + 1 + 1 + 1, 0, none⟩) 1 1, .slice none 0 0, .int .i32 0] :=
    ⟨_, _, _, _, _, [], _, [], rfl, ⟨s5, SlR.nil _ _ _, s6, SlR.nil _ _ _, rfl⟩⟩
  have s7 := slr_lit b7 (elems_cons r0 (elems_cons r1 (elems_cons r2 elems_nil rfl) rfl) rfl) rfl (by simp) (by simp) (by simp; omega)
  refine bodyPost_ret (v := .agg #[.int .i64 1, .slice (some ⟨n + 1 + 1 + 1 + 1 + 1 + 1 + 1, 0, none⟩) 3 3]) ?_ rfl ?_
  · have c0 := b0.cell (i := 0) rfl
    have c1 := b0.cell (i := 1) rfl
    rw [hn] at c0 c1 ⊢
    simp [results, Try.results18, go_sem, c0, c1]
  · refine ⟨_, _, rfl, ⟨_, rfl, s7⟩, ⟨hx, fun k hk => ?_, ?_⟩⟩
    · simp at hk; omega
    · simp; omega

theorem lt_of_cell {w : World} {p : Addr} {v : Value} (h : w.cell? p = some v) : p.block < w.heap.size := by
  rcases Nat.lt_or_ge p.block w.heap.size with h1 | h1
  · exact h1
  · simp [World.cell?, Array.getElem?_eq_none h1] at h
theorem ex_many : tooMany exF = false := by unfold tooMany; rw [ex_crit]; decide
set_option maxRecDepth 20000 in
set_option maxHeartbeats 1600000 in
theorem awake_calls (w : World) : Calls Try.prog 7 #[] w fun e w' => e = .returned (.bool true) ∧ Ext [] w w' := by
  go_enter Try.func7, Try.ntmps7
  go_wp2_with fail
  refine (example_calls w).mono ?_
  rintro e w1 ⟨v1, S1, rfl, h1, hnew1⟩
  have h1' := h1
  obtain ⟨vb1, rfl, _⟩ := h1
  go_wp2_with fail
  refine (splitFunc_calls h1' (by decide) (by decide)).mono ?_
  rintro e w2 ⟨idom, v2, S2, hid, rfl, hf, hnew2⟩
  rw [right_func ex_right hid] at hf ⊢
  simp only [splitR, ex_many, Bool.false_eq_true, if_false, ex_split] at hf ⊢
  obtain ⟨vb, rfl, hb⟩ := hf
  simp only at hb
  have Hb := Lib.hid hb
  have hb3 := Hb.out
  obtain ⟨g, cap, Ap, cp, Ai, ci, Aa, ca, At, ct, Sb, Sp, Si, Sa, St, hv, hg, hsub, hr0, a0, a1, a2, a3, a4, a5⟩ := FnR.block hb3 0 (by decide)
  simp only [List.length_cons, List.length_nil, Nat.zero_add, Nat.reduceAdd] at hv
  subst hv
  obtain ⟨g', cap', Ap2, cp2, Ai2, ci2, Aa2, ca2, At2, ct2, Sb2, Sp2, Si2, Sa2, St2, hv, _, _, hr2, c0, c1, c2, c3, c4, c5⟩ := FnR.block hb3 2 (by decide)
  cases hv
  obtain ⟨g', cap', Ap3, cp3, Ai3, ci3, Aa3, ca3, At3, ct3, Sb3, Sp3, Si3, Sa3, St3, hv, _, _, hr3, d0, d1, d2, d3, d4, d5⟩ := FnR.block hb3 3 (by decide)
  cases hv
  simp only [List.getElem_cons_zero, List.getElem_cons_succ, List.length_cons, List.length_nil, Nat.reduceMul, Nat.reduceAdd, Nat.zero_mul, Nat.zero_add] at a0 a1 a2 a3 a4 a5 c0 c1 c2 c3 c4 c5 d0 d1 d2 d3 d4 d5 hr0 hr2 hr3
  obtain ⟨gt, capt, hv, _, t1, _⟩ := hr0.t.cell 1 (by decide)
  cases hv
  obtain ⟨gp, Sj, cs, hv, _, _, ⟨vj, rfl, hvj⟩, hcj⟩ := hr2.p.cells 0 (by decide)
  cases hv
  have p0 := hcj 0 _ rfl
  have p1 := hcj 1 _ rfl
  simp only [List.getElem_cons_zero] at hvj p0 p1
  obtain ⟨Aj, cj, rfl, _⟩ := hvj.shape
  obtain ⟨gi, _, cs, hv, _, _, ⟨_, rfl⟩, hq⟩ := hvj.cells 0 (by decide)
  cases hv
  have q0 := hq 0 _ rfl
  obtain ⟨gi', _, cs, hv, _, _, ⟨_, rfl⟩, hq'⟩ := hvj.cells 1 (by decide)
  cases hv
  have q1 := hq' 0 _ rfl
  simp only [kIn, kPhi, List.getElem_cons_zero, List.getElem_cons_succ, List.length_cons, List.length_nil, Nat.reduceMul, Nat.reduceAdd, Nat.zero_mul, Nat.zero_add] at t1 p0 p1 q0 q1
  have l0 := lt_of_cell a0
  have l1 := lt_of_cell t1
  have l2 := lt_of_cell p0
  have l3 := lt_of_cell q0
  simp only at l0 l1 l2 l3
  clear hcj hq hq' hid
  go_wp2
  go_ret
  exact ⟨rfl, (hnew1.ext.nil hnew2.ext).alloc _⟩
end Go.Proofs.Ytkmgbejhbkbaoaa
