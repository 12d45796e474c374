/- The program's graph: Critical. -/
import Derived.Test.YtkmgbejhbkbaoaaG6
namespace Go.Proofs.Ytkmgbejhbkbaoaa
set_option linter.unusedSimpArgs false
set_option linter.unusedVariables false
open Go.RowKit Go.Shelf
attribute [local go_sem] Oper.semAt_some

/-- two numbers side by side -/
def kTwo : Kd (Nat × Nat) := {
  sz := 2
  rep := fun _ S x cs => S = [] ∧ cs = [.int .i64 (x.1 : Int), .int .i64 (x.2 : Int)]
  len := by rintro _ _ _ _ ⟨_, rfl⟩; rfl
  one := by rintro _ _ x _ ⟨_, rfl⟩ u hu; simp only [List.mem_cons, List.not_mem_nil, or_false] at hu; rcases hu with rfl | rfl <;> rfl
  lt := by rintro _ _ _ _ ⟨rfl, _⟩ k hk; cases hk
  move := fun h _ => h }
theorem elems_two {w : World} {x : Nat × Nat} : Elems kTwo w [[]] [.int .i64 (x.1 : Int), .int .i64 (x.2 : Int)] [x] := by
  refine ⟨rfl, fun i y hy => ?_⟩
  rcases i with _ | i
  · simp at hy; subst hy; exact ⟨[], rfl, rfl, rfl⟩
  · simp at hy
theorem Try.info77 : (Try.prog.info? 77).map (fun i => (i.zero, i.size, i.bytes)) = some (some (.agg #[.int .i64 0, .int .i64 0]), 2, 16) := by kernel_rfl
theorem ei_two : EI Try.prog 73 77 2 16 := ei_of Try.underlying73 Try.info77 rfl (by decide)

def isCrit (g p : List (List Nat)) (x : Nat × Nat) : Bool := decide (1 < (g.getD x.1 []).length) && decide (1 < (p.getD x.2 []).length)
/-- P2.5 -/
def critF (g : List (List Nat)) : List (Nat × Nat) := (edgesF g).filter (isCrit g (predsF g))

set_option maxRecDepth 20000 in
set_option maxHeartbeats 800000 in
theorem critical_calls {w : World} {S : List Nat} {v : Value} {g : List (List Nat)} (h : SlR kRow 22 w S v g) (hg : Good g) (hn : g.length ≤ 32768) :
    Calls Try.prog 31 #[v] w fun e w' => ∃ v' S', e = .returned v' ∧ SlR kTwo 77 w' S' v' (critF g) ∧ New w w' S' := by
  obtain ⟨A, cap, rfl, hcap⟩ := h.shape
  refine (callsIn_wide (n := 5)).1 ?_
  refine callsIn_of_wp_marks Try.func31 rfl trivial ?_ rfl
  simp only [Try.ntmps31, List.size_toArray, List.length_cons, List.length_nil, Nat.reduceAdd, Nat.reduceSub, Array.replicate_succ, Array.replicate_zero, List.push_toArray, List.append_toArray, List.nil_append, List.cons_append]
  gi_wp2_with fail
  refine ⟨trivial, (callsIn_wide.2 (clean_calls h hg (by omega))).mono ?_⟩
  rintro e w1 ⟨v1, S1, rfl, hr1, hnew1⟩
  gi_wp2_with fail
  refine ⟨trivial, (callsIn_wide.2 (preds_calls (h.ext0 hnew1.ext) hg hn)).mono ?_⟩
  rintro e w2 ⟨v2, S2, rfl, hr2, hnew2⟩
  have hr12 := hr1.ext0 hnew2.ext
  obtain ⟨A1, c1, rfl, _⟩ := hr1.shape
  obtain ⟨A2, c2, rfl, _⟩ := hr2.shape
  gi_wp2_with fail
  refine ⟨trivial, (callsIn_wide.2 (edges_calls _ _ _ _ rfl)).mono ?_⟩
  rintro e w1' ⟨rfl, rfl⟩
  have hx2 : Ext [] w w2 := hnew1.ext.nil hnew2.ext
  obtain ⟨m, hm⟩ : ∃ m, w2.heap.size = m := ⟨_, rfl⟩
  obtain ⟨W0, hW0⟩ : ∃ W0, (((w2.alloc (.cells #[.slice A1 g.length c1] 33)).alloc (.cells #[.slice A2 (predsF g).length c2] 33)).alloc (.cells #[.slice none 0 0] 73)).alloc (.cells #[.slice A g.length cap] 33) = W0 := ⟨_, rfl⟩
  have hx0 : Ext [] w2 W0 := by rw [← hW0]; exact ((((Ext.refl _ _).alloc _).alloc _).alloc _).alloc _
  have hsz0 : W0.heap.size = m + 4 := by rw [← hW0, ← hm]; simp
  have b1 : Blk W0 m 33 #[.slice A1 g.length c1] := by
    rw [← hW0, ← hm]; exact (((Blk.new _ _ _).alloc _).alloc _).alloc _
  have b2 : Blk W0 (m + 1) 33 #[.slice A2 (predsF g).length c2] := by
    rw [← hW0, ← hm]; have := (((Blk.new (w2.alloc (.cells #[.slice A1 g.length c1] 33)) #[.slice A2 (predsF g).length c2] 33).alloc (.cells #[.slice none 0 0] 73)).alloc (.cells #[.slice A g.length cap] 33)); simpa using this
  have b3 : Blk W0 (m + 2) 73 #[.slice none 0 0] := by
    rw [← hW0, ← hm]; have := ((Blk.new ((w2.alloc (.cells #[.slice A1 g.length c1] 33)).alloc (.cells #[.slice A2 (predsF g).length c2] 33)) #[.slice none 0 0] 73).alloc (.cells #[.slice A g.length cap] 33)); simpa using this
  have b4 : W0.cell? ⟨m + 3, 0, none⟩ = some (.slice A g.length cap) := by
    rw [← hW0, ← hm]; have := (Blk.new (((w2.alloc (.cells #[.slice A1 g.length c1] 33)).alloc (.cells #[.slice A2 (predsF g).length c2] 33)).alloc (.cells #[.slice none 0 0] 73)) #[.slice A g.length cap] 33).cell (i := 0) rfl; simpa using this
  have hit := edges1_iter ((h.ext0 hx2).ext0 hx0) hg (by omega) b4
  have q1 := hr12.ext0 hx0
  have q2 := hr2.ext0 hx0
  have hS1 : ∀ k ∈ S1, k < m := fun k hk => by rw [← hm]; exact hr12.lt k hk
  have hS2 : ∀ k ∈ S2, k < m := fun k hk => by rw [← hm]; exact hr2.lt k hk
  have hS : ∀ k ∈ S, k < m := fun k hk => by have := h.lt k hk; have := hx2.size; omega
  have hwm : w.heap.size ≤ m := by have := hx2.size; omega
  simp only [World.size_alloc]
  rw [hW0]
  rw [hm]
  clear hW0
  gi_wp2
  refine wpIn_range_fp (xs := edgesF g) (Sg := (m + 3) :: S) rfl (enters_of Try.func75 (by kernel_rfl) rfl) hit (Ext.refl _ _) (fun _ => rfl)
    (fun pre S W => ∃ vo So, S = (m + 2) :: So ∧ SlR kTwo 77 W So vo (pre.filter (isCrit g (predsF g))) ∧ So.Nodup ∧ (∀ k ∈ So, m + 2 < k) ∧ Blk W (m + 2) 73 #[vo] ∧
      Blk W m 33 #[.slice A1 g.length c1] ∧ Blk W (m + 1) 33 #[.slice A2 (predsF g).length c2] ∧
      SlR kRow 22 W S1 (.slice A1 g.length c1) g ∧ SlR kRow 22 W S2 (.slice A2 (predsF g).length c2) (predsF g))
    (fun _ _ _ _ => False) [m + 2] ?hT (fun _ _ _ _ _ _ h _ _ => h) ?h0 ?hSo ?hSg
    (fun x => { tmps := #[.slice A g.length cap, undef, .slice none 0 0, .pointer (some ⟨m, 0, none⟩), .pointer (some ⟨m + 1, 0, none⟩), .pointer (some ⟨m + 1 + 1, 0, none⟩), .int .i64 (x.1 : Int), .int .i64 (x.2 : Int),
      .slice A g.length cap, .slice A1 g.length c1, .slice A g.length cap, .slice A2 (predsF g).length c2, .slice A g.length cap, .func (.func 75) #[] #[.pointer (some ⟨m + 1 + 1 + 1, 0, none⟩)], .int .i64 (x.1 : Int), .int .i64 (x.2 : Int),
      undef, undef, undef, undef, undef, undef, undef, undef, undef, undef, undef, undef, undef, undef, undef, undef, undef, undef, undef, undef, undef], defers := [] }) ?assign ?body ?done ?stop
  case hT =>
    rintro pre S M A' B ⟨vo, So, rfl, t1, t2, t3, t4, t5, t6, t7, t8⟩ hx hM
    have hM' : ∀ k ∈ M, k ∉ (m + 2) :: So ∧ m + 4 ≤ k := fun k hk => ⟨(hM k hk).1, by have := (hM k hk).2; omega⟩
    exact ⟨vo, So, rfl, t1.ext hx fun k hk hm => (hM' k hm).1 (by simp [hk]), t2, t3, t4.ext hx fun h => (hM' _ h).1 (by simp), t5.ext hx fun h => by have := (hM' _ h).2; omega, t6.ext hx fun h => by have := (hM' _ h).2; omega,
      t7.ext hx fun k hk h => by have := (hM' _ h).2; have := hS1 k hk; omega, t8.ext hx fun k hk h => by have := (hM' _ h).2; have := hS2 k hk; omega⟩
  case h0 => exact ⟨.slice none 0 0, [], rfl, SlR.nil _ _ _, by simp, by simp, b3, b1, b2, q1, q2⟩
  case hSo =>
    intro k hk
    simp at hk
    subst hk
    refine ⟨fun hm => ?_, by omega⟩
    rcases List.mem_cons.1 hm with h2 | h2
    · omega
    · have := hS _ h2; omega
  case hSg =>
    intro k hk
    rcases List.mem_cons.1 hk with h2 | h2
    · omega
    · have := hS _ h2; omega
  case assign =>
    intro l x W K hK
    simp only [encE]
    gi_wp2
    exact hK
  case body =>
    rintro l pre ⟨a, b⟩ S W ⟨vo, So, rfl, t1, t2, t3, t4, t5, t6, t7, t8⟩ hpre hlt hlt2
    have hab := edges_lt hg (a, b) (hpre.subset (by simp))
    simp only at hab
    have hpl : (pre.filter (isCrit g (predsF g))).length ≤ 1073741824 := Nat.le_trans (List.length_filter_le _ _) (Nat.le_trans ((List.prefix_append pre [(a, b)]).trans hpre).length_le (edgesF_len hg hn))
    have hb2 : b < (predsF g).length := by simp [predsF, predsOf]; exact hab.2
    obtain ⟨g1, k1, Ar, cr, Si, hv1, _, e1, _, _⟩ := row_get t7 a hab.1
    obtain ⟨g2, k2, As, cs, Sj, hv2, _, e2, _, _⟩ := row_get t8 b hb2
    cases hv1
    cases hv2
    have d1 := t5.cell (i := 0) rfl
    have d2 := t6.cell (i := 0) rfl
    have d3 := t4.cell (i := 0) rfl
    have f3 := t4.frozen 0
    have hc : isCrit g (predsF g) (a, b) = (decide (1 < g[a].length) && decide (1 < ((predsF g)[b]'hb2).length)) := by
      simp [isCrit, List.getD, hab.1, hb2]
    obtain ⟨Av, cv, hvo, _⟩ := t1.shape
    subst hvo
    have Hc := Lib.hid hc
    have Hsn : Hid ((pre ++ [(a, b)]).filter (isCrit g (predsF g)) = pre.filter (isCrit g (predsF g)) ++ if isCrit g (predsF g) (a, b) = true then [(a, b)] else []) := by
      rw [Hid, List.filter_append]; congr 1; by_cases h : isCrit g (predsF g) (a, b) = true <;> simp [List.filter_cons, h]
    clear hc
    generalize hL : pre.filter (isCrit g (predsF g)) = L at *
    have HL := Lib.hid hL
    clear hL
    by_cases h1 : 1 < g[a].length
    · by_cases h2 : 1 < ((predsF g)[b]'hb2).length
      · have hct : isCrit g (predsF g) (a, b) = true := by rw [Hc.out]; simp [h1, h2]
        have Hs2 : Hid ((pre ++ [(a, b)]).filter (isCrit g (predsF g)) = L ++ [(a, b)]) := by rw [Hid, Hsn.out, if_pos hct]
        clear hct Hsn Hc
        gi_wp2_with (gi_at_builtin; refine wpListIn_append_sl (d := kTwo) (ys := [(a, b)]) rfl (.tmp 30) (.tmp 34) 73 rfl ei_two rfl (t1.ext0 ((Ext.refl _ _).alloc _)) rfl [.int .i64 (a : Int), .int .i64 (b : Int)] [[]] elems_two rfl (kTwo.one (w := W) (S := []) (x := (a, b)) ⟨rfl, rfl⟩) (Src.blk 1) (by simp) (le_maxLen hpl) (le_bytes hpl (by decide)) ?_; intro v' w' S' hs' hx' hf' hn'; obtain ⟨A', c', rfl, _⟩ := hs'.shape; simp only [List.length_append, List.length_cons, List.length_nil, Nat.zero_add] at hs'; have hxx : Ext So W w' := (((Ext.refl [] W).alloc _).mono (by simp)).same hx'; have b4' := t4.ext hxx (fun hk => Nat.lt_irrefl _ (t3 _ hk)); have d4 := b4'.cell (i := 0) rfl; have f4 := b4'.frozen 0)
        have hs2 : SlR kTwo 77 (w'.setCell ⟨m + 1 + 1, 0, none⟩ (.slice A' (L.length + 1) c')) S' (.slice A' (L.length + 1) c') (L ++ [(a, b)]) := hs'.move fun k hk => Below.heap_setCell w' _ _ k (by
          rintro rfl
          rcases hf' _ hk with h5 | h5 | h5
          · exact Nat.lt_irrefl _ (t3 _ h5)
          · simp at h5; omega
          · simp at h5)
        have hxs : Ext ((m + 2) :: So) W (w'.setCell ⟨m + 1 + 1, 0, none⟩ (.slice A' (L.length + 1) c')) := (hxx.mono fun k hk => .inl (List.mem_cons_of_mem _ hk)).setCell (.inl (by simp)) _
        have hSn : ∀ k ∈ S', k ∈ So ∨ W.heap.size ≤ k := fun k hk => by
          rcases hf' k hk with h5 | h5 | h5
          · exact .inl h5
          · simp at h5; exact .inr (by omega)
          · simp at h5
        refine ⟨(m + 2) :: S', ⟨hxs, fun k hk => ?_⟩, fun k hk => ?_, _, S', rfl, by rw [Hs2.out]; exact hs2, hn' t2 (by simp), fun k hk => ?_, b4'.set 0 _, ?_, ?_, ?_, ?_⟩
        · rcases List.mem_cons.1 hk with rfl | hk
          · exact .inl (by simp)
          · rcases hSn k hk with h5 | h5
            · exact .inl (by simp [h5])
            · exact .inr h5
        · rcases List.mem_cons.1 hk with rfl | hk
          · have := hxs.size; omega
          · exact hs2.lt k hk
        · rcases hSn k hk with h5 | h5
          · exact t3 k h5
          · omega
        · exact t5.ext hxs (by simp; exact fun h => by have := t3 _ h; omega)
        · exact t6.ext hxs (by simp; exact fun h => by have := t3 _ h; omega)
        · exact t7.ext hxs fun k hk h => by have := hS1 k hk; simp at h; rcases h with rfl | h; omega; have := t3 _ h; omega
        · exact t8.ext hxs fun k hk h => by have := hS2 k hk; simp at h; rcases h with rfl | h; omega; have := t3 _ h; omega
      · have hct : isCrit g (predsF g) (a, b) = false := by rw [Hc.out]; simp [h2]
        have Hs2 : Hid ((pre ++ [(a, b)]).filter (isCrit g (predsF g)) = L) := by rw [Hid, Hsn.out, hct]; simp
        clear hct Hsn Hc
        gi_wp2
        exact ⟨_, FpStep.refl _ _, hlt, _, So, rfl, by rw [Hs2.out]; exact t1, t2, t3, t4, t5, t6, t7, t8⟩
    · have hct : isCrit g (predsF g) (a, b) = false := by rw [Hc.out]; simp [h1]
      have Hs2 : Hid ((pre ++ [(a, b)]).filter (isCrit g (predsF g)) = L) := by rw [Hid, Hsn.out, hct]; simp
      clear hct Hsn Hc
      gi_wp2
      exact ⟨_, FpStep.refl _ _, hlt, _, So, rfl, by rw [Hs2.out]; exact t1, t2, t3, t4, t5, t6, t7, t8⟩
  case done =>
    rintro D S3 W hD hDS ⟨vo, So, rfl, t1, t2, t3, t4, t5, t6, t7, t8⟩ hfp hdef
    obtain ⟨Av, cv, rfl, _⟩ := t1.shape
    have d3 := t4.cell (i := 0) rfl
    gi_wp2
    have hxD : Ext [D] W (W.putObj D (.deferred none)) := (Ext.refl _ _).putObj (.inl (by simp)) _
    refine ⟨by simp, .inl ⟨_, _, rfl, run_takeDeferred hdef, ?_⟩⟩
    refine ⟨_, results_tmp rfl _ _ _, .slice Av ((edgesF g).filter (isCrit g (predsF g))).length cv, So, rfl, t1.ext hxD (fun k hk => by simp; rintro rfl; exact hDS (by simp [hk])), ⟨((hx2.nil hx0).trans hfp.1 fun k hk => .inr (by simp at hk; omega)).trans hxD fun k hk => .inr (by simp at hk; omega), fun k hk => ?_, t2⟩⟩
    have := t3 k hk; omega
  case stop =>
    rintro D c pre S1 W _ _ _ h
    exact h.elim
end Go.Proofs.Ytkmgbejhbkbaoaa
