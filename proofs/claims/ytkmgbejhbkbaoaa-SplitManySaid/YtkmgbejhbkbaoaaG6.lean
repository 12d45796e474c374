/- The program's graph: Preds. -/
import Derived.Test.YtkmgbejhbkbaoaaG5
namespace Go.Proofs.Ytkmgbejhbkbaoaa
set_option linter.unusedSimpArgs false
set_option linter.unusedVariables false
open Go.RowKit Go.Shelf
attribute [local go_sem] Oper.semAt_some

/-- rows of those from which an edge comes -/
def predsOf (n : Nat) (es : List (Nat × Nat)) : List (List Nat) := (List.range n).map fun b => (es.filter fun e => e.2 == b).map (·.1)
def predsF (g : List (List Nat)) : List (List Nat) := predsOf g.length (edgesF g)
theorem predsOf_snoc {n : Nat} {es : List (Nat × Nat)} {x : Nat × Nat} (hx : x.2 < n) :
    predsOf n (es ++ [x]) = (predsOf n es).set x.2 ((predsOf n es)[x.2]'(by simp [predsOf]; exact hx) ++ [x.1]) := by
  refine List.ext_getElem (by simp [predsOf]) fun i h1 h2 => ?_
  have hi : i < n := by simpa [predsOf] using h1
  rw [List.getElem_set]
  by_cases h : x.2 = i
  · subst h
    simp [predsOf, List.filter_append]
  · rw [if_neg h]
    simp [predsOf, List.filter_append, h]
theorem edges_lt {g : List (List Nat)} (hg : Good g) : ∀ x ∈ edgesF g, x.1 < g.length ∧ x.2 < g.length := by
  intro x hx
  simp only [edgesF, edgesTo, List.take_length, List.mem_flatMap, List.mem_map] at hx
  obtain ⟨p, hp, b, hb, rfl⟩ := hx
  obtain ⟨h1, h2, h3⟩ := List.mem_zipIdx hp
  exact ⟨by omega, (hg p.1 (by rw [h3]; exact List.getElem_mem _)).2 b hb⟩

theorem edgesTo_len {g : List (List Nat)} (hg : Good g) : ∀ k, k ≤ g.length → (edgesTo g k).length ≤ k * g.length
  | 0, _ => by simp [edgesTo]
  | k + 1, hk => by
    have h1 := edgesTo_len hg k (by omega)
    have hgd := hg g[k] (List.getElem_mem (by omega))
    have h2 : (keptF (g[k].map Int.ofNat) g.length).length ≤ (List.range g.length).length := List.length_filter_le _ _
    rw [kept_same hgd.1 hgd.2, List.length_range] at h2
    rw [edgesTo_succ g (by omega), List.length_append, List.length_map, Nat.add_mul, Nat.one_mul]
    omega
theorem edgesF_len {g : List (List Nat)} (hg : Good g) (hn : g.length ≤ 32768) : (edgesF g).length ≤ 1073741824 :=
  Nat.le_trans (edgesTo_len hg g.length (Nat.le_refl _)) (Nat.mul_le_mul hn hn)

set_option maxRecDepth 20000 in
set_option maxHeartbeats 800000 in
theorem preds_calls {w : World} {S : List Nat} {v : Value} {g : List (List Nat)} (h : SlR kRow 22 w S v g) (hg : Good g) (hn : g.length ≤ 32768) :
    Calls Try.prog 36 #[v] w fun e w' => ∃ v' S', e = .returned v' ∧ SlR kRow 22 w' S' v' (predsF g) ∧ New w w' S' := by
  obtain ⟨A, cap, rfl, hcap⟩ := h.shape
  have hmk := run_make_eq Try.underlying33 Try.info22 rfl g.length g.length (by simp) (by omega) (by decide)
  refine (callsIn_wide (n := 5)).1 ?_
  refine callsIn_of_wp_marks Try.func36 rfl trivial ?_ rfl
  simp only [Try.ntmps36, List.size_toArray, List.length_cons, List.length_nil, Nat.reduceAdd, Nat.reduceSub, Array.replicate_succ, Array.replicate_zero, List.push_toArray, List.append_toArray, List.nil_append, List.cons_append]
  gi_wp2_with fail
  refine ⟨trivial, (callsIn_wide.2 (edges_calls _ _ _ _ rfl)).mono ?_⟩
  rintro e w1 ⟨rfl, rfl⟩
  clear hmk
  obtain ⟨So0, hs0, hf0, hn0⟩ := slr_made (d := kRow) (e := 22) (w := w) (zc := #[.slice none 0 0]) (x := []) g.length g.length (by simp [kRow, kSl]) (by omega) rfl (by decide) (fun w => ⟨_, rfl, SlR.nil _ _ _⟩)
  obtain ⟨W0, hW0⟩ : ∃ W0, ((w.alloc (.cells (madeCells #[.slice none 0 0] g.length) 22)).alloc (.cells #[.slice (some ⟨w.heap.size, 0, none⟩) g.length g.length] 33)).alloc (.cells #[.slice A g.length cap] 33) = W0 := ⟨_, rfl⟩
  have hx0 : Ext [] w W0 := by rw [← hW0]; exact (((Ext.refl _ _).alloc _).alloc _).alloc _
  have hsz0 : W0.heap.size = w.heap.size + 3 := by rw [← hW0]; simp
  have hbox : W0.cell? ⟨w.heap.size + 1, 0, none⟩ = some (.slice (some ⟨w.heap.size, 0, none⟩) g.length g.length) := by
    rw [← hW0]
    have := ((Blk.new (w.alloc (.cells (madeCells #[.slice none 0 0] g.length) 22)) #[.slice (some ⟨w.heap.size, 0, none⟩) g.length g.length] 33).alloc (.cells #[.slice A g.length cap] 33)).cell (i := 0) rfl
    simpa using this
  have hgc : W0.cell? ⟨w.heap.size + 2, 0, none⟩ = some (.slice A g.length cap) := by
    rw [← hW0]
    have := (Blk.new ((w.alloc (.cells (madeCells #[.slice none 0 0] g.length) 22)).alloc (.cells #[.slice (some ⟨w.heap.size, 0, none⟩) g.length g.length] 33)) #[.slice A g.length cap] 33).cell (i := 0) rfl
    simpa using this
  have hs00 : SlR kRow 22 W0 So0 (.slice (some ⟨w.heap.size, 0, none⟩) g.length g.length) (List.replicate g.length []) := by
    rw [← hW0]; exact hs0.ext0 (((Ext.refl _ _).alloc _).alloc _)
  have hit := edges1_iter (h.ext0 hx0) hg (by omega) hgc
  simp only [World.size_alloc]
  rw [hW0]
  have HW0 := Lib.hid hW0
  clear hW0
  gi_wp2
  refine wpIn_range_fp (xs := edgesF g) (Sg := (w.heap.size + 2) :: S) rfl (enters_of Try.func75 (by kernel_rfl) rfl) hit (Ext.refl _ _) (fun _ => rfl)
    (fun pre S W => SlR kRow 22 W S (.slice (some ⟨w.heap.size, 0, none⟩) g.length g.length) (predsOf g.length pre) ∧ S.Nodup ∧ w.heap.size + 1 ∉ S ∧
      W.cell? ⟨w.heap.size + 1, 0, none⟩ = some (.slice (some ⟨w.heap.size, 0, none⟩) g.length g.length))
    (fun _ _ _ _ => False) So0 ?hT (fun _ _ _ _ _ _ h _ _ => h) ?h0 ?hSo ?hSg
    (fun x => { tmps := #[.slice A g.length cap, undef, .slice none 0 0, .pointer (some ⟨w.heap.size + 1, 0, none⟩), .int .i64 (x.1 : Int), .int .i64 (x.2 : Int), .slice A g.length cap, .int .i64 (g.length : Int), .slice (some ⟨w.heap.size, 0, none⟩) g.length g.length, .slice A g.length cap, .func (.func 75) #[] #[.pointer (some ⟨w.heap.size + 1 + 1, 0, none⟩)], .int .i64 (x.1 : Int), .int .i64 (x.2 : Int), undef, undef, undef, undef, undef, undef, undef, undef, undef, undef, undef], defers := [] }) ?assign ?body ?done ?stop
  case hT =>
    rintro pre S M A B ⟨t1, t2, t3, t4⟩ hx hM
    exact ⟨t1.ext hx fun k hk hm => (hM k hm).1 hk, t2, t3, hx.cell t4 fun hm => by have := (hM _ hm).2; simp at this; omega⟩
  case h0 => 
    refine ⟨?_, hn0, fun hk => ?_, hbox⟩
    · have : predsOf g.length [] = List.replicate g.length [] := by simp [predsOf, List.map_const']
      rw [this]; exact hs00
    · have := hf0 _ hk; omega
  case hSo =>
    intro k hk
    have h1 := hf0 k hk
    refine ⟨fun hm => ?_, by omega⟩
    rcases List.mem_cons.1 hm with h2 | h2
    · omega
    · have := h.lt k h2; omega
  case hSg =>
    intro k hk
    rcases List.mem_cons.1 hk with h2 | h2
    · omega
    · have := h.lt k h2; omega
  case assign =>
    intro l x W K hK
    simp only [encE]
    gi_wp2
    exact hK
  case body =>
    rintro l pre ⟨a, b⟩ S1 W ⟨t1, t2, t3, t4⟩ hpre hlt hlt2
    have hab := edges_lt hg (a, b) (hpre.subset (by simp))
    simp only at hab
    have hpl : pre.length ≤ 1073741824 := Nat.le_trans ((List.prefix_append pre [(a, b)]).trans hpre).length_le (edgesF_len hg hn)
    obtain ⟨gb, cap', Si, cs, hv, hat⟩ := t1.at b (by simp [predsOf]; exact hab.2)
    have hl : (predsOf g.length pre).length = g.length := by simp [predsOf]
    rw [hl] at hv
    cases hv
    obtain ⟨vv, rfl, hrow⟩ := hat.rep
    have hb1 : (predsOf g.length pre)[b]'(by rw [hl]; exact hab.2) = (pre.filter fun e => e.2 == b).map (·.1) := by simp [predsOf]
    have hrl : ((pre.filter fun e => e.2 == b).map (·.1)).length ≤ pre.length := by rw [List.length_map]; exact List.length_filter_le _ _
    rw [hb1] at hrow
    obtain ⟨Ar, cr, rfl, _⟩ := hrow.shape
    have c1 := hat.cell 0 rfl
    have f1 := hat.frozen b
    simp only [kRow, kSl, Nat.mul_one, Nat.add_zero] at c1
    gi_wp2
    refine wpIn_region_lex (fun W' => W'.cell? ⟨w.heap.size + 1, 0, none⟩ = some (.slice (some ⟨w.heap.size, 0, none⟩) g.length g.length) ∧
        W'.cell? ⟨w.heap.size, b, none⟩ = some (.slice Ar ((pre.filter fun e => e.2 == b).map (·.1)).length cr) ∧ W'.frozen? ⟨w.heap.size, b, none⟩ = false)
      [(0, true), (1, true), (2, true), (3, true), (4, true), (5, true), (6, true), (7, false), (8, false), (9, true), (10, false)] (by kernel_rfl) (by kernel_rfl) ⟨t4, c1, f1⟩ ?_
    refine lex_quiet (.slice (some ⟨w.heap.size, 0, none⟩) g.length g.length) rfl rfl (fun W' hC => by simp [go_sem, hC.1]) ?_
    simp only [put_lit, put_none, List.set_cons_succ, List.set_cons_zero]
    refine lex_quiet (.int .i64 (b : Int)) rfl rfl (fun W' hC => by simp [go_sem]) ?_
    simp only [put_lit, put_none, List.set_cons_succ, List.set_cons_zero]
    refine lex_quiet (.slice (some ⟨w.heap.size, 0, none⟩) g.length g.length) rfl rfl (fun W' hC => by simp [go_sem, hC.1]) ?_
    simp only [put_lit, put_none, List.set_cons_succ, List.set_cons_zero]
    refine lex_quiet (.int .i64 (b : Int)) rfl rfl (fun W' hC => by simp [go_sem]) ?_
    simp only [put_lit, put_none, List.set_cons_succ, List.set_cons_zero]
    refine lex_quiet (.pointer (some ⟨w.heap.size, b, none⟩)) rfl rfl (fun W' hC => by simp [go_sem, hab.2]) ?_
    simp only [put_lit, put_none, List.set_cons_succ, List.set_cons_zero]
    refine lex_quiet (.slice Ar ((pre.filter fun e => e.2 == b).map (·.1)).length cr) rfl rfl (fun W' hC => by simp [go_sem, hC.2.1]) ?_
    simp only [put_lit, put_none, List.set_cons_succ, List.set_cons_zero]
    refine lex_quiet (.int .i64 (a : Int)) rfl rfl (fun W' hC => by simp [go_sem]) ?_
    simp only [put_lit, put_none, List.set_cons_succ, List.set_cons_zero]
    have hsz := hat.lt
    have hszb : w.heap.size + 1 < W.heap.size := by omega
    refine lex_eff (w' := W.drew.alloc (.cells #[.int .i64 (a : Int)] 3)) (.slice (some ⟨W.heap.size, 0, none⟩) 1 1) rfl rfl (by simp [go_sem]) (fun _ => ⟨?_, ?_, ?_⟩) ?_
    · exact ((Ext.refl [] W).drew.alloc _).cell t4 (by simp)
    · exact ((Ext.refl [] W).drew.alloc _).cell c1 (by simp)
    · exact (hat.ext0 ((Ext.refl [] W).drew.alloc _)).frozen b
    simp only [put_lit, put_none, List.set_cons_succ, List.set_cons_zero]
    have hxa : Ext [] W (W.drew.alloc (.cells #[.int .i64 (a : Int)] 3)) := (Ext.refl [] W).drew.alloc _
    have hsrc : Src (W.drew.alloc (.cells #[.int .i64 (a : Int)] 3)) (.slice (some ⟨W.heap.size, 0, none⟩) 1 1) 1 [.int .i64 (a : Int)] := Src.one (w := W.drew) rfl
    have hel : Elems kNat (W.drew.alloc (.cells #[.int .i64 (a : Int)] 3)) [[]] [.int .i64 (a : Int)] [a] := elems_one
    have happ := hrow.ext0 hxa
    generalize hLL : (pre.filter fun e => e.2 == b).map (·.1) = L at *
    refine lex_append (d := kNat) (ys := [a]) (v := .slice Ar L.length cr) (xv := .slice (some ⟨W.heap.size, 0, none⟩) 1 1) rfl rfl (.tmp 18) (.tmp 20) 22 rfl ei_int rfl happ rfl [.int .i64 (a : Int)] [[]] hel rfl (one_one rfl) hsrc (by simp) (le_maxLen (by omega)) (le_bytes (by omega) (by decide)) ?_
    intro v' w' S' hs' hx' hf' hn'
    have hne : w.heap.size ∉ Si := hat.notin
    have hxx : Ext Si W w' := (hxa.mono (by simp)).same hx'
    have hm := hat.mem
    obtain ⟨A', c', rfl, _⟩ := hs'.shape
    refine ⟨fun _ => ⟨?_, ?_, ?_⟩, ?_⟩
    · exact hxx.cell t4 fun h => t3 (hm.2 _ h)
    · exact hxx.cell c1 hne
    · rw [hxx.frozen (p := ⟨w.heap.size, b, none⟩) hsz hne]; exact f1
    simp only [put_lit, put_none, List.set_cons_succ, List.set_cons_zero]
    have e1 := hxx.cell c1 hne
    refine lex_quiet (.pointer (some ⟨w.heap.size, b, none⟩)) rfl rfl (fun W' hC => by simp [go_sem, hab.2]) ?_
    simp only [put_lit, put_none, List.set_cons_succ, List.set_cons_zero]
    have e2 : w'.frozen? ⟨w.heap.size, b, none⟩ = false := by rw [hxx.frozen (p := ⟨w.heap.size, b, none⟩) hsz hne]; exact f1
    refine lex_eff0 (w' := w'.setCell ⟨w.heap.size, b, none⟩ (.slice A' (L ++ [a]).length c')) rfl rfl (by simp [go_sem, e1, e2]) (by simp) ?_
    simp only [put_lit, put_none, List.set_cons_succ, List.set_cons_zero]
    have hS'1 : ∀ k ∈ S', k ∈ Si ∨ W.heap.size ≤ k := fun k hk => by
      rcases hf' k hk with h3 | h3 | h3
      · exact .inl h3
      · simp at h3; exact .inr (by omega)
      · simp at h3
    have hgS' : w.heap.size ∉ S' := fun h3 => by
      rcases hS'1 _ h3 with h4 | h4
      · exact hne h4
      · omega
    obtain ⟨S2, p1, p2, p3, p4⟩ := hat.put t2 (w1 := w') hxx 0 (by decide) (.slice A' (L ++ [a]).length c') (x' := L ++ [a]) (Sx := S')
      ⟨_, rfl, hs'.move fun k hk => Below.heap_setCell w' _ _ k (fun h4 => hgS' (Eq.subst (motive := fun z => z ∈ S') (show k = w.heap.size from h4) hk))⟩ hS'1
    simp only [kRow, kSl, Nat.mul_one, Nat.add_zero] at p1 p4
    refine ⟨S2, ⟨p4, p2⟩, fun k hk => p1.lt k hk, ?_, ?_, ?_, ?_⟩
    · rw [hl] at p1
      have hset := predsOf_snoc (n := g.length) (es := pre) (x := (a, b)) hab.2
      rw [hset]
      simp only [hb1]
      exact p1
    · exact p3 (hn' (hat.nodup t2) (by simp))
    · intro hk
      rcases p2 _ hk with h4 | h4
      · exact t3 h4
      · omega
    · exact p4.cell t4 t3
  case done =>
    rintro D S1 W hD hDS ⟨t1, t2, t3, t4⟩ hfp hdef
    gi_wp2
    have hxD : Ext [D] W (W.putObj D (.deferred none)) := (Ext.refl _ _).putObj (.inl (by simp)) _
    refine ⟨by simp, .inl ⟨_, _, rfl, run_takeDeferred hdef, ?_⟩⟩
    refine ⟨_, results_tmp rfl _ _ _, .slice (some ⟨w.heap.size, 0, none⟩) g.length g.length, S1, rfl, t1.ext hxD (fun k hk => by simp; rintro rfl; exact hDS hk), ⟨(hx0.trans hfp.1 fun k hk => .inr (by have := hf0 k hk; omega)).trans hxD fun k hk => .inr (by simp at hk; omega), fun k hk => ?_, t2⟩⟩
    rcases hfp.2 k hk with h1 | h1
    · have := hf0 k h1; omega
    · omega
  case stop =>
    rintro D c pre S1 W _ _ _ h
    exact h.elim
end Go.Proofs.Ytkmgbejhbkbaoaa
