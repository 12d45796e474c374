/- SplitMany, walked. -/
import Derived.Test.YtkmgbejhbkbaoaaT2
namespace Go.Proofs.Ytkmgbejhbkbaoaa
set_option linter.unusedSimpArgs false
set_option linter.unusedVariables false
open Go.RowKit

/-- while the switches are laid -/
structure MInv (W1 : World) (b : Nat) (bs : List JBlock) (wr : World) (So : List Nat) (vo : Value) : Prop where
  blk : Blk wr b 26 #[.int .i64 1, vo]
  sl : SlR kBlock 43 wr So vo bs
  fresh : ∀ k ∈ So, W1.heap.size ≤ k ∧ k ≠ b
  nodup : So.Nodup
  ext : Ext [] W1 wr
theorem MInv.step {W1 wr V w' : World} {b : Nat} {bs : List JBlock} {x : JBlock} {So S' Sx : List Nat} {vo v' : Value} (h : MInv W1 b bs wr So vo) (hbW : W1.heap.size ≤ b) (hx : Ext [] wr V) (hx' : Ext So V w')
    (hs' : SlR kBlock 43 w' S' v' (bs ++ [x])) (hf : ∀ k ∈ S', k ∈ So ∨ k = V.heap.size ∨ k ∈ [Sx].flatten) (hSx : ∀ k ∈ Sx, wr.heap.size ≤ k) (hn : So.Nodup → [Sx].flatten.Nodup → S'.Nodup) (hnx : Sx.Nodup) :
    MInv W1 b (bs ++ [x]) (w'.setCell ⟨b, 1, none⟩ v') S' v' := by
  have l1 := h.blk.lt
  have l2 := h.ext.size
  have l3 := hx.size
  have hfr : ∀ k ∈ S', W1.heap.size ≤ k ∧ k ≠ b := fun k hk => by
    rcases hf k hk with h1 | h1 | h1
    · exact h.fresh k h1
    · omega
    · have := hSx k (by simpa using h1); omega
  have hb' := (h.blk.ext hx (by simp)).ext hx' (fun hk => (h.fresh b hk).2 rfl)
  refine ⟨by simpa using hb'.set 1 v', hs'.move (fun k hk => Below.heap_setCell w' ⟨b, 1, none⟩ v' k (hfr k hk).2), hfr, hn h.nodup (by simpa using hnx), ?_⟩
  exact ((h.ext.nil hx).trans hx' (fun k hk => .inr (h.fresh k hk).1)).setCell (.inr hbW) _
theorem sw_take {n j : Nat} : (List.range (j + 1)).map (swB n) = (List.range j).map (swB n) ++ [swB n j] := by rw [List.range_succ, List.map_append]; rfl
/-- a row made of numbers -/
theorem made_ints {w : World} (l : List Int) (h0 : 0 < l.length) (h1 : l.length ≤ 1073741824) : SlR kInt 3 (w.alloc (.cells (l.map (Value.int .i64)).toArray 3)) [w.heap.size] (.slice (some ⟨w.heap.size, 0, none⟩) l.length l.length) l := made_lit (by rintro rfl; simp at h0) h1

/-- a block's end stored anew: a jump -/
theorem put_jump {W : World} {S Sb : List Nat} {ga cap m : Nat} {xs : List JBlock} {cs : List Value} (h : SlAt kBlock 43 W S ga cap xs m Sb cs) (hn : S.Nodup) {x : JBlock} (hx : xs[m]'h.hi = x) (n : Nat) (W5 : World)
    (hW5 : W5 = ((((W.setCell ⟨ga, m * 6 + 2, none⟩ (.int .i64 1)).setCell ⟨ga, m * 6 + 2 + 1, none⟩ (.slice none 0 0)).setCell ⟨ga, m * 6 + 2 + 2, none⟩ (.slice (some ⟨W.heap.size, 0, none⟩) 1 1)).setCell ⟨ga, m * 6 + 2 + 3, none⟩ (.int .i32 0)).alloc (.cells #[.int .i64 (n : Int)] 3)) :
    ∃ S', SlR kBlock 43 W5 S' (.slice (some ⟨ga, 0, none⟩) xs.length cap) (xs.set m ⟨x.phis, x.ins, ⟨1, [], [(n : Int)], 0⟩⟩) ∧ (∀ k ∈ S', k ∈ S ∨ W.heap.size ≤ k) ∧ S'.Nodup ∧ Ext S W W5 := by
  have hrep := h.rep
  rw [hx] at hrep
  obtain ⟨vp, vi, va, vt, Sp, Si, Sa, St, rfl, hr⟩ := hrep
  have hnb := h.nodup hn
  have hgn := h.notin
  have hsz : W5.heap.size = W.heap.size + 1 := by rw [hW5]; simp
  have hheap : ∀ k, k < W.heap.size → k ≠ ga → W5.heap[k]? = W.heap[k]? := fun k hk hg => by
    rw [hW5, Below.heap_alloc _ _ k (by simpa using hk), Below.heap_setCell _ _ _ k hg, Below.heap_setCell _ _ _ k hg, Below.heap_setCell _ _ _ k hg, Below.heap_setCell _ _ _ k hg]
  have hnew : Blk W5 W.heap.size 3 #[.int .i64 (n : Int)] := by
    rw [hW5]
    have := Blk.new ((((W.setCell ⟨ga, m * 6 + 2, none⟩ (.int .i64 1)).setCell ⟨ga, m * 6 + 2 + 1, none⟩ (.slice none 0 0)).setCell ⟨ga, m * 6 + 2 + 2, none⟩ (.slice (some ⟨W.heap.size, 0, none⟩) 1 1)).setCell ⟨ga, m * 6 + 2 + 3, none⟩ (.int .i32 0)) #[.int .i64 (n : Int)] 3
    simpa using this
  have hto : SlR kInt 3 W5 [W.heap.size] (.slice (some ⟨W.heap.size, 0, none⟩) 1 1) [(n : Int)] :=
    slr_sc.2 (.inr ⟨_, 1, _, rfl, by decide, by simp, by simp [maxLen], hnew, by simp, rfl, by simp⟩)
  have hlt := hr.lt
  have hmv : ∀ (T : List Nat), (∀ k ∈ T, k ∈ Sb) → ∀ k ∈ T, W5.heap[k]? = W.heap[k]? := fun T hT k hk => hheap k (hlt k (hT k hk)) (fun e => hgn (e ▸ hT k hk))
  have hs := hr.s
  have hcs : (⟨x.phis, x.ins, ⟨1, [], [(n : Int)], 0⟩⟩ : JBlock) = ⟨x.phis, x.ins, ⟨1, [], [(n : Int)], 0⟩⟩ := rfl
  obtain ⟨S', h1, h2, h3⟩ := h.upd (w2 := W5) hn (x' := ⟨x.phis, x.ins, ⟨1, [], [(n : Int)], 0⟩⟩) (Sx := Sp ++ (Si ++ ([] ++ [W.heap.size]))) (cs' := [vp, vi, .int .i64 1, .slice none 0 0, .slice (some ⟨W.heap.size, 0, none⟩) 1 1, .int .i32 0])
    (fun k hk _ hg => hheap k hk hg)
    (by
      intro C hC hchunk
      have hhi := h.hi
      have hCs : (m + 1) * 6 ≤ C.toList.length := by
        obtain ⟨⟨C0, Ss, _, h1, _, hb0, hC0, _⟩, _, _⟩ := h
        have hCC : C = C0 := by
          have e1 : W.heap[ga]? = some (.cells C 43 (0, 0)) := hC
          have e2 : W.heap[ga]? = some (.cells C0 43 (0, 0)) := hb0
          rw [e1] at e2
          injection e2 with e2
          injection e2
        subst hCC
        have e3 : C.toList.length = cap * 6 := by rw [Array.length_toList, hC0]; rfl
        rw [e3]; omega
      refine ⟨(((C.setIfInBounds (m * 6 + 2) (.int .i64 1)).setIfInBounds (m * 6 + 2 + 1) (.slice none 0 0)).setIfInBounds (m * 6 + 2 + 2) (.slice (some ⟨W.heap.size, 0, none⟩) 1 1)).setIfInBounds (m * 6 + 2 + 3) (.int .i32 0), ?_, by simp, ?_, ?_⟩
      · rw [hW5]; exact ((((hC.set _ _).set _ _).set _ _).set _ _).alloc _
      · have hc : (C.toList.drop (m * 6)).take 6 = [vp, vi, .int .i64 x.term.kind, va, vt, .int .i32 x.term.imm] := hchunk
        simp only [Array.toList_setIfInBounds]
        show ((((((C.toList.set (m * 6 + 2) _).set (m * 6 + 3) _).set (m * 6 + 4) _).set (m * 6 + 5) _).drop (m * 6)).take 6) = _
        rw [(cut_set (sz := 6) (j := 5) (by omega) (by simpa using hCs) _).1, (cut_set (sz := 6) (j := 4) (by omega) (by simpa using hCs) _).1, (cut_set (sz := 6) (j := 3) (by omega) (by simpa using hCs) _).1, (cut_set (sz := 6) (j := 2) (by omega) (by simpa using hCs) _).1, hc]
        rfl
      · intro k hk
        simp only [Array.toList_setIfInBounds]
        show ((((((C.toList.set (m * 6 + 2) _).set (m * 6 + 3) _).set (m * 6 + 4) _).set (m * 6 + 5) _).drop (k * 6)).take 6) = (C.toList.drop (k * 6)).take 6
        rw [(cut_set (sz := 6) (j := 5) (by omega) (by simpa using hCs) _).2 k hk, (cut_set (sz := 6) (j := 4) (by omega) (by simpa using hCs) _).2 k hk, (cut_set (sz := 6) (j := 3) (by omega) (by simpa using hCs) _).2 k hk, (cut_set (sz := 6) (j := 2) (by omega) (by simpa using hCs) _).2 k hk])
    ⟨_, _, _, _, _, _, [], _, rfl, ⟨hr.p.move (hmv Sp fun k hk => by rw [hs]; simp [hk]), hr.i.move (hmv Si fun k hk => by rw [hs]; simp [hk]), SlR.nil _ _ _, hto, rfl⟩⟩
    (fun k hk => by
      simp only [List.mem_append, List.not_mem_nil, false_or, List.mem_singleton] at hk
      rcases hk with hk | hk | hk
      · exact .inl (by rw [hs]; simp [hk])
      · exact .inl (by rw [hs]; simp [hk])
      · exact .inr (by omega)) h.lt
  refine ⟨S', h1, h2, h3 ?_, ?_⟩
  · rw [hs] at hnb
    obtain ⟨n1, n2, n3⟩ := List.nodup_append.1 hnb
    obtain ⟨n4, n5, n6⟩ := List.nodup_append.1 n2
    have hsl : ∀ k ∈ Sb, k < W.heap.size := hlt
    refine List.nodup_append.2 ⟨n1, List.nodup_append.2 ⟨n4, by simp, ?_⟩, ?_⟩
    · intro a ha b' hb' hab
      subst hab
      simp at hb'
      have := hsl a (by rw [hs]; simp [ha]); omega
    · intro a ha b' hb' hab
      subst hab
      simp only [List.mem_append, List.not_mem_nil, false_or, List.mem_singleton] at hb'
      rcases hb' with hb' | hb'
      · exact n3 a ha a (by simp [hb']) rfl
      · have := hsl a (by rw [hs]; simp [ha]); omega
  · rw [hW5]
    exact (((((Ext.refl _ _).setCell (.inl h.mem.1) _).setCell (.inl h.mem.1) _).setCell (.inl h.mem.1) _).setCell (.inl h.mem.1) _).alloc _

set_option maxRecDepth 20000 in
set_option maxHeartbeats 3200000 in
theorem many_calls (w : World) (a0 : Int) : Calls Try.prog 5 #[.int .i64 a0] w fun e w' => e = .returned (.bool true) ∧ Ext [] w w' := by
  go_enter Try.func5, Try.ntmps5
  go_wp2_with fail
  refine (awake_calls w).mono ?_
  rintro e W1 ⟨rfl, hx1⟩
  go_wp2_with fail
  refine (rest_calls W1 a0 11 (by omega) (by omega)).mono ?_
  rintro e W1' ⟨rfl, rfl⟩
  have hr0 : 0 ≤ a0 % 11 := Int.emod_nonneg _ (by omega)
  have hr1 : a0 % 11 < 11 := Int.emod_lt_of_pos _ (by omega)
  generalize a0 % 11 = r at *
  obtain ⟨n, hn⟩ : ∃ n : Nat, (n : Int) = 250 + r := ⟨(250 + r).toNat, by omega⟩
  have hn1 : 250 ≤ n := by omega
  have hn2 : n ≤ 260 := by omega
  obtain rfl : r = (n : Int) - 250 := by omega
  clear hn hr0 hr1
  have hsum : 250 + ((n : Int) - 250) = (n : Int) := by omega
  obtain ⟨b, hb⟩ : ∃ b, b = W1.heap.size := ⟨_, rfl⟩
  obtain ⟨W2, hW2⟩ : ∃ x, x = W1.alloc (.cells #[.int .i64 1, .slice none 0 0] 26) := ⟨_, rfl⟩
  have hI0 : MInv W1 b ((List.range 0).map (swB n)) W2 [] (.slice none 0 0) := by
    rw [hW2, hb]
    exact ⟨Blk.new _ _ _, SlR.nil _ _ _, by simp, by simp, (Ext.refl _ _).alloc _⟩
  have HI0 := Lib.hid hI0
  clear hI0
  go_wp2
  rw [← hW2, ← hb]
  clear hW2
  have Hb := Lib.hid hb
  clear hb
  go_loopg [6] n (fun k vi wr => ∃ (j : Nat) (So : List Nat) (vo : Value), vi = .int .i64 (j : Int) ∧ j ≤ n ∧ Hid (j + k = n) ∧ Hid (MInv W1 b ((List.range j).map (swB n)) wr So vo))
  case atStart => exact ⟨0, _, _, rfl, by omega, by simp [Hid], HI0⟩
  case round =>
    obtain ⟨j, So, vo, rfl, hj, HK, HI⟩ := hrel
    clear HI0
    by_cases hlt : j < n
    · obtain ⟨Ao, co, hvo, _⟩ := HI.out.sl.shape
      rw [List.length_map, List.length_range] at hvo
      subst hvo
      have c0 := HI.out.blk.cell (i := 0) rfl
      have c1 := HI.out.blk.cell (i := 1) rfl
      have lb := HI.out.blk.lt
      have hfr := HI.out.fresh
      have hxv : Ext [] wr (((wr.alloc (.cells #[.int .i64 0] 3)).alloc (.cells #[.int .i64 ((j : Int) + 1), .int .i64 (n : Int)] 3)).alloc (.cells #[.slice none 0 0, .slice none 0 0, .int .i64 2, .slice (some ⟨wr.heap.size, 0, none⟩) 1 1, .slice (some ⟨wr.heap.size + 1, 0, none⟩) 2 2, .int .i32 0] 43)) := (((Ext.refl _ _).alloc _).alloc _).alloc _
      have Hsl9 := Lib.hid (HI.out.sl.ext0 hxv)
      have HB9 := Lib.hid (HI.out.blk.ext hxv (by simp))
      have hs0 : SlR kInt 3 (((wr.alloc (.cells #[.int .i64 0] 3)).alloc (.cells #[.int .i64 ((j : Int) + 1), .int .i64 (n : Int)] 3)).alloc (.cells #[.slice none 0 0, .slice none 0 0, .int .i64 2, .slice (some ⟨wr.heap.size, 0, none⟩) 1 1, .slice (some ⟨wr.heap.size + 1, 0, none⟩) 2 2, .int .i32 0] 43)) [wr.heap.size] (.slice (some ⟨wr.heap.size, 0, none⟩) 1 1) [0] := by
        have := made_ints (w := wr) [0] (by simp) (by simp)
        exact SlR.ext0 (by simpa using this) (((Ext.refl _ _).alloc _).alloc _)
      have hs1 : SlR kInt 3 (((wr.alloc (.cells #[.int .i64 0] 3)).alloc (.cells #[.int .i64 ((j : Int) + 1), .int .i64 (n : Int)] 3)).alloc (.cells #[.slice none 0 0, .slice none 0 0, .int .i64 2, .slice (some ⟨wr.heap.size, 0, none⟩) 1 1, .slice (some ⟨wr.heap.size + 1, 0, none⟩) 2 2, .int .i32 0] 43)) [wr.heap.size + 1] (.slice (some ⟨wr.heap.size + 1, 0, none⟩) 2 2) [((j + 1 : Nat) : Int), (n : Int)] := by
        have := made_ints (w := wr.alloc (.cells #[.int .i64 0] 3)) [((j : Int) + 1), (n : Int)] (by simp) (by simp)
        exact SlR.ext0 (by simpa using this) ((Ext.refl _ _).alloc _)
      have hrep : kBlock.rep (((wr.alloc (.cells #[.int .i64 0] 3)).alloc (.cells #[.int .i64 ((j : Int) + 1), .int .i64 (n : Int)] 3)).alloc (.cells #[.slice none 0 0, .slice none 0 0, .int .i64 2, .slice (some ⟨wr.heap.size, 0, none⟩) 1 1, .slice (some ⟨wr.heap.size + 1, 0, none⟩) 2 2, .int .i32 0] 43)) ([] ++ ([] ++ ([wr.heap.size] ++ [wr.heap.size + 1]))) (swB n j) [.slice none 0 0, .slice none 0 0, .int .i64 2, .slice (some ⟨wr.heap.size, 0, none⟩) 1 1, .slice (some ⟨wr.heap.size + 1, 0, none⟩) 2 2, .int .i32 0] :=
        ⟨_, _, _, _, [], [], _, _, rfl, ⟨SlR.nil _ _ _, SlR.nil _ _ _, hs0, hs1, rfl⟩⟩
      have Hone := Lib.hid (Kd.one kBlock hrep)
      have Hrep := Lib.hid hrep
      have Hsrc : Hid (Src (((wr.alloc (.cells #[.int .i64 0] 3)).alloc (.cells #[.int .i64 ((j : Int) + 1), .int .i64 (n : Int)] 3)).alloc (.cells #[.slice none 0 0, .slice none 0 0, .int .i64 2, .slice (some ⟨wr.heap.size, 0, none⟩) 1 1, .slice (some ⟨wr.heap.size + 1, 0, none⟩) 2 2, .int .i32 0] 43)) (.slice (some ⟨wr.heap.size + 1 + 1, 0, none⟩) 1 1) 1 [.slice none 0 0, .slice none 0 0, .int .i64 2, .slice (some ⟨wr.heap.size, 0, none⟩) 1 1, .slice (some ⟨wr.heap.size + 1, 0, none⟩) 2 2, .int .i32 0]) := by
        have := Src.blk (w := (wr.alloc (.cells #[.int .i64 0] 3)).alloc (.cells #[.int .i64 ((j : Int) + 1), .int .i64 (n : Int)] 3)) (cs := [.slice none 0 0, .slice none 0 0, .int .i64 2, .slice (some ⟨wr.heap.size, 0, none⟩) 1 1, .slice (some ⟨wr.heap.size + 1, 0, none⟩) 2 2, .int .i32 0]) (T := 43) 1
        rw [Hid]
        simpa using this
      have Hdis : Hid (∀ k ∈ [[] ++ ([] ++ ([wr.heap.size] ++ [wr.heap.size + 1]))].flatten, k ∉ So) := fun k hk hk2 => by
        have := HI.out.sl.lt k hk2
        simp at hk; omega
      have Hfl : Hid (((List.range j).map (swB n)).length ≤ 1073741824) := by rw [Hid]; simp; omega
      have HbSo : Hid (b ∉ So) := fun hk => (hfr b hk).2 rfl
      have Hfr := Lib.hid hfr
      clear hs0 hs1 hrep hfr hxv
      go_wp2_with (at_builtin; refine wpList_append_sl (d := kBlock) (ys := [swB n j]) rfl (.tmp 20) (.tmp 28) 24 rfl ei_block rfl Hsl9.out rfl [.slice none 0 0, .slice none 0 0, .int .i64 2, .slice (some ⟨wr.heap.size, 0, none⟩) 1 1, .slice (some ⟨wr.heap.size + 1, 0, none⟩) 2 2, .int .i32 0] [[] ++ ([] ++ ([wr.heap.size] ++ [wr.heap.size + 1]))] (elems_single Hrep.out) rfl Hone.out Hsrc.out Hdis.out (le_maxLen Hfl.out) (le_bytesB Hfl.out (by decide)) ?_; intro v' w' S' hs' hx' hf' hn'; have hB' := HB9.out.ext hx' HbSo.out; have u0 := hB'.cell (i := 1) rfl; have u1 := hB'.frozen 1; obtain ⟨A', c', rfl, _⟩ := hs'.shape)
      have hV := hx'
      go_roundg (gk - 1)
      case measure => have := HK.out; omega
      case rel =>
        refine ⟨j + 1, S', .slice A' (j + 1) c', by go_num, by omega, by have := HK.out; simp only [Hid]; omega, ?_⟩
        have hl : ((List.range j).map (swB n) ++ [swB n j]).length = j + 1 := by simp
        rw [hl] at hs'
        rw [sw_take]
        exact HI.out.step (by rw [Hb.out]; exact Nat.le_refl _) ((((Ext.refl _ _).alloc _).alloc _).alloc _) hx' hs' hf' (by simp) hn' (by simp)
    · have hje : j = n := by omega
      subst hje
      obtain ⟨W3, hW3⟩ : ∃ W3, W3 = wr := ⟨_, rfl⟩
      subst hW3
      obtain ⟨Ao, co, hvo, _⟩ := HI.out.sl.shape
      rw [List.length_map, List.length_range] at hvo
      subst hvo
      have c0 := HI.out.blk.cell (i := 0) rfl
      have c1 := HI.out.blk.cell (i := 1) rfl
      have lb := HI.out.blk.lt
      have hxv : Ext [] W3 (W3.alloc (.cells #[.slice none 0 0, .slice none 0 0, .int .i64 4, .slice none 0 0, .slice none 0 0, .int .i32 0] 43)) := (Ext.refl _ _).alloc _
      have Hsl9 := Lib.hid (HI.out.sl.ext0 hxv)
      have HB9 := Lib.hid (HI.out.blk.ext hxv (by simp))
      have hrep : kBlock.rep (W3.alloc (.cells #[.slice none 0 0, .slice none 0 0, .int .i64 4, .slice none 0 0, .slice none 0 0, .int .i32 0] 43)) ([] ++ ([] ++ ([] ++ []))) retB [.slice none 0 0, .slice none 0 0, .int .i64 4, .slice none 0 0, .slice none 0 0, .int .i32 0] :=
        ⟨_, _, _, _, [], [], [], [], rfl, ⟨SlR.nil _ _ _, SlR.nil _ _ _, SlR.nil _ _ _, SlR.nil _ _ _, rfl⟩⟩
      have Hone := Lib.hid (Kd.one kBlock hrep)
      have Hrep := Lib.hid hrep
      have Hfl : Hid (((List.range j).map (swB j)).length ≤ 1073741824) := by rw [Hid]; simp; omega
      have HbSo : Hid (b ∉ So) := fun hk => (HI.out.fresh b hk).2 rfl
      clear hrep hxv
      obtain ⟨m, hm⟩ : ∃ m : Nat, (j : Int) - 1 = (m : Int) := ⟨j - 1, by omega⟩
      have hmj : m < j := by omega
      have hmj1 : m < j + 1 := by omega
      have Hm : Hid (m = j - 1) := by rw [Hid]; omega
      go_wp2_with (at_builtin; refine wpList_append_sl (d := kBlock) (ys := [retB]) rfl (.tmp 32) (.tmp 35) 24 rfl ei_block rfl Hsl9.out rfl [.slice none 0 0, .slice none 0 0, .int .i64 4, .slice none 0 0, .slice none 0 0, .int .i32 0] [[] ++ ([] ++ ([] ++ []))] (elems_single Hrep.out) rfl Hone.out (Src.blk 1) (by simp) (le_maxLen Hfl.out) (le_bytesB Hfl.out (by decide)) ?_; intro v' w' S' hs' hx' hf' hn'; have hB' := HB9.out.ext hx' HbSo.out; have u0 := hB'.cell (i := 1) rfl; have u1 := hB'.frozen 1; obtain ⟨A', c', rfl, _⟩ := hs'.shape)
      have hl : ((List.range j).map (swB j) ++ [retB]).length = j + 1 := by simp
      have hM1 := HI.out.step (by rw [Hb.out]; exact Nat.le_refl _) ((Ext.refl _ _).alloc _) hx' hs' hf' (by simp) hn' (by simp)
      rw [hl] at hM1
      obtain ⟨W4, hW4⟩ : ∃ x, x = w'.setCell ⟨b, 1, none⟩ (.slice A' (j + 1) c') := ⟨_, rfl⟩
      rw [← hW4] at hM1
      obtain ⟨ga, capa, Sb, cs, hva, hat⟩ := hM1.sl.at m (by simp; omega)
      rw [hl] at hva
      cases hva
      have hmem : ((List.range j).map (swB j) ++ [retB])[m]'(by simp; omega) = swB j m := by
        rw [List.getElem_append_left (by simpa using hmj)]; simp
      have hrep := hat.rep
      rw [hmem] at hrep
      obtain ⟨vp, vi, va, vt, Sp, Si, Sa, St, rfl, hr⟩ := hrep
      have z2 := hat.cell 2 rfl
      have z3 := hat.cell 3 rfl
      have z4 := hat.cell 4 rfl
      have z5 := hat.cell 5 rfl
      have f2 := hat.frozen (m * 6 + 2)
      have f3 := hat.frozen (m * 6 + 3)
      have f4 := hat.frozen (m * 6 + 4)
      have f5 := hat.frozen (m * 6 + 5)
      simp only [kBlock] at z2 z3 z4 z5
      have lga := hat.lt
      have hB4 := hM1.blk
      have hB40 := hB4.cell (i := 0) rfl
      have hB41 := hB4.cell (i := 1) rfl
      have lb4 := hB4.lt
      have hgab : ¬ ga = b := (hM1.fresh ga hat.mem.1).2
      have hgba : ¬ b = ga := fun e => hgab e.symm
      have hsz : W4.heap.size = w'.heap.size := by rw [hW4]; simp
      have Hhat := Lib.hid hat
      have Hr := Lib.hid hr
      have HM1 := Lib.hid hM1
      have Hmem := Lib.hid hmem
      rw [← hW4]
      clear hW4 hat hr hM1 hmem hl
      have hmj2 : m ≤ j := by omega
      have hmj3 : (m : Int) < (j : Int) + 1 := by omega
      have Hsz := Lib.hid hsz
      clear hsz
      obtain ⟨W5, hW5⟩ : ∃ x, x = ((((W4.setCell ⟨ga, m * 6 + 2, none⟩ (.int .i64 1)).setCell ⟨ga, m * 6 + 2 + 1, none⟩ (.slice none 0 0)).setCell ⟨ga, m * 6 + 2 + 2, none⟩ (.slice (some ⟨w'.heap.size, 0, none⟩) 1 1)).setCell ⟨ga, m * 6 + 2 + 3, none⟩ (.int .i32 0)).alloc (.cells #[.int .i64 (j : Int)] 3) := ⟨_, rfl⟩
      go_simp
      go_wp2_with fail
      rw [← hW5]
      have hmem := Hmem.out
      obtain ⟨S5, hs5, hf5, hn5, hx5⟩ := put_jump Hhat.out HM1.out.nodup hmem j W5 (by rw [hW5, Hsz.out])
      clear hW5 hmem
      have hfin : SlR kBlock 43 W5 S5 (.slice (some ⟨ga, 0, none⟩) (j + 1) c') (manyB j) := by
        have e1 : ((List.range j).map (swB j) ++ [retB]).length = j + 1 := by simp
        rw [e1] at hs5
        have e2 : manyB j = ((List.range j).map (swB j) ++ [retB]).set m ⟨(swB j m).phis, (swB j m).ins, ⟨1, [], [(j : Int)], 0⟩⟩ := by rw [manyB, ← Hm.out]; rfl
        rw [e2]; exact hs5
      have hxw : Ext [] w W5 := by
        have e1 := hx1.nil HM1.out.ext
        have l1 := hx1.size
        exact e1.trans hx5 (fun k hk => .inr (by have := (HM1.out.fresh k hk).1; omega))
      have hright := many_right (n := j) (by omega) (by omega)
      have hth := many_things (n := j) (by omega)
      have hcr := many_crit (n := j) (by omega)
      refine (splitFunc_calls (f := ⟨1, manyB j⟩) ⟨_, rfl, hfin⟩ (by simp; omega) (by simp only [hth]; omega)).mono ?_
      rintro e W6 ⟨idom, v6, S6, hid, rfl, hf, hnew6⟩
      have htm : tooMany ⟨1, manyB j⟩ = decide (256 < j) := by
        unfold tooMany
        simp only [manyB_len, hcr, hth]
        rw [Bool.eq_iff_iff]; simp; omega
      rw [right_func hright hid] at hf ⊢
      clear hid hright hth
      by_cases hj : 256 < j
      · have hd : decide (256 < j) = true := by simpa using hj
        rw [splitR, htm, hd, if_pos rfl] at hf ⊢
        obtain ⟨vb, rfl, hb6⟩ := hf
        obtain ⟨A6, c6, rfl, _⟩ := hb6.shape
        simp only [List.length_nil]
        clear htm hd hb6
        have ht1 : decide (512 < (j : Int) + 1 + (j : Int) - 1) = true := by simp; omega
        go_wp2
        go_ret
        exact ⟨rfl, (hxw.nil hnew6.ext).alloc _⟩
      · have hd : decide (256 < j) = false := by simpa using hj
        rw [splitR, htm, hd, if_neg (by simp)] at hf ⊢
        obtain ⟨vb, rfl, hb6⟩ := hf
        obtain ⟨A6, c6, rfl, _⟩ := hb6.shape
        have hlen : (splitF ⟨1, manyB j⟩).blocks.length = 2 * j := by
          simp only [splitF, splitBs, List.length_append, List.length_mapIdx, List.length_map, hcr, manyB_len]; omega
        obtain ⟨q, hq⟩ : ∃ q, q = 2 * j := ⟨_, rfl⟩
        rw [hlen, ← hq]
        have hq1 : ((q : Int) == (j : Int) + 1 + (j : Int) - 1) = true := by simp; omega
        have Hq := Lib.hid hq
        clear htm hd hb6 hlen hcr hq
        have ht1 : decide (512 < (j : Int) + 1 + (j : Int) - 1) = false := by simp; omega
        go_wp2
        go_ret
        exact ⟨rfl, (hxw.nil hnew6.ext).alloc _⟩
end Go.Proofs.Ytkmgbejhbkbaoaa
