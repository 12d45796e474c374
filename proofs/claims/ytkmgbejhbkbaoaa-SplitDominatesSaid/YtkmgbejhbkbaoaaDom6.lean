/- SplitDominates: for every input the call returns true, and the input reads as it did: no condition. -/
import Derived.Test.YtkmgbejhbkbaoaaDom5
import Derived.Deep.DeepCutAuto
import Derived.Test.YtkmgbejhbkbaoaaRows
import Derived.ProofKit
import Derived.OpenShut
import Derived.ChangeSame
import Derived.ChangeSlices
import Derived.Carry
/- The laws' common start: numbers that came in, cut to 400. -/
namespace Go.Proofs.Ytkmgbejhbkbaoaa
set_option linter.unusedSimpArgs false
set_option linter.unusedVariables false
open Go.RowKit

/-- numbers that came in -/
def NumS (w : World) (v : Value) : Prop := ∃ A n c, v = .slice A n c ∧ n ≤ c ∧ c ≤ maxLen ∧ ∀ i, i < n → ∃ g o x, A = some ⟨g, o, none⟩ ∧ w.cell? ⟨g, o + i, none⟩ = some (.int .i64 x)
theorem NumS.ext0 {w w' : World} {v : Value} (h : NumS w v) (hx : Ext [] w w') : NumS w' v := by
  obtain ⟨A, n, c, rfl, h1, h2, h⟩ := h
  refine ⟨A, n, c, rfl, h1, h2, fun i hi => ?_⟩
  obtain ⟨g, o, x, rfl, hc⟩ := h i hi
  exact ⟨g, o, x, rfl, hx.cell hc (by simp)⟩
set_option maxRecDepth 20000 in
theorem seed_calls {w : World} {v : Value} (h : NumS w v) : Calls Try.prog 9 #[v] w fun e w' => ∃ v', e = .returned v' ∧ RdS w' [] v' ∧ Ext [] w w' := by
  obtain ⟨A, n, c, rfl, h1, h2, h⟩ := h
  have H := Lib.hid h
  clear h
  by_cases hn : 400 < n
  · obtain ⟨g, o, x, rfl, hc⟩ := H.out 0 (by omega)
    have hl : 400 ≤ c := by omega
    go_enter Try.func9, Try.ntmps9
    go_wp2
    go_ret
    refine ⟨_, rfl, ⟨some ⟨g, o, none⟩, 400, c, rfl, by omega, fun i hi => ?_⟩, Ext.refl _ _⟩
    obtain ⟨g', o', x', e, hc'⟩ := H.out i (by omega)
    injection e with e
    injection e with e1 e2
    exact ⟨g, o, x', rfl, by simp, by rw [e1, e2]; exact hc'⟩
  · go_enter Try.func9, Try.ntmps9
    go_wp2
    go_ret
    refine ⟨_, rfl, ⟨A, n, c, rfl, by omega, fun i hi => ?_⟩, Ext.refl _ _⟩
    obtain ⟨g', o', x', e, hc'⟩ := H.out i hi
    exact ⟨g', o', x', e, by simp, hc'⟩
/-- what the laws need of a function by numbers -/
theorem made_small {f : JFunc} (h : RightF f) (h9 : f.blocks.length ≤ 9) (ht : thingsN f.blocks ≤ 3240) : tooMany f = false ∧ (critF (ofF f.blocks)).length ≤ 81 ∧ (∀ x ∈ f.blocks, ∀ t ∈ x.term.to, 0 ≤ t ∧ t < (f.blocks.length : Int)) := by
  have hc := crit_le (ofF_good f.blocks)
  have hl : (ofF f.blocks).length = f.blocks.length := by simp [ofF]
  rw [hl] at hc
  have hc2 : (critF (ofF f.blocks)).length ≤ 81 := Nat.le_trans hc (Nat.le_trans (Nat.mul_le_mul h9 h9) (by decide))
  refine ⟨?_, hc2, fun x hx t ht => by have := h.to x hx t ht; omega⟩
  unfold tooMany
  simp only [Bool.or_eq_false_iff, decide_eq_false_iff_not]
  omega
end Go.Proofs.Ytkmgbejhbkbaoaa

/- Plain: the graph of a function that was split: who dominates whom among its own blocks is as it was. -/
namespace Go.Proofs.Ytkmgbejhbkbaoaa
set_option linter.unusedSimpArgs false
set_option linter.unusedVariables false

section
variable {bs : List JBlock}
theorem split_len (bs : List JBlock) : (splitBs bs).length = bs.length + (critF (ofF bs)).length := by simp [splitBs]
theorem split_lo {a : Nat} (ha : a < bs.length) : (splitBs bs)[a]'(by rw [split_len]; omega) = fixB bs.length (critF (ofF bs)) a bs[a] := by
  simp only [splitBs]
  rw [List.getElem_append_left (by simpa using ha), List.getElem_mapIdx]
theorem split_hi {i : Nat} (hi : i < (critF (ofF bs)).length) : (splitBs bs)[bs.length + i]'(by rw [split_len]; omega) = jumpB ((critF (ofF bs))[i].2) := by
  simp only [splitBs]
  rw [List.getElem_append_right (by simp)]
  simp
theorem crit_ed {e : Nat × Nat} (h : e ∈ critF (ofF bs)) : Ed (ofF bs) e.1 e.2 := mem_edgesF.1 (List.mem_filter.1 h).1
/-- where a block of its own leads now -/
theorem ed_lo (hto : ∀ x ∈ bs, ∀ t ∈ x.term.to, 0 ≤ t ∧ t < (bs.length : Int)) {a y : Nat} (ha : a < bs.length) :
    Ed (ofF (splitBs bs)) a y ↔ (y < bs.length ∧ Ed (ofF bs) a y ∧ (a, y) ∉ critF (ofF bs)) ∨ ∃ i, ∃ hi : i < (critF (ofF bs)).length, y = bs.length + i ∧ (critF (ofF bs))[i].1 = a := by
  rw [ed_ofF]
  have hnd := crit_nodup (ofF_good bs)
  have hal : a < (splitBs bs).length := by rw [split_len]; omega
  constructor
  · rintro ⟨_, hy, hm⟩
    rw [split_lo ha] at hm
    simp only [fixB, List.mem_map] at hm
    obtain ⟨t, ht, he⟩ := hm
    obtain ⟨h0, h1⟩ := hto bs[a] (List.getElem_mem ha) t ht
    obtain ⟨t', rfl⟩ : ∃ t' : Nat, t = (t' : Int) := ⟨t.toNat, by omega⟩
    have hed : Ed (ofF bs) a t' := ed_ofF.2 ⟨ha, by omega, ht⟩
    unfold fixT at he
    cases hl : lookC bs.length (critF (ofF bs)) a (t' : Int).toNat with
    | some k =>
      rw [hl] at he
      simp only at he
      obtain ⟨i, hi, hc, hk⟩ := lookC_mem hl
      exact .inr ⟨i, hi, by omega, by rw [hc]⟩
    | none =>
      rw [hl] at he
      simp only at he
      obtain rfl : t' = y := by omega
      refine .inl ⟨by omega, hed, fun hc => ?_⟩
      obtain ⟨i, hi, hci⟩ := List.getElem_of_mem hc
      have := lookC_some (n := bs.length) hnd hi
      rw [hci] at this
      simp only [Int.toNat_natCast] at hl
      rw [this] at hl
      cases hl
  · rintro (⟨hy, hed, hc⟩ | ⟨i, hi, rfl, hc⟩)
    · obtain ⟨_, _, ht⟩ := ed_ofF.1 hed
      refine ⟨hal, by rw [split_len]; omega, ?_⟩
      rw [split_lo ha]
      simp only [fixB, List.mem_map]
      refine ⟨(y : Int), ht, ?_⟩
      unfold fixT
      rw [show (y : Int).toNat = y by simp, lookC_none hc]
    · have hed := crit_ed (List.getElem_mem hi)
      rw [hc] at hed
      obtain ⟨_, _, ht⟩ := ed_ofF.1 hed
      refine ⟨hal, by rw [split_len]; omega, ?_⟩
      rw [split_lo ha]
      simp only [fixB, List.mem_map]
      refine ⟨((critF (ofF bs))[i].2 : Int), ht, ?_⟩
      unfold fixT
      have := lookC_some (n := bs.length) hnd hi
      rw [hc] at this
      rw [show (((critF (ofF bs))[i].2 : Nat) : Int).toNat = (critF (ofF bs))[i].2 by simp, this]
theorem ed_hi {i y : Nat} (hi : i < (critF (ofF bs)).length) : Ed (ofF (splitBs bs)) (bs.length + i) y ↔ y = (critF (ofF bs))[i].2 := by
  have h2 := (Ed.lt (ofF_good bs) (crit_ed (List.getElem_mem hi))).2
  have h3 : (critF (ofF bs))[i].2 < bs.length := by simpa [ofF] using h2
  rw [ed_ofF]
  constructor
  · rintro ⟨_, _, hm⟩
    rw [split_hi hi] at hm
    simp [jumpB] at hm
    omega
  · rintro rfl
    refine ⟨by rw [split_len]; omega, by rw [split_len]; omega, ?_⟩
    rw [split_hi hi]
    simp [jumpB]
theorem rwo_split_to (hto : ∀ x ∈ bs, ∀ t ∈ x.term.to, 0 ≤ t ∧ t < (bs.length : Int)) (h0 : 0 < bs.length) {y x : Nat} (h : Rwo (ofF (splitBs bs)) y x) :
    (x < bs.length → Rwo (ofF bs) y x) ∧ ∀ i, x = bs.length + i → ∀ hi : i < (critF (ofF bs)).length, Rwo (ofF bs) y (critF (ofF bs))[i].1 := by
  induction h with
  | zero hy => exact ⟨fun _ => .zero hy, fun i hi => by omega⟩
  | step hx e hne ih =>
    rename_i x z
    by_cases hxl : x < bs.length
    · rcases (ed_lo hto hxl).1 e with ⟨hz, hed, _⟩ | ⟨i, hi, hz, hc⟩
      · exact ⟨fun _ => (ih.1 hxl).step hed hne, fun i hi => by omega⟩
      · refine ⟨fun h => by omega, fun j hj hj2 => ?_⟩
        obtain rfl : i = j := by omega
        rw [hc]; exact ih.1 hxl
    · have hxl2 := (Ed.lt (ofF_good _) e).1
      have hxl3 : x < bs.length + (critF (ofF bs)).length := by rw [← split_len]; simpa [ofF] using hxl2
      obtain ⟨i, rfl⟩ : ∃ i, x = bs.length + i := ⟨x - bs.length, by omega⟩
      have hi : i < (critF (ofF bs)).length := by omega
      have hz := (ed_hi hi).1 e
      have hr := ih.2 i rfl hi
      have hed := crit_ed (List.getElem_mem hi)
      have hzl := (Ed.lt (ofF_good bs) hed).2
      have hzl2 : (critF (ofF bs))[i].2 < bs.length := by simpa [ofF] using hzl
      subst hz
      exact ⟨fun _ => hr.step hed hne, fun j hj => by omega⟩
theorem rwo_split_of (hto : ∀ x ∈ bs, ∀ t ∈ x.term.to, 0 ≤ t ∧ t < (bs.length : Int)) {y x : Nat} (hy : y < bs.length) (h : Rwo (ofF bs) y x) : Rwo (ofF (splitBs bs)) y x := by
  induction h with
  | zero hy => exact .zero hy
  | step hx e hne ih =>
    rename_i x z
    have hl := Ed.lt (ofF_good bs) e
    have hxl : x < bs.length := by simpa [ofF] using hl.1
    have hzl : z < bs.length := by simpa [ofF] using hl.2
    by_cases hc : (x, z) ∈ critF (ofF bs)
    · obtain ⟨i, hi, hci⟩ := List.getElem_of_mem hc
      have h1 : Ed (ofF (splitBs bs)) x (bs.length + i) := (ed_lo hto hxl).2 (.inr ⟨i, hi, rfl, by rw [hci]⟩)
      have h2 : Ed (ofF (splitBs bs)) (bs.length + i) z := (ed_hi hi).2 (by rw [hci])
      exact (ih.step h1 (by omega)).step h2 hne
    · exact ih.step ((ed_lo hto hxl).2 (.inl ⟨hzl, e, hc⟩)) hne
theorem rch_split (hto : ∀ x ∈ bs, ∀ t ∈ x.term.to, 0 ≤ t ∧ t < (bs.length : Int)) {x : Nat} (h : Rch (ofF bs) 0 x) : Rch (ofF (splitBs bs)) 0 x := by
  induction h with
  | refl => exact .refl
  | step hx e ih =>
    rename_i x z
    have hl := Ed.lt (ofF_good bs) e
    have hxl : x < bs.length := by simpa [ofF] using hl.1
    have hzl : z < bs.length := by simpa [ofF] using hl.2
    by_cases hc : (x, z) ∈ critF (ofF bs)
    · obtain ⟨i, hi, hci⟩ := List.getElem_of_mem hc
      have h1 : Ed (ofF (splitBs bs)) x (bs.length + i) := (ed_lo hto hxl).2 (.inr ⟨i, hi, rfl, by rw [hci]⟩)
      have h2 : Ed (ofF (splitBs bs)) (bs.length + i) z := (ed_hi hi).2 (by rw [hci])
      exact (ih.step h1).step h2
    · exact ih.step ((ed_lo hto hxl).2 (.inl ⟨hzl, e, hc⟩))
theorem split_reach (hto : ∀ x ∈ bs, ∀ t ∈ x.term.to, 0 ≤ t ∧ t < (bs.length : Int)) (ha : AllR (ofF bs)) : AllR (ofF (splitBs bs)) := by
  have h0 : 0 < bs.length := by simpa [ofF] using ha.1
  refine ⟨by simp [ofF, split_len]; omega, fun x hx => ?_⟩
  have hx2 : x < bs.length + (critF (ofF bs)).length := by rw [← split_len]; simpa [ofF] using hx
  by_cases hxl : x < bs.length
  · exact rch_split hto (ha.2 x (by simpa [ofF] using hxl))
  · obtain ⟨i, rfl⟩ : ∃ i, x = bs.length + i := ⟨x - bs.length, by omega⟩
    have hi : i < (critF (ofF bs)).length := by omega
    have hed := crit_ed (List.getElem_mem hi)
    have hl := (Ed.lt (ofF_good bs) hed).1
    have hl2 : (critF (ofF bs))[i].1 < bs.length := by simpa [ofF] using hl
    exact (rch_split hto (ha.2 _ hl)).step ((ed_lo hto hl2).2 (.inr ⟨i, hi, rfl, rfl⟩))
theorem split_dom (hto : ∀ x ∈ bs, ∀ t ∈ x.term.to, 0 ≤ t ∧ t < (bs.length : Int)) (h0 : 0 < bs.length) {i1 i2 : List Int} (h1 : IdomOk (ofF bs) i1) (h2 : IdomOk (ofF (splitBs bs)) i2) {a b : Nat} (ha : a < bs.length) (hb : b < bs.length) : domF i1 a b = domF i2 a b := by
  have e1 := h1.2 a b (by simpa [ofF] using ha) (by simpa [ofF] using hb)
  have e2 := h2.2 a b (by simp [ofF, split_len]; omega) (by simp [ofF, split_len]; omega)
  rw [Bool.eq_iff_iff, e1, e2]
  exact not_congr ⟨fun h => rwo_split_of hto ha h, fun h => (rwo_split_to hto h0 h).1 hb⟩
end
end Go.Proofs.Ytkmgbejhbkbaoaa

/- SplitDominates, walked. -/
namespace Go.Proofs.Ytkmgbejhbkbaoaa
set_option linter.unusedSimpArgs false
set_option linter.unusedVariables false
open Go.RowKit

set_option maxRecDepth 20000 in
set_option maxHeartbeats 3200000 in
theorem lawdom_calls {w : World} {v : Value} (h : NumS w v) : Calls Try.prog 3 #[v] w fun e w' => e = .returned (.bool true) ∧ Ext [] w w' := by
  have H0 := Lib.hid h
  clear h
  go_enter Try.func3, Try.ntmps3
  go_wp2_with fail
  refine (awake_calls w).mono ?_
  rintro e w1 ⟨rfl, hx1⟩
  have H1 := Lib.hid (H0.out.ext0 hx1)
  go_wp2_with fail
  refine (seed_calls H1.out).mono ?_
  rintro e w2 ⟨v2, rfl, hr2, hx2⟩
  have HX2 := Lib.hid (hx1.nil hx2)
  clear hx1 hx2 H1
  go_wp2_with fail
  refine (made_calls hr2).mono ?_
  rintro e w3 ⟨v3, S3, f, rfl, hf3, hnew3, hR, h9, hth⟩
  have HX3 := Lib.hid (HX2.out.nil hnew3.ext)
  obtain ⟨hmany, hcrit, hto⟩ := made_small hR h9 hth
  have HR := Lib.hid hR
  have Hmany := Lib.hid hmany
  have Hto := Lib.hid hto
  have Hhf3 := Lib.hid hf3
  obtain ⟨vb3, rfl, hb3⟩ := hf3
  obtain ⟨A3, c3, rfl, -⟩ := hb3.shape
  obtain ⟨n, hn⟩ : ∃ n, n = f.blocks.length := ⟨_, rfl⟩
  have Hn := Lib.hid hn
  clear hr2 HX2 hnew3 hR hmany hto hb3
  simp only [← hn] at Hhf3 ⊢
  clear hn
  have HR0 := HR.out.ne
  go_wp2_with fail
  have hx4 : Ext [] w3 (w3.alloc (.cells #[.int .i64 f.params, .slice A3 n c3] 26)) := (Ext.refl _ _).alloc _
  have hB4 : Blk (w3.alloc (.cells #[.int .i64 f.params, .slice A3 n c3] 26)) w3.heap.size 26 #[.int .i64 f.params, .slice A3 n c3] := Blk.new _ _ _
  obtain ⟨w4, hw4⟩ : ∃ z, z = w3.alloc (.cells #[.int .i64 f.params, .slice A3 n c3] 26) := ⟨_, rfl⟩
  obtain ⟨b4, hb4⟩ : ∃ z, z = w3.heap.size := ⟨_, rfl⟩
  rw [← hw4] at hx4 hB4
  rw [← hb4] at hB4
  simp only [← hw4, ← hb4]
  have HF4 := Lib.hid (Hhf3.out.ext hx4 (by simp))
  have HX4 := Lib.hid (HX3.out.nil hx4)
  clear hw4 hb4 Hhf3 HX3
  refine (splitFunc_calls HF4.out (by omega) (by omega)).mono ?_
  rintro e w5 ⟨idom0, v5, S5, hid, rfl, hf5, hnew5⟩
  rw [right_func HR.out hid] at hf5 ⊢
  simp only [splitR, Hmany.out, Bool.false_eq_true, if_false] at hf5 ⊢
  clear hid
  have Hhf5 := Lib.hid hf5
  obtain ⟨vb5, rfl, hb5⟩ := hf5
  obtain ⟨A5, c5, rfl, -⟩ := hb5.shape
  obtain ⟨m, hm⟩ : ∃ m, m = (splitF f).blocks.length := ⟨_, rfl⟩
  have hm2 : m = f.blocks.length + (critF (ofF f.blocks)).length := by rw [hm]; exact split_len _
  have hm3 : m ≤ 90 := by omega
  have Hm := Lib.hid hm
  simp only [← hm] at Hhf5 ⊢
  have hx6 : Ext [] w5 (w5.alloc (.cells #[.int .i64 (splitF f).params, .slice A5 m c5] 26)) := (Ext.refl _ _).alloc _
  have hB6 : Blk (w5.alloc (.cells #[.int .i64 (splitF f).params, .slice A5 m c5] 26)) w5.heap.size 26 #[.int .i64 (splitF f).params, .slice A5 m c5] := Blk.new _ _ _
  obtain ⟨w6, hw6⟩ : ∃ z, z = w5.alloc (.cells #[.int .i64 (splitF f).params, .slice A5 m c5] 26) := ⟨_, rfl⟩
  obtain ⟨b6, hb6⟩ : ∃ z, z = w5.heap.size := ⟨_, rfl⟩
  have hx46 : Ext [] w4 w6 := by rw [hw6]; exact hnew5.ext.nil hx6
  rw [← hw6] at hx6 hB6
  rw [← hb6] at hB6
  have HF6 := Lib.hid (Hhf5.out.ext hx6 (by simp))
  have HFf6 := Lib.hid (HF4.out.ext hx46 (by simp))
  have HX6 := Lib.hid (HX4.out.nil hx46)
  have HB4 := Lib.hid (hB4.ext hx46 (by simp))
  have HB6 := Lib.hid hB6
  clear hm hm2 hb5 hnew5 hx4 hB4 hx46 hx6 hB6 HF4 HX4 Hhf5
  go_upto_region 6 with (fail)
  rw [← hw6, ← hb6]
  clear hw6 hb6
  have k0 : w6.cell? ⟨b4, 0, none⟩ = some (.int .i64 f.params) := HB4.out.cell (i := 0) rfl
  have k1 : w6.cell? ⟨b4, 1, none⟩ = some (.slice A3 n c3) := HB4.out.cell (i := 1) rfl
  go_wp2_with fail
  refine (of_calls HFf6.out (by omega) (fun x hx => by have := (termOk_to (HR.out.term x hx)).1; omega)).mono ?_
  rintro e w7 ⟨v7, S7, rfl, hg7, hnew7⟩
  clear k0 k1
  have hgl : (ofF f.blocks).length = n := by rw [Hn.out]; simp [ofF]
  have hgl' : (ofF (splitF f).blocks).length = m := by rw [Hm.out]; simp [ofF]
  go_wp2_with fail
  refine (idom_calls hg7 (ofF_good _) HR.out.reach (by rw [hgl, Hn.out]; omega)).mono ?_
  rintro e w8 ⟨v8, S8, i1, rfl, hi1, hok1, hnew8⟩
  have hx68 := hnew7.ext.nil hnew8.ext
  have hl1 : i1.length = n := hok1.1.trans hgl
  have HOk1 := Lib.hid hok1
  obtain ⟨A8, c8, hv8, -⟩ := hi1.shape
  rw [hl1] at hv8
  subst hv8
  have HI1 := Lib.hid hi1
  have HB4 := Lib.hid (HB4.out.ext hx68 (by simp))
  have HB6 := Lib.hid (HB6.out.ext hx68 (by simp))
  have HF6 := Lib.hid (HF6.out.ext hx68 (by simp))
  have HX8 := Lib.hid (HX6.out.nil hx68)
  have Hl1 := Lib.hid hl1
  have k0 : w8.cell? ⟨b6, 0, none⟩ = some (.int .i64 (splitF f).params) := HB6.out.cell (i := 0) rfl
  have k1 : w8.cell? ⟨b6, 1, none⟩ = some (.slice A5 m c5) := HB6.out.cell (i := 1) rfl
  clear hg7 hnew7 hnew8 hx68 hi1 hok1 hgl hl1 HX6 HFf6
  have Hgl' := Lib.hid hgl'
  clear hgl'
  go_wp2_with fail
  refine (of_calls HF6.out (by rw [← Hm.out]; omega) (fun x hx => by
    rcases List.mem_append.1 hx with hx | hx
    · obtain ⟨i, hi, rfl⟩ := List.mem_mapIdx.1 hx
      have := (termOk_to (HR.out.term _ (List.getElem_mem hi))).1
      simp only [fixB, List.length_map]; omega
    · obtain ⟨e, _, rfl⟩ := List.mem_map.1 hx
      simp [jumpB])).mono ?_
  rintro e w9 ⟨v9, S9, rfl, hg9, hnew9⟩
  have hto := Hto.out
  go_wp2_with fail
  refine (idom_calls hg9 (ofF_good _) (split_reach hto HR.out.reach) (by rw [Hgl'.out]; omega)).mono ?_
  rintro e w10 ⟨v10, S10, i2, rfl, hi2, hok2, hnew10⟩
  have hx810 := hnew9.ext.nil hnew10.ext
  have hl2 : i2.length = m := hok2.1.trans Hgl'.out
  have HD : Hid (∀ a b, a < n → b < n → domF i1 (a : Int) (b : Int) = domF i2 (a : Int) (b : Int)) := fun a b ha hb => split_dom Hto.out HR0 HOk1.out hok2 (by rw [← Hn.out]; exact ha) (by rw [← Hn.out]; exact hb)
  obtain ⟨A10, c10, hv10, -⟩ := hi2.shape
  rw [hl2] at hv10
  subst hv10
  have HI2 := Lib.hid hi2
  have Hl2 := Lib.hid hl2
  have HI1 := Lib.hid (HI1.out.ext0 hx810)
  have HB4 := Lib.hid (HB4.out.ext hx810 (by simp))
  have HX10 := Lib.hid (HX8.out.nil hx810)
  have hn9 : n ≤ 9 := by rw [Hn.out]; exact h9
  clear hg9 hnew9 hnew10 hx810 hi2 hok2 hl2 hto k0 k1 HX8 HF6 HB6 HOk1
  go_wp2
  go_loopg [9] n (fun r v9 wx => ∃ a : Nat, v9 = .int .i64 (a : Int) ∧ a ≤ n ∧ Hid (a + r = n) ∧ Hid (Ext [] w10 wx))
  case atStart => exact ⟨0, rfl, by omega, by simp [Hid], Ext.refl _ _⟩
  case round =>
    obtain ⟨a, rfl, ha, HK, HX⟩ := hrel
    obtain ⟨q9, hq9⟩ : ∃ x, x = gk := ⟨_, rfl⟩
    subst hq9
    have k1 : wr.cell? ⟨b4, 1, none⟩ = some (.slice A3 n c3) := HX.out.cell (HB4.out.cell (i := 1) rfl) (by simp)
    by_cases hlt : a < n
    · go_wp2
      clear k1
      go_loopg [10] n (fun r v10 wx => ∃ b : Nat, v10 = .int .i64 (b : Int) ∧ b ≤ n ∧ Hid (b + r = n) ∧ Hid (Ext [] w10 wx))
      case atStart => exact ⟨0, rfl, by omega, by simp [Hid], HX⟩
      case round =>
        clear HX
        obtain ⟨b, rfl, hb, HKb, HX⟩ := hrel
        have k1 : wr.cell? ⟨b4, 1, none⟩ = some (.slice A3 n c3) := HX.out.cell (HB4.out.cell (i := 1) rfl) (by simp)
        by_cases hltb : b < n
        · obtain ⟨d, hd⟩ : ∃ d, d = domF i1 (a : Int) (b : Int) := ⟨_, rfl⟩
          have hd2 : domF i2 (a : Int) (b : Int) = d := by rw [hd]; exact (HD.out a b hlt hltb).symm
          have Hd := Lib.hid hd
          have Hd2 := Lib.hid hd2
          clear hd hd2
          go_wp2_with fail
          refine (dominates_calls (by have := HI1.out.ext0 HX.out; rw [← Hl1.out] at this ⊢; exact this) (by rw [Hl1.out]; omega) (a : Int) (b : Int)).mono ?_
          rintro e w11 ⟨rfl, hx11⟩
          rw [← Hd.out]
          have HX11 := Lib.hid (HX.out.nil hx11)
          clear hx11 HX k1
          go_wp2_with fail
          refine (dominates_calls (by have := HI2.out.ext0 HX11.out; rw [← Hl2.out] at this ⊢; exact this) (by rw [Hl2.out]; omega) (a : Int) (b : Int)).mono ?_
          rintro e w12 ⟨rfl, hx12⟩
          rw [Hd2.out]
          have HX12 := Lib.hid (HX11.out.nil hx12)
          clear hx12 HX11
          go_wp2
          go_roundg (gk - 1)
          case measure => have := HKb.out; omega
          case rel => exact ⟨b + 1, by go_num, by omega, by have := HKb.out; simp only [Hid]; omega, HX12⟩
        · go_wp2
          go_roundg (q9 - 1)
          case measure => have := HK.out; omega
          case rel => exact ⟨a + 1, by go_num, by omega, by have := HK.out; simp only [Hid]; omega, HX⟩
    · go_wp2
      go_ret
      exact ⟨rfl, HX10.out.nil HX.out⟩
end Go.Proofs.Ytkmgbejhbkbaoaa

/- A law's last step: what a call leaves that has only made new blocks. -/
namespace Go.Proofs.Ytkmgbejhbkbaoaa
set_option linter.unusedSimpArgs false
set_option linter.unusedVariables false
open Go.ChangeShapes Go.WideShapes Go.ChangeAt Go.RowKit

theorem own : ownKnob Try.prog.godebug = none := by kernel_rfl
section
variable {H : Type} {enc : TypeId × Value → H} {P : Program}
/-- the world has new blocks; what was there is as it was -/
theorem post_ext {f : Func} {s : ChangeSpec} {apart fresh handsOn again : Bool} {W W' : World} {args : Array Value} {v : Value} {ds gs : List (DataW H)} {mem pa pv : List MemPlace} (hx : Ext [] W W')
    (hw : DataW.Whole enc P f.params.toList s.vars apart W args.toList ds gs mem) (hsplit : mem = pa ++ pv)
    (hr : ∀ (b : Nat) (sp : Nat → Bool) (hd : Bool), DataW.TrodAll enc P W' b sp hd f.resultTypes.toList (v.resultList f.resultTypes.size) (s.fn H (ds ++ gs)).results [])
    (ha : ∀ sp : Nat → Bool, (∀ p ∈ mem, sp p.block = true) → DataW.TrodAll enc P W' 0 sp true f.params.toList args.toList (s.fn H (ds ++ gs)).args pa)
    (hv : ∀ sp : Nat → Bool, (∀ p ∈ mem, sp p.block = true) → DataW.TrodVars enc P W' sp s.vars (s.fn H (ds ++ gs)).vars pv)
    (hok : ∀ (j : Nat) (t : TypeId) (r : Value), f.resultTypes[j]? = some t → (v.resultList f.resultTypes.size)[j]? = some r → Value.okWide P W' .any 0 t r) :
    s.post enc P f apart fresh handsOn again W args v W' := by
  subst hsplit
  have hin : ∀ q ∈ pa ++ pv, q.block < W.heap.size := fun q hq => hw.lt q hq
  refine ⟨ds, gs, pa ++ pv, [], pa, pv, hw, hr _ _ _, ha _ fun q hq => decide_eq_true (hin q hq), hv _ fun q hq => decide_eq_true (hin q hq), World.keptBut_mono ?_ (hx.below.frame (· ∈ pa ++ pv)), ?_⟩
  · intro q hq
    exact ⟨hq, .inr (by simpa using hq)⟩
  · intro _
    obtain ⟨_, _, _, _, _, hz, hn⟩ := hw
    have hall := trodAll_append (ha (fun _ => true) (fun _ _ => rfl)) (hr _ _ _)
    refine ⟨hok, _, _, ([] ++ pa) ++ pv, ⟨[] ++ pa, pv, hall, hv _ (fun _ _ => rfl), rfl, fun b off hb => ?_, fun hap => by simpa using hn hap⟩, fun q hq _ => by simpa using hq⟩
    have hq : MemPlace.cell b off ∈ pa ++ pv := by simpa using hb
    rw [hx.below.frozen (hin _ hq)]
    exact hz b off hq
end
end Go.Proofs.Ytkmgbejhbkbaoaa

/- A law's argument: a slice of numbers that is read alone. -/
namespace Go.Proofs.Ytkmgbejhbkbaoaa
set_option linter.unusedSimpArgs false
set_option linter.unusedVariables false
open Go.ChangeShapes Go.WideShapes Go.ChangeAt Go.RowKit

theorem cells_int : Try.prog.cellsOf 3 = 1 := by kernel_rfl
section
variable {H : Type} {enc : TypeId × Value → H} {W W' : World} {v : Value} {d : DataW H} {ps : List MemPlace}
theorem ints_in (hv : ∃ a l c, v = .slice a l c) (h : DataW.Trod enc Try.prog W 0 (fun _ => true) true 22 v d ps) : NumS W v := by
  obtain ⟨a0, l0, c0, rfl⟩ := hv
  obtain ⟨fuel, hf⟩ := h
  rcases open_ints Try.underlying22 Try.underlying3 cells_int hf with ⟨hcs, _⟩ | ⟨a, len, cap, zs, hcs, _, hl, hm, hz, _, hcell, _⟩
  · simp [Value.cells] at hcs
    obtain ⟨rfl, rfl, rfl⟩ := hcs
    exact ⟨none, 0, 0, rfl, Nat.le_refl _, Nat.zero_le _, fun i hi => by omega⟩
  · simp [Value.cells] at hcs
    obtain ⟨rfl, rfl, rfl⟩ := hcs
    simp only [if_true] at hz
    refine ⟨_, _, _, rfl, hl, hm, fun i hi => ?_⟩
    obtain ⟨g, o, rfl, hc⟩ := ints_at hcell (by omega)
    exact ⟨g, o, _, rfl, hc i (by omega)⟩
theorem ints_out (h : DataW.Trod enc Try.prog W 0 (fun _ => true) true 22 v d ps) (hx : Ext [] W W') (hlt : ∀ x ∈ ps, x.block < W.heap.size) (sp : Nat → Bool) (hsp : ∀ x ∈ ps, sp x.block = true) : DataW.Trod enc Try.prog W' 0 sp true 22 v d ps :=
  WideElems.Trod_stays Try.laidOut (by kernel_rfl) (of_decide_eq_true (by kernel_rfl)) h (fun x hx' => hx.below.same (hlt x hx')) hsp
end
end Go.Proofs.Ytkmgbejhbkbaoaa

/- SplitDominates: for every input the call returns true, and the input reads as it did: no condition. -/
namespace Go.Proofs.Ytkmgbejhbkbaoaa
set_option linter.unusedSimpArgs false
set_option linter.unusedVariables false
open Go.ChangeShapes Go.WideShapes Go.ChangeAt Go.RowKit

set_option maxRecDepth 100000 in
theorem dom_lifted (os : Os) (started : os.Started) (H : Type) (enc : TypeId × Value → H) :
    ReturnsInHanded {} Try.checked os 3 .any (Rows.splitDominatesSpec.pre6 enc Try.prog Try.f3 Rows.splitDominatesRow.domain false) (Rows.splitDominatesSpec.post enc Try.prog Try.f3 false true false false) := by
  refine returnsInHanded_of_change (C := Try.checked) own started (by kernel_rfl) Try.func3
    (ChangeSpec.witness6 (enc := enc) (C := Try.checked) false ⟨#[], #[.slice none 0 0], []⟩ 8 (by kernel_rfl) (by kernel_rfl) (by kernel_rfl) (by kernel_rfl)) ?_
  intro W base args ds gs before hval0 hW hcnd _
  have hval : ∀ (j : Nat) t v, Try.f3.params[j]? = some t → args[j]? = some v → Value.okWide Try.prog W .any base t v := hval0
  have hW' := hW
  obtain ⟨p, q, hA0, hV, rfl, hfz, hnd⟩ := hW
  have hA : DataW.TrodAll enc Try.prog W 0 (fun _ => true) true Try.f3.params.toList args.toList ds p := hA0
  rw [Try.params3] at hA hval
  obtain ⟨v0, d0, hargs, rfl, h0⟩ := trodAll_one hA
  obtain rfl : args = #[v0] := by cases args; simp_all
  obtain ⟨rfl, rfl⟩ := trodVars_none hV
  clear hA0 hval0
  simp only [List.append_nil] at hW'
  have hlt : ∀ x ∈ p, x.block < W.heap.size := fun x hx => by simpa using hW'.lt x hx
  refine (lawdom_calls (ints_in (okWide_slice Try.underlying22 (hval 0 22 v0 rfl rfl)) h0)).mono fun e W' ⟨he, hx⟩ => ?_
  subst he
  exact ⟨_, rfl, post_ext (pa := p) (pv := []) hx hW' (by simp) (fun _ _ _ => (trodAll_cons_mk (shut_bool Try.underlying4 _) trodAll_mk0)) (fun sp hsp => trodAll_mk1 (ints_out h0 hx hlt sp hsp)) (fun _ _ => rfl)
    (ok_one (by kernel_rfl) rfl (okWide_bool_mk Try.underlying4 _))⟩

theorem dom_over : Rows.splitDominatesRow.holds Try.pinned (OpenSpec.ofChange Rows.splitDominatesSpec) :=
  OpenClaim.holds_of_wide 3 Try.f3 rfl rfl rfl rfl rfl rfl rfl ⟨rfl, rfl, rfl, rfl, rfl⟩ rfl rfl rfl rfl rfl (by kernel_rfl) Try.func3 (by kernel_rfl)
    (of_decide_eq_true (by kernel_rfl)) (by unfold Func.isWrapper; first | (rw [if_pos (by decide +kernel)]; kernel_rfl) | (rw [if_neg (by decide +kernel)]; exact ⟨rfl, rfl⟩))
    (fun os started H enc _ => dom_lifted os started H enc)

theorem splitDominates_holds : Rows.SplitDominatesSaid := dom_over
#print axioms splitDominates_holds
end Go.Proofs.Ytkmgbejhbkbaoaa
