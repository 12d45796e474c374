/- The program's split: blocks of one's own; a function of one's own. -/
import Derived.Test.YtkmgbejhbkbaoaaS1
import Derived.Test.YtkmgbejhbkbaoaaL6
import Derived.Test.YtkmgbejhbkbaoaaC7
namespace Go.Proofs.Ytkmgbejhbkbaoaa
set_option linter.unusedSimpArgs false
set_option linter.unusedVariables false
open Go.RowKit

def smallB (x : JBlock) : Prop := x.phis.length ≤ 1073741824 ∧ x.ins.length ≤ 1073741824 ∧ (∀ p ∈ x.phis, p.ins.length ≤ 1073741824) ∧ (∀ s ∈ x.ins, s.args.length ≤ 1073741824) ∧ x.term.args.length ≤ 1073741824 ∧ x.term.to.length ≤ 1073741824

/-- what the closure has behind its drawn statement -/
def MidW (w wd : World) (x : JBlock) (vp vi : Value) (W : World) : Prop := ∃ va vt Sa St, Blk W w.heap.size 43 #[vp, vi, .int .i64 x.term.kind, va, vt, .int .i32 x.term.imm] ∧ SlR kInt 3 W Sa va x.term.args ∧ SlR kInt 3 W St vt x.term.to ∧
  Ext [w.heap.size] wd W ∧ (∀ k ∈ Sa, wd.heap.size ≤ k) ∧ (∀ k ∈ St, wd.heap.size ≤ k) ∧ (Sa ++ St).Nodup ∧ va.oneCell' = true ∧ vt.oneCell' = true

set_option maxRecDepth 20000 in
set_option maxHeartbeats 1600000 in
theorem ownBlock_calls {w : World} {S : List Nat} {cs : List Value} {x : JBlock} (h : kBlock.rep w S x cs) (hq : smallB x) : Calls Try.prog 55 #[.agg cs.toArray] w (OwnPost kBlock x w) := by
  obtain ⟨vp, vi, va, vt, Sp, Si, Sa, St, rfl, hr⟩ := h
  obtain ⟨Ap, cp, rfl, _⟩ := hr.p.shape
  obtain ⟨Ai, ci, rfl, _⟩ := hr.i.shape
  obtain ⟨Aa, ca, rfl, _⟩ := hr.a.shape
  obtain ⟨At, ct, rfl, _⟩ := hr.t.shape
  have Hr := hr
  obtain ⟨q1, q2, q3, q4, hna, hnt⟩ := hq
  have Q3 := Lib.hid q3
  have Q4 := Lib.hid q4
  clear q3 q4 hr
  obtain ⟨w1, hw1⟩ : ∃ w1, w1 = (w.alloc (.cells #[.slice Ap x.phis.length cp, .slice Ai x.ins.length ci, .int .i64 x.term.kind, .slice Aa x.term.args.length ca, .slice At x.term.to.length ct, .int .i32 x.term.imm] 43)).alloc (.cells #[.slice none 0 0, .slice none 0 0, .int .i64 0, .slice none 0 0, .slice none 0 0, .int .i32 0] 43) := ⟨_, rfl⟩
  have hx1 : Ext [] w w1 := by rw [hw1]; exact ((Ext.refl _ _).alloc _).alloc _
  have b1 : Blk w1 w.heap.size 43 #[.slice Ap x.phis.length cp, .slice Ai x.ins.length ci, .int .i64 x.term.kind, .slice Aa x.term.args.length ca, .slice At x.term.to.length ct, .int .i32 x.term.imm] := by rw [hw1]; exact (Blk.new _ _ _).alloc _
  have b2 : Blk w1 (w.heap.size + 1) 43 #[.slice none 0 0, .slice none 0 0, .int .i64 0, .slice none 0 0, .slice none 0 0, .int .i32 0] := by rw [hw1]; simpa using Blk.new (w.alloc (.cells #[.slice Ap x.phis.length cp, .slice Ai x.ins.length ci, .int .i64 x.term.kind, .slice Aa x.term.args.length ca, .slice At x.term.to.length ct, .int .i32 x.term.imm] 43)) _ _
  have hsz := b2.lt
  have c0 := b1.cell (i := 0) rfl
  go_enter Try.func55, Try.ntmps55
  go_wp2_with fail
  rw [← hw1]
  clear hw1
  refine (copiedPhi_calls (Hr.p.ext0 hx1) q1 Q3.out).mono ?_
  rintro e w2 ⟨v2, S2, rfl, h2, hnew2⟩
  obtain ⟨Ap2, cp2, rfl, _⟩ := h2.shape
  have b1' := b1.ext hnew2.ext (by simp)
  have k0 := b1'.cell (i := 0) rfl
  have f0 := b1'.frozen 0
  have j1 := b1'.cell (i := 1) rfl
  have hb3 := b1'.set 0 (.slice Ap2 x.phis.length cp2)
  have hx3 : Ext [w.heap.size, w.heap.size + 1] w2 (w2.setCell ⟨w.heap.size, 0, none⟩ (.slice Ap2 x.phis.length cp2)) := (Ext.refl _ _).setCell (.inl (by simp)) _
  obtain ⟨w3, hw3⟩ : ∃ w3, w3 = w2.setCell ⟨w.heap.size, 0, none⟩ (.slice Ap2 x.phis.length cp2) := ⟨_, rfl⟩
  rw [← hw3] at hb3 hx3
  have c1 := hb3.cell (i := 1) rfl
  have hlS := Hr.lt
  have hxw : Ext [w.heap.size, w.heap.size + 1] w w3 := (((hx1.nil hnew2.ext).mono (M' := [w.heap.size, w.heap.size + 1]) (by simp)).same hx3)
  have hoff : ∀ k ∈ S, k ∉ [w.heap.size, w.heap.size + 1] := fun k hk => by have := hlS k hk; simp; omega
  have Hr3 := Hr.move (w' := w3) (fun k hk => hxw.block k (hlS k hk) (hoff k hk))
  have Hoff := Lib.hid hoff
  have HlS := Lib.hid hlS
  have hl2 := h2.lt
  have Hl2 := Lib.hid hl2
  clear hoff hlS hl2
  go_wp2_with fail
  rw [← hw3]
  have hsz3 : w2.heap.size = w3.heap.size := by rw [hw3]; simp
  have b23 := (b2.ext hnew2.ext (by simp)).far (p := ⟨w.heap.size, 0, none⟩) (by simp) (.slice Ap2 x.phis.length cp2)
  rw [← hw3] at b23
  have Hsz3 := Lib.hid hsz3
  clear hw3 hsz3
  refine (copiedIns_calls Hr3.i q2 Q4.out).mono ?_
  rintro e w4 ⟨v4, S4, rfl, h4, hnew4⟩
  obtain ⟨Ai2, ci2, rfl, _⟩ := h4.shape
  have b4 := hb3.ext hnew4.ext (by simp)
  have b24 := b23.ext hnew4.ext (by simp)
  have k1 := b4.cell (i := 1) rfl
  have f1 := b4.frozen 1
  have l4 := b4.lt
  have hb5 := b4.set 1 (.slice Ai2 x.ins.length ci2)
  have hx5 : Ext [w.heap.size, w.heap.size + 1] w4 (w4.setCell ⟨w.heap.size, 1, none⟩ (.slice Ai2 x.ins.length ci2)) := (Ext.refl _ _).setCell (.inl (by simp)) _
  have b25 := b24.far (p := ⟨w.heap.size, 1, none⟩) (by simp) (.slice Ai2 x.ins.length ci2)
  have hl4 := h4.lt
  have Hl4 := Lib.hid hl4
  obtain ⟨w5, hw5⟩ : ∃ w5, w5 = w4.setCell ⟨w.heap.size, 1, none⟩ (.slice Ai2 x.ins.length ci2) := ⟨_, rfl⟩
  have hsz5 : w4.heap.size = w5.heap.size := by rw [hw5]; simp
  rw [← hw5] at hb5 hx5 b25
  go_wp2
  rw [← hw5]
  have Hsz5 := Lib.hid hsz5
  clear hw5 hl4 hsz5
  have hx45 : Ext [w.heap.size, w.heap.size + 1] w w5 := (hxw.nil hnew4.ext).same hx5
  have Hr5 := (Hr.move (w' := w5.drew) (fun k hk => hx45.drew.block k (HlS.out k hk) (Hoff.out k hk)))
  have ha := Hr5.a
  have ht := Hr5.t
  have hkd : Blk w5.drew w.heap.size 43 #[.slice Ap2 x.phis.length cp2, .slice Ai2 x.ins.length ci2, .int .i64 x.term.kind, .slice Aa x.term.args.length ca, .slice At x.term.to.length ct, .int .i32 x.term.imm] := hb5.drew
  obtain ⟨wd, hwd⟩ : ∃ wd, wd = w5.drew := ⟨_, rfl⟩
  have hxd : Ext [] w5 wd := by rw [hwd]; exact (Ext.refl _ _).drew
  have hsd : wd.heap.size = w5.heap.size := by rw [hwd]; simp
  rw [← hwd] at ha ht hkd
  have r3 := hkd.cell (i := 3) rfl
  have r4 := hkd.cell (i := 4) rfl
  have HF : Hid (∀ (wA wB : World) (va vt : Value) (Sa2 St2 : List Nat), Ext [] wd wA → (∀ k ∈ Sa2, wd.heap.size ≤ k) → Sa2.Nodup → Ext [] wA wB → (∀ k ∈ St2, wA.heap.size ≤ k) → St2.Nodup → SlR kInt 3 wA Sa2 va x.term.args → SlR kInt 3 wB St2 vt x.term.to →
      MidW w wd x (.slice Ap2 x.phis.length cp2) (.slice Ai2 x.ins.length ci2) ((wB.setCell ⟨w.heap.size, 3, none⟩ va).setCell ⟨w.heap.size, 4, none⟩ vt)) := by
    intro wA wB va vt Sa2 St2 hxA hfA hnA hxB hfB hnB hA hB
    have hlA := hA.lt
    have hlw := hkd.lt
    have hszA := hxA.size
    have hxs : Ext [w.heap.size] wB ((wB.setCell ⟨w.heap.size, 3, none⟩ va).setCell ⟨w.heap.size, 4, none⟩ vt) := ((Ext.refl _ _).setCell (.inl (by simp)) _).setCell (.inl (by simp)) _
    refine ⟨va, vt, Sa2, St2, ?_, (hA.ext0 hxB).ext hxs (fun k hk => by have := hfA k hk; simp; omega), hB.ext hxs (fun k hk => by have := hfB k hk; simp; omega), ((hxA.nil hxB).mono (M' := [w.heap.size]) (by simp)).same hxs, hfA, fun k hk => by have := hfB k hk; omega, ?_, slice_one hA, slice_one hB⟩
    · simpa using (((hkd.ext hxA (by simp)).ext hxB (by simp)).set 3 va).set 4 vt
    · refine List.nodup_append.2 ⟨hnA, hnB, ?_⟩
      rintro a ha' b hb rfl
      have := hlA a ha'; have := hfB a hb; omega
  refine wp_region_rt (fun _ => True) (.q 0 (.q 1 (.q 4 (.q 5 (.b 2 (.b 3 (.e 6 (.q 8 (.q 9 (.e 7 (.e 10 (.q 11 (.q 12 (.e 13 .nil)))))))) 6 (.e 3 (.q 8 (.q 9 (.e 7 (.e 10 (.q 11 (.q 12 (.e 13 .nil))))))))) 6 (.e 2 (.e 3 (.q 8 (.q 9 (.e 7 (.e 10 (.q 11 (.q 12 (.e 13 .nil)))))))))))))) (by kernel_rfl) (by kernel_rfl) trivial ?_
  rw [← hwd]
  clear hwd
  refine rt_put [11, 12, 13, 14, 15, 16, 17, 18, 19, 20, 21, 22] [] (MidW w wd x (.slice Ap2 x.phis.length cp2) (.slice Ai2 x.ins.length ci2)) ?_ ?_
  · refine rt_quiet (.pointer (some ⟨w.heap.size, 2, none⟩)) rfl rfl (fun W' hC => by simp [go_sem]) ?_
    simp only [put_lit, put_none, List.set_cons_succ, List.set_cons_zero]
    refine rt_quiet (.pointer (some ⟨w.heap.size, 3, none⟩)) rfl rfl (fun W' hC => by simp [go_sem]) ?_
    simp only [put_lit, put_none, List.set_cons_succ, List.set_cons_zero]
    refine rt_quiet (.pointer (some ⟨w.heap.size, 2, none⟩)) rfl rfl (fun W' hC => by simp [go_sem]) ?_
    simp only [put_lit, put_none, List.set_cons_succ, List.set_cons_zero]
    refine rt_quiet (.pointer (some ⟨w.heap.size, 4, none⟩)) rfl rfl (fun W' hC => by simp [go_sem]) ?_
    simp only [put_lit, put_none, List.set_cons_succ, List.set_cons_zero]
    refine ⟨?_, ?_⟩
    · refine s_eff (.slice Aa x.term.args.length ca) (w' := wd) rfl rfl (by simp [go_sem, r3]) ⟨trivial, ?_⟩
      simp only [put_lit, put_none, List.set_cons_succ, List.set_cons_zero]
      refine ⟨?_, ?_⟩
      · skip
        refine s_call (w' := wd) rfl rfl (by simp [go_sem]) ((clone_calls ha hna).mono ?_)
        rintro e wA ⟨va, Sa2, rfl, hA, hxA, hfA, hnA⟩
        refine ⟨va, rfl, trivial, ?_⟩
        simp only [put_lit, put_none, List.set_cons_succ, List.set_cons_zero]
        have r3A := hxA.cell r3 (by simp)
        have r4A := hxA.cell r4 (by simp)
        refine s_eff (.slice At x.term.to.length ct) (w' := wA) rfl rfl (by simp [go_sem, r4A]) ⟨trivial, ?_⟩
        simp only [put_lit, put_none, List.set_cons_succ, List.set_cons_zero]
        refine rt_quiet (.pointer (some ⟨w.heap.size, 2, none⟩)) rfl rfl (fun W' hC => by simp [go_sem]) ?_
        simp only [put_lit, put_none, List.set_cons_succ, List.set_cons_zero]
        refine rt_quiet (.pointer (some ⟨w.heap.size, 3, none⟩)) rfl rfl (fun W' hC => by simp [go_sem]) ?_
        simp only [put_lit, put_none, List.set_cons_succ, List.set_cons_zero]
        refine s_call (w' := wA) rfl rfl (by simp [go_sem]) ((clone_calls (ht.ext0 hxA) hnt).mono ?_)
        rintro e wB ⟨vt, St2, rfl, hB, hxB, hfB, hnB⟩
        refine ⟨vt, rfl, trivial, ?_⟩
        simp only [put_lit, put_none, List.set_cons_succ, List.set_cons_zero]
        obtain ⟨Aa2, ca2, rfl, _⟩ := hA.shape
        obtain ⟨At2, ct2, rfl, _⟩ := hB.shape
        have hkB := (hkd.ext hxA (by simp)).ext hxB (by simp)
        have s3 := hkB.cell (i := 3) rfl
        have s4 := hkB.cell (i := 4) rfl
        have z3 := hkB.frozen 3
        have z4 := hkB.frozen 4
        refine s_eff0 (w' := wB.setCell ⟨w.heap.size, 3, none⟩ (.slice Aa2 x.term.args.length ca2)) rfl rfl (by simp [go_sem, s3, z3]) ⟨trivial, ?_⟩
        simp only [put_lit, put_none, List.set_cons_succ, List.set_cons_zero]
        refine rt_quiet (.pointer (some ⟨w.heap.size, 2, none⟩)) rfl rfl (fun W' hC => by simp [go_sem]) ?_
        simp only [put_lit, put_none, List.set_cons_succ, List.set_cons_zero]
        refine rt_quiet (.pointer (some ⟨w.heap.size, 4, none⟩)) rfl rfl (fun W' hC => by simp [go_sem]) ?_
        simp only [put_lit, put_none, List.set_cons_succ, List.set_cons_zero]
        refine s_eff0 (w' := (wB.setCell ⟨w.heap.size, 3, none⟩ (.slice Aa2 x.term.args.length ca2)).setCell ⟨w.heap.size, 4, none⟩ (.slice At2 x.term.to.length ct2)) rfl rfl (by simp [go_sem, s3, s4, z3, z4]) ⟨trivial, ?_⟩
        simp only [put_lit, put_none, List.set_cons_succ, List.set_cons_zero]
        refine rt_nil ?_
        refine ⟨by trivial, [.pointer (some ⟨w.heap.size, 2, none⟩), .pointer (some ⟨w.heap.size, 3, none⟩), .slice Aa x.term.args.length ca, .slice Aa2 x.term.args.length ca2, .pointer (some ⟨w.heap.size, 2, none⟩), .pointer (some ⟨w.heap.size, 4, none⟩), .slice At x.term.to.length ct, .slice At2 x.term.to.length ct2, .pointer (some ⟨w.heap.size, 2, none⟩), .pointer (some ⟨w.heap.size, 3, none⟩), .pointer (some ⟨w.heap.size, 2, none⟩), .pointer (some ⟨w.heap.size, 4, none⟩)], rfl, ?_, HF.out wA wB _ _ _ _ hxA hfA hnA hxB hfB hnB hA hB⟩
        simp only [List.zip_cons_cons, List.zip_nil_left, List.cons_append, List.nil_append, List.append_nil, puts_cons, puts_nil, put_lit, List.set_cons_succ, List.set_cons_zero]
      · skip
        refine s_eff (.slice At x.term.to.length ct) (w' := wd) rfl rfl (by simp [go_sem, r4]) ⟨trivial, ?_⟩
        simp only [put_lit, put_none, List.set_cons_succ, List.set_cons_zero]
        refine s_call (w' := wd) rfl rfl (by simp [go_sem]) ((clone_calls ha hna).mono ?_)
        rintro e wA ⟨va, Sa2, rfl, hA, hxA, hfA, hnA⟩
        refine ⟨va, rfl, trivial, ?_⟩
        simp only [put_lit, put_none, List.set_cons_succ, List.set_cons_zero]
        have r3A := hxA.cell r3 (by simp)
        have r4A := hxA.cell r4 (by simp)
        refine rt_quiet (.pointer (some ⟨w.heap.size, 2, none⟩)) rfl rfl (fun W' hC => by simp [go_sem]) ?_
        simp only [put_lit, put_none, List.set_cons_succ, List.set_cons_zero]
        refine rt_quiet (.pointer (some ⟨w.heap.size, 3, none⟩)) rfl rfl (fun W' hC => by simp [go_sem]) ?_
        simp only [put_lit, put_none, List.set_cons_succ, List.set_cons_zero]
        refine s_call (w' := wA) rfl rfl (by simp [go_sem]) ((clone_calls (ht.ext0 hxA) hnt).mono ?_)
        rintro e wB ⟨vt, St2, rfl, hB, hxB, hfB, hnB⟩
        refine ⟨vt, rfl, trivial, ?_⟩
        simp only [put_lit, put_none, List.set_cons_succ, List.set_cons_zero]
        obtain ⟨Aa2, ca2, rfl, _⟩ := hA.shape
        obtain ⟨At2, ct2, rfl, _⟩ := hB.shape
        have hkB := (hkd.ext hxA (by simp)).ext hxB (by simp)
        have s3 := hkB.cell (i := 3) rfl
        have s4 := hkB.cell (i := 4) rfl
        have z3 := hkB.frozen 3
        have z4 := hkB.frozen 4
        refine s_eff0 (w' := wB.setCell ⟨w.heap.size, 3, none⟩ (.slice Aa2 x.term.args.length ca2)) rfl rfl (by simp [go_sem, s3, z3]) ⟨trivial, ?_⟩
        simp only [put_lit, put_none, List.set_cons_succ, List.set_cons_zero]
        refine rt_quiet (.pointer (some ⟨w.heap.size, 2, none⟩)) rfl rfl (fun W' hC => by simp [go_sem]) ?_
        simp only [put_lit, put_none, List.set_cons_succ, List.set_cons_zero]
        refine rt_quiet (.pointer (some ⟨w.heap.size, 4, none⟩)) rfl rfl (fun W' hC => by simp [go_sem]) ?_
        simp only [put_lit, put_none, List.set_cons_succ, List.set_cons_zero]
        refine s_eff0 (w' := (wB.setCell ⟨w.heap.size, 3, none⟩ (.slice Aa2 x.term.args.length ca2)).setCell ⟨w.heap.size, 4, none⟩ (.slice At2 x.term.to.length ct2)) rfl rfl (by simp [go_sem, s3, s4, z3, z4]) ⟨trivial, ?_⟩
        simp only [put_lit, put_none, List.set_cons_succ, List.set_cons_zero]
        refine rt_nil ?_
        refine ⟨by trivial, [.pointer (some ⟨w.heap.size, 2, none⟩), .pointer (some ⟨w.heap.size, 3, none⟩), .slice Aa x.term.args.length ca, .slice Aa2 x.term.args.length ca2, .pointer (some ⟨w.heap.size, 2, none⟩), .pointer (some ⟨w.heap.size, 4, none⟩), .slice At x.term.to.length ct, .slice At2 x.term.to.length ct2, .pointer (some ⟨w.heap.size, 2, none⟩), .pointer (some ⟨w.heap.size, 3, none⟩), .pointer (some ⟨w.heap.size, 2, none⟩), .pointer (some ⟨w.heap.size, 4, none⟩)], rfl, ?_, HF.out wA wB _ _ _ _ hxA hfA hnA hxB hfB hnB hA hB⟩
        simp only [List.zip_cons_cons, List.zip_nil_left, List.cons_append, List.nil_append, List.append_nil, puts_cons, puts_nil, put_lit, List.set_cons_succ, List.set_cons_zero]
    · refine s_eff (.slice At x.term.to.length ct) (w' := wd) rfl rfl (by simp [go_sem, r4]) ⟨trivial, ?_⟩
      simp only [put_lit, put_none, List.set_cons_succ, List.set_cons_zero]
      refine s_eff (.slice Aa x.term.args.length ca) (w' := wd) rfl rfl (by simp [go_sem, r3]) ⟨trivial, ?_⟩
      simp only [put_lit, put_none, List.set_cons_succ, List.set_cons_zero]
      refine s_call (w' := wd) rfl rfl (by simp [go_sem]) ((clone_calls ha hna).mono ?_)
      rintro e wA ⟨va, Sa2, rfl, hA, hxA, hfA, hnA⟩
      refine ⟨va, rfl, trivial, ?_⟩
      simp only [put_lit, put_none, List.set_cons_succ, List.set_cons_zero]
      have r3A := hxA.cell r3 (by simp)
      have r4A := hxA.cell r4 (by simp)
      refine rt_quiet (.pointer (some ⟨w.heap.size, 2, none⟩)) rfl rfl (fun W' hC => by simp [go_sem]) ?_
      simp only [put_lit, put_none, List.set_cons_succ, List.set_cons_zero]
      refine rt_quiet (.pointer (some ⟨w.heap.size, 3, none⟩)) rfl rfl (fun W' hC => by simp [go_sem]) ?_
      simp only [put_lit, put_none, List.set_cons_succ, List.set_cons_zero]
      refine s_call (w' := wA) rfl rfl (by simp [go_sem]) ((clone_calls (ht.ext0 hxA) hnt).mono ?_)
      rintro e wB ⟨vt, St2, rfl, hB, hxB, hfB, hnB⟩
      refine ⟨vt, rfl, trivial, ?_⟩
      simp only [put_lit, put_none, List.set_cons_succ, List.set_cons_zero]
      obtain ⟨Aa2, ca2, rfl, _⟩ := hA.shape
      obtain ⟨At2, ct2, rfl, _⟩ := hB.shape
      have hkB := (hkd.ext hxA (by simp)).ext hxB (by simp)
      have s3 := hkB.cell (i := 3) rfl
      have s4 := hkB.cell (i := 4) rfl
      have z3 := hkB.frozen 3
      have z4 := hkB.frozen 4
      refine s_eff0 (w' := wB.setCell ⟨w.heap.size, 3, none⟩ (.slice Aa2 x.term.args.length ca2)) rfl rfl (by simp [go_sem, s3, z3]) ⟨trivial, ?_⟩
      simp only [put_lit, put_none, List.set_cons_succ, List.set_cons_zero]
      refine rt_quiet (.pointer (some ⟨w.heap.size, 2, none⟩)) rfl rfl (fun W' hC => by simp [go_sem]) ?_
      simp only [put_lit, put_none, List.set_cons_succ, List.set_cons_zero]
      refine rt_quiet (.pointer (some ⟨w.heap.size, 4, none⟩)) rfl rfl (fun W' hC => by simp [go_sem]) ?_
      simp only [put_lit, put_none, List.set_cons_succ, List.set_cons_zero]
      refine s_eff0 (w' := (wB.setCell ⟨w.heap.size, 3, none⟩ (.slice Aa2 x.term.args.length ca2)).setCell ⟨w.heap.size, 4, none⟩ (.slice At2 x.term.to.length ct2)) rfl rfl (by simp [go_sem, s3, s4, z3, z4]) ⟨trivial, ?_⟩
      simp only [put_lit, put_none, List.set_cons_succ, List.set_cons_zero]
      refine rt_nil ?_
      refine ⟨by trivial, [.pointer (some ⟨w.heap.size, 2, none⟩), .pointer (some ⟨w.heap.size, 3, none⟩), .slice Aa x.term.args.length ca, .slice Aa2 x.term.args.length ca2, .pointer (some ⟨w.heap.size, 2, none⟩), .pointer (some ⟨w.heap.size, 4, none⟩), .slice At x.term.to.length ct, .slice At2 x.term.to.length ct2, .pointer (some ⟨w.heap.size, 2, none⟩), .pointer (some ⟨w.heap.size, 3, none⟩), .pointer (some ⟨w.heap.size, 2, none⟩), .pointer (some ⟨w.heap.size, 4, none⟩)], rfl, ?_, HF.out wA wB _ _ _ _ hxA hfA hnA hxB hfB hnB hA hB⟩
      simp only [List.zip_cons_cons, List.zip_nil_left, List.cons_append, List.nil_append, List.append_nil, puts_cons, puts_nil, put_lit, List.set_cons_succ, List.set_cons_zero]
  · rintro vs W' hvl ⟨va2, vt2, Sa2, St2, hkB, hA, hB, hxB, hfA, hfB, hnAB, o1, o2⟩
    rcases vs with _ | ⟨z1, _ | ⟨z2, _ | ⟨z3, _ | ⟨z4, _ | ⟨z5, _ | ⟨z6, _ | ⟨z7, _ | ⟨z8, _ | ⟨z9, _ | ⟨z10, _ | ⟨z11, _ | ⟨z12, _ | ⟨z13, vs⟩⟩⟩⟩⟩⟩⟩⟩⟩⟩⟩⟩⟩ <;> first | (exfalso; simp at hvl; done) | skip
    simp only [List.zip_cons_cons, List.zip_nil_left, List.cons_append, List.nil_append, List.append_nil, puts_cons, puts_nil, put_lit, List.set_cons_succ, List.set_cons_zero]
    clear hvl HF
    obtain ⟨Aa2, ca2, rfl, _⟩ := hA.shape
    obtain ⟨At2, ct2, rfl, _⟩ := hB.shape
    have b2f := (b25.ext hxd (by simp)).ext hxB (by simp)
    have m0 := hkB.cell (i := 0) rfl
    have m1 := hkB.cell (i := 1) rfl
    have m2 := hkB.cell (i := 2) rfl
    have m3 := hkB.cell (i := 3) rfl
    have m4 := hkB.cell (i := 4) rfl
    have m5 := hkB.cell (i := 5) rfl
    have n0 := b2f.cell (i := 0) rfl
    have n1 := b2f.cell (i := 1) rfl
    have n2 := b2f.cell (i := 2) rfl
    have n3 := b2f.cell (i := 3) rfl
    have n4 := b2f.cell (i := 4) rfl
    have n5 := b2f.cell (i := 5) rfl
    have g0 := b2f.frozen 0
    have g1 := b2f.frozen 1
    have g2 := b2f.frozen 2
    have g3 := b2f.frozen 3
    have g4 := b2f.frozen 4
    have g5 := b2f.frozen 5
    have hX : Ext [] w W' := ((hx45.nil hxd).trans hxB (fun k hk => .inl (by simp at hk; simp [hk]))).mono (fun k hk => .inr (by simp at hk; omega))
    go_wp2
    refine bodyPost_ret (v := .agg #[.slice Ap2 x.phis.length cp2, .slice Ai2 x.ins.length ci2, .int .i64 x.term.kind, .slice Aa2 x.term.args.length ca2, .slice At2 x.term.to.length ct2, .int .i32 x.term.imm]) (by simp [results, Try.results55, go_sem, n0, n1, n2, n3, n4, n5]) rfl ?_
    have e2 := hnew2.fresh
    have e2' := Hl2.out
    have e4 := hnew4.fresh
    have e4' := Hl4.out
    have s1 := hnew2.ext.size
    have s2 := Hsz3.out
    have s3 := hnew4.ext.size
    have s4 := Hsz5.out
    have hl := b2f.lt
    obtain ⟨Wf, hWf⟩ : ∃ Wf, Wf = (((((W'.setCell ⟨w.heap.size + 1, 0, none⟩ (.slice Ap2 x.phis.length cp2)).setCell ⟨w.heap.size + 1, 1, none⟩ (.slice Ai2 x.ins.length ci2)).setCell ⟨w.heap.size + 1, 2, none⟩ (.int .i64 x.term.kind)).setCell ⟨w.heap.size + 1, 3, none⟩ (.slice Aa2 x.term.args.length ca2)).setCell ⟨w.heap.size + 1, 4, none⟩ (.slice At2 x.term.to.length ct2)).setCell ⟨w.heap.size + 1, 5, none⟩ (.int .i32 x.term.imm) := ⟨_, rfl⟩
    have hxf : Ext [w.heap.size, w.heap.size + 1] W' Wf := by
      rw [hWf]
      repeat (refine Ext.setCell ?_ (.inl (by simp)) _)
      exact Ext.refl _ _
    rw [← hWf]
    clear hWf
    have hxB' : Ext [w.heap.size, w.heap.size + 1] wd W' := hxB.mono (by simp)
    have d2 : ∀ k ∈ S2, k ∉ [w.heap.size, w.heap.size + 1] := fun k hk => by have := e2 k hk; simp; omega
    have d4 : ∀ k ∈ S4, k ∉ [w.heap.size, w.heap.size + 1] := fun k hk => by have := e4 k hk; simp; omega
    have dA : ∀ k ∈ Sa2, k ∉ [w.heap.size, w.heap.size + 1] := fun k hk => by have := hfA k hk; simp; omega
    have dB : ∀ k ∈ St2, k ∉ [w.heap.size, w.heap.size + 1] := fun k hk => by have := hfB k hk; simp; omega
    refine ⟨[.slice Ap2 x.phis.length cp2, .slice Ai2 x.ins.length ci2, .int .i64 x.term.kind, .slice Aa2 x.term.args.length ca2, .slice At2 x.term.to.length ct2, .int .i32 x.term.imm], S2 ++ (S4 ++ (Sa2 ++ St2)), rfl,
      ⟨_, _, _, _, S2, S4, Sa2, St2, rfl, ⟨?_, ?_, hA.ext hxf dA, hB.ext hxf dB, rfl⟩⟩, ⟨hX.trans hxf (fun k hk => .inr (by simp at hk; omega)), fun k hk => ?_, ?_⟩⟩
    · exact (((((h2.ext hx3 d2).ext0 hnew4.ext).ext hx5 d2).ext0 hxd).ext hxB' d2).ext hxf d2
    · exact (((h4.ext hx5 d4).ext0 hxd).ext hxB' d4).ext hxf d4
    · simp only [List.mem_append] at hk
      rcases hk with hk | hk | hk | hk
      · have := e2 k hk; omega
      · have := e4 k hk; omega
      · have := hfA k hk; omega
      · have := hfB k hk; omega
    · refine List.nodup_append.2 ⟨hnew2.nodup, List.nodup_append.2 ⟨hnew4.nodup, hnAB, ?_⟩, ?_⟩
      · rintro a ha' b hb rfl
        have := e4' a ha'
        rcases List.mem_append.1 hb with hb | hb
        · have := hfA a hb; omega
        · have := hfB a hb; omega
      · rintro a ha' b hb rfl
        have := e2' a ha'
        rcases List.mem_append.1 hb with hb | hb
        · have := e4 a hb; omega
        · rcases List.mem_append.1 hb with hb | hb
          · have := hfA a hb; omega
          · have := hfB a hb; omega
end Go.Proofs.Ytkmgbejhbkbaoaa
