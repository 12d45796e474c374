/- The program's split: a function of one's own. -/
import Derived.Test.YtkmgbejhbkbaoaaS2
namespace Go.Proofs.Ytkmgbejhbkbaoaa
set_option linter.unusedSimpArgs false
set_option linter.unusedVariables false
open Go.RowKit

set_option maxRecDepth 20000 in
set_option maxHeartbeats 800000 in
theorem copiedBlock_calls {w : World} {S : List Nat} {v : Value} {xs : List JBlock} (h : SlR kBlock 43 w S v xs) (hn : xs.length ≤ 1073741824) (hq : ∀ x ∈ xs, smallB x) :
    Calls Try.prog 54 #[v, .func (.func 55) #[] #[]] w fun e w' => ∃ v' S', e = .returned v' ∧ SlR kBlock 43 w' S' v' xs ∧ New w w' S' := by
  obtain ⟨A, cap, rfl, hcap⟩ := h.shape
  have Hq := Lib.hid hq
  clear hq
  go_enter Try.func54, Try.ntmps54
  go_wp2
  go_loopg [5, 10] xs.length (fun k vo vi wr => ∃ (i : Nat) (So : List Nat), vi = .int .i64 (i : Int) ∧ i ≤ xs.length ∧ Hid (i + k = xs.length) ∧ SlR kBlock 43 wr So vo (xs.take i) ∧ New w wr So)
  case atStart => exact ⟨0, [], rfl, by omega, by simp [Hid], by simpa using SlR.nil _ _ _, New.refl _⟩
  case round =>
    obtain ⟨i, So, rfl, hi, HK, hso, hnew⟩ := hrel
    have hfl : (xs.take i).length ≤ 1073741824 := by rw [List.length_take]; omega
    by_cases hlt : i < xs.length
    · obtain ⟨g, cc, Ap, cp, Ai, ci, Aa, ca, At, ct, Sb, Sp, Si, Sa, St, hv, hg, _, hr, e0, e1, e2, e3, e4, e5⟩ := FnR.block (h.ext0 hnew.ext) i hlt
      cases hv
      have hsn : Hid (xs.take (i + 1) = xs.take i ++ [xs[i]]) := by rw [Hid, List.take_succ_eq_append_getElem hlt]
      have Hqx := Lib.hid (Hq.out xs[i] (List.getElem_mem hlt))
      generalize xs[i] = x at *
      obtain ⟨w1, hw1⟩ : ∃ w1, w1 = wr.alloc (.cells #[.slice Ap x.phis.length cp, .slice Ai x.ins.length ci, .int .i64 x.term.kind, .slice Aa x.term.args.length ca, .slice At x.term.to.length ct, .int .i32 x.term.imm] 43) := ⟨_, rfl⟩
      have hx1 : Ext [] wr w1 := by rw [hw1]; exact (Ext.refl _ _).alloc _
      have b1 : Blk w1 wr.heap.size 43 #[.slice Ap x.phis.length cp, .slice Ai x.ins.length ci, .int .i64 x.term.kind, .slice Aa x.term.args.length ca, .slice At x.term.to.length ct, .int .i32 x.term.imm] := by rw [hw1]; exact Blk.new _ _ _
      have hr1 : BlkCells w1 Sb x (.slice Ap x.phis.length cp) (.slice Ai x.ins.length ci) (.slice Aa x.term.args.length ca) (.slice At x.term.to.length ct) Sp Si Sa St := hr.move fun k hk => hx1.block k (hr.lt k hk) (by simp)
      have Hr1 := hr1
      clear hr1 hr
      go_wp2_with fail
      rw [← hw1]
      clear hw1
      refine (ownBlock_calls (x := x) (cs := [.slice Ap x.phis.length cp, .slice Ai x.ins.length ci, .int .i64 x.term.kind, .slice Aa x.term.args.length ca, .slice At x.term.to.length ct, .int .i32 x.term.imm]) ⟨_, _, _, _, _, _, _, _, rfl, Hr1⟩ Hqx.out).mono ?_
      rintro e w2 ⟨cs', S1, rfl, ⟨vp, vi, va, vt, Sp1, Si1, Sa1, St1, rfl, hr2⟩, hnew1⟩
      obtain ⟨Ap2, cp2, rfl, _⟩ := hr2.p.shape
      obtain ⟨Ai2, ci2, rfl, _⟩ := hr2.i.shape
      obtain ⟨Aa2, ca2, rfl, _⟩ := hr2.a.shape
      obtain ⟨At2, ct2, rfl, _⟩ := hr2.t.shape
      have hso2 := (hso.ext0 hx1).ext0 hnew1.ext
      have hnew1' : New wr w2 S1 := ⟨hx1.nil hnew1.ext, fun k hk => Nat.le_trans hx1.size (hnew1.fresh k hk), hnew1.nodup⟩
      have hlt1 : ∀ k ∈ So, k < wr.heap.size := hso.lt
      have hdis : ∀ k ∈ [S1].flatten, k ∉ So := fun k hk hk2 => by have := hlt1 k hk2; have := hnew1'.fresh k (by simpa using hk); omega
      have hxa : Ext [] w2 (w2.alloc (.cells #[.slice Ap2 x.phis.length cp2, .slice Ai2 x.ins.length ci2, .int .i64 x.term.kind, .slice Aa2 x.term.args.length ca2, .slice At2 x.term.to.length ct2, .int .i32 x.term.imm] 43)) := (Ext.refl _ _).alloc _
      have hrp2 : kBlock.rep (w2.alloc (.cells #[.slice Ap2 x.phis.length cp2, .slice Ai2 x.ins.length ci2, .int .i64 x.term.kind, .slice Aa2 x.term.args.length ca2, .slice At2 x.term.to.length ct2, .int .i32 x.term.imm] 43)) S1 x [.slice Ap2 x.phis.length cp2, .slice Ai2 x.ins.length ci2, .int .i64 x.term.kind, .slice Aa2 x.term.args.length ca2, .slice At2 x.term.to.length ct2, .int .i32 x.term.imm] :=
        ⟨_, _, _, _, _, _, _, _, rfl, hr2.move fun k hk => hxa.block k (hr2.lt k hk) (by simp)⟩
      have hone := Kd.one kBlock hrp2
      clear e0 e1 e2 e3 e4 e5 hr2
      go_wp2_with (at_builtin; refine wpList_append_sl (d := kBlock) (ys := [x]) rfl (.tmp 14) (.tmp 18) 24 rfl ei_block rfl (hso2.ext0 hxa) rfl [.slice Ap2 x.phis.length cp2, .slice Ai2 x.ins.length ci2, .int .i64 x.term.kind, .slice Aa2 x.term.args.length ca2, .slice At2 x.term.to.length ct2, .int .i32 x.term.imm] [S1] (elems_single hrp2) rfl hone (Src.blk 1) hdis (le_maxLen hfl) (le_bytesB hfl (by decide)) ?_; intro v' w' S' hs' hx' hf' hn')
      go_roundg (gk - 1)
      case measure => have := HK.out; omega
      case rel => exact ⟨i + 1, S', by go_num, by omega, by have := HK.out; simp only [Hid]; omega, by rw [hsn.out]; exact hs', hnew.append1 hnew1' hxa hx' (fun k hk => by simpa using hf' k hk) (fun a b => hn' a (by simpa using b))⟩
    · have hie : i = xs.length := by omega
      subst hie
      rw [List.take_length] at hso
      go_wp2
      go_ret
      exact ⟨_, So, rfl, hso, hnew⟩

set_option maxRecDepth 20000 in
theorem own_calls {w : World} {S : List Nat} {v : Value} {f : JFunc} (h : FnR w S v f) (hn : f.blocks.length ≤ 1073741824) (hq : ∀ x ∈ f.blocks, smallB x) :
    Calls Try.prog 32 #[v] w fun e w' => ∃ v' S', e = .returned v' ∧ FnR w' S' v' f ∧ New w w' S' := by
  obtain ⟨vb, rfl, hb⟩ := h
  obtain ⟨A, c, rfl, hcap⟩ := hb.shape
  obtain ⟨params, bs⟩ := f
  simp only at *
  have Hq := Lib.hid hq
  clear hq
  obtain ⟨w1, hw1⟩ : ∃ w1, w1 = (w.alloc (.cells #[.int .i64 params, .slice A bs.length c] 26)).alloc (.cells #[.int .i64 0, .slice none 0 0] 26) := ⟨_, rfl⟩
  have hx1 : Ext [] w w1 := by rw [hw1]; exact ((Ext.refl _ _).alloc _).alloc _
  have b1 : Blk w1 w.heap.size 26 #[.int .i64 params, .slice A bs.length c] := by rw [hw1]; exact (Blk.new _ _ _).alloc _
  have b2 : Blk w1 (w.heap.size + 1) 26 #[.int .i64 0, .slice none 0 0] := by rw [hw1]; simpa using Blk.new (w.alloc (.cells #[.int .i64 params, .slice A bs.length c] 26)) _ _
  have hsz := b2.lt
  have c1 := b1.cell (i := 1) rfl
  go_enter Try.func32, Try.ntmps32
  go_wp2_with fail
  rw [← hw1]
  clear hw1
  refine (copiedBlock_calls (hb.ext0 hx1) hn Hq.out).mono ?_
  rintro e w2 ⟨v2, S2, rfl, h2, ⟨hx2, hf2, hn2⟩⟩
  obtain ⟨A2, c2, rfl, _⟩ := h2.shape
  have b1' := b1.ext hx2 (by simp)
  have b2' := b2.ext hx2 (by simp)
  have k0 := b1'.cell (i := 0) rfl
  have k1 := b1'.cell (i := 1) rfl
  have f1 := b1'.frozen 1
  have m0 := b2'.cell (i := 0) rfl
  have m1 := b2'.cell (i := 1) rfl
  have g0 := b2'.frozen 0
  have g1 := b2'.frozen 1
  go_wp2
  refine bodyPost_ret (v := .agg #[.int .i64 params, .slice A2 bs.length c2]) (by simp [results, Try.results32, go_sem, m0, m1]) rfl ?_
  refine ⟨_, S2, rfl, ⟨_, rfl, h2.ext (M := [w.heap.size, w.heap.size + 1]) ?_ (fun k hk => by have := hf2 k hk; simp; omega)⟩, ⟨(hx1.nil hx2).trans (M' := [w.heap.size, w.heap.size + 1]) ?_ (fun k hk => .inr (by simp at hk; omega)), fun k hk => by have := hf2 k hk; omega, hn2⟩⟩
  all_goals
    repeat (refine Ext.setCell ?_ (.inl (by simp)) _)
    exact Ext.refl _ _
end Go.Proofs.Ytkmgbejhbkbaoaa
