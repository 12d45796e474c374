/- The program's check, whole. -/
import Derived.Test.YtkmgbejhbkbaoaaC7
import Derived.Test.YtkmgbejhbkbaoaaR1
import Derived.Defers
import Derived.Recover
namespace Go.Proofs.Ytkmgbejhbkbaoaa
set_option linter.unusedSimpArgs false
set_option linter.unusedVariables false
open Go.RowKit

set_option maxRecDepth 20000 in
set_option maxHeartbeats 1600000 in
theorem catch_calls {w : World} {p0 p1 p2 : Nat} {x0 x1 x2 : Value} (h0 : Blk w p0 29 #[x0]) (h1 : Blk w p1 3 #[x1]) (h2 : Blk w p2 3 #[x2]) (h01 : p0 ≠ p1) (h02 : p0 ≠ p2) (h12 : p1 ≠ p2) (t : Tro) (older : List PanicEntry) :
    CallsD Try.prog 47 #[.pointer (some ⟨p0, 0, none⟩), .pointer (some ⟨p1, 0, none⟩), .pointer (some ⟨p2, 0, none⟩)] (.panicking ({ v := .iface 96 (.agg #[.int .i64 t.1, .int .i64 t.2.1, .int .i64 t.2.2]), recovered := false } :: older)) w fun e u' w' =>
      e = .returned (.tuple #[]) ∧ u' = .panicking ({ v := .iface 96 (.agg #[.int .i64 t.1, .int .i64 t.2.1, .int .i64 t.2.2]), recovered := true } :: older) ∧
      Blk w' p0 29 #[.int .i64 t.1] ∧ Blk w' p1 3 #[.int .i64 t.2.1] ∧ Blk w' p2 3 #[.int .i64 t.2.2] ∧ Ext [p0, p1, p2] w w' := by
  refine callsD_of_wpS Try.func47 rfl fun c₀ cs hu => ?_
  apply wpS_seq
  apply wpS_region
  simp [wpOpsS, go_sem, recoverD, hu, Try.ntmps47, Exit.thenS]
  have hta : ∀ (v : Value) (w : World), (Instr.typeAssert (.iface 96 v) 20 96 true).run Try.prog w = .ok (.tuple #[v, .bool true]) w := fun v w => by kernel_rfl
  have hu' := Lib.hid hu
  clear hu
  refine wpS_of_wp ?_
  generalize hX : Value.iface 96 (.agg #[.int .i64 t.1, .int .i64 t.2.1, .int .i64 t.2.2]) = X
  change Code.wp _ _ _ ⟨#[.pointer (some ⟨p0, 0, none⟩), .pointer (some ⟨p1, 0, none⟩), .pointer (some ⟨p2, 0, none⟩), undef, undef, undef, X, undef, undef, undef, undef, undef, undef, undef, undef, undef, undef, undef], []⟩ _
  subst hX
  obtain ⟨w1, hw1⟩ : ∃ w1, w1 = w.alloc (.cells #[.int .i64 t.1, .int .i64 t.2.1, .int .i64 t.2.2] 96) := ⟨_, rfl⟩
  have hx1 : Ext [] w w1 := by rw [hw1]; exact (Ext.refl _ _).alloc _
  have hb1 : Blk w1 w.heap.size 96 #[.int .i64 t.1, .int .i64 t.2.1, .int .i64 t.2.2] := by rw [hw1]; exact Blk.new _ _ _
  have l0 := h0.lt
  have l1 := h1.lt
  have l2 := h2.lt
  go_wp2
  rw [← hw1]
  clear hw1
  have g0 := (h0.ext hx1 (by simp)).drew
  have g1 := (h1.ext hx1 (by simp)).drew
  have g2 := (h2.ext hx1 (by simp)).drew
  have hd1 := hb1.drew
  have k0 := g0.set 0 (.int .i64 t.1)
  have k1 := (g1.far (p := ⟨p0, 0, none⟩) (fun e => h01 e.symm) (.int .i64 t.1))
  have k2 := (g2.far (p := ⟨p0, 0, none⟩) (fun e => h02 e.symm) (.int .i64 t.1))
  have kd := (hd1.far (p := ⟨p0, 0, none⟩) (by simp; omega) (.int .i64 t.1))
  have m0 := k0.far (p := ⟨p1, 0, none⟩) h01 (.int .i64 t.2.1)
  have m1 := k1.set 0 (.int .i64 t.2.1)
  have m2 := k2.far (p := ⟨p1, 0, none⟩) (fun e => h12 e.symm) (.int .i64 t.2.1)
  have md := kd.far (p := ⟨p1, 0, none⟩) (by simp; omega) (.int .i64 t.2.1)
  have n0 := m0.far (p := ⟨p2, 0, none⟩) h02 (.int .i64 t.2.2)
  have n1 := m1.far (p := ⟨p2, 0, none⟩) h12 (.int .i64 t.2.2)
  have n2 := m2.set 0 (.int .i64 t.2.2)
  have nd := md.far (p := ⟨p2, 0, none⟩) (by simp; omega) (.int .i64 t.2.2)
  refine wp_region_rt (fun W => Blk W w.heap.size 96 #[.int .i64 t.1, .int .i64 t.2.1, .int .i64 t.2.2]) (.q 0 (.q 1 (.q 2 (.q 3 (.q 4 (.q 5 (.e 6 (.e 7 (.e 8 .nil))))))))) (by kernel_rfl) (by kernel_rfl) hd1 ?_
  refine rt_quiet (.pointer (some ⟨w.heap.size, 0, none⟩)) rfl rfl (fun W' hC => by simp [go_sem]) ?_
  simp only [put_lit, put_none, List.set_cons_succ, List.set_cons_zero]
  refine rt_quiet (.int .i64 t.1) rfl rfl (fun W' hC => by simp [go_sem, hC.cell (i := 0) rfl]) ?_
  simp only [put_lit, put_none, List.set_cons_succ, List.set_cons_zero]
  refine rt_quiet (.pointer (some ⟨w.heap.size, 1, none⟩)) rfl rfl (fun W' hC => by simp [go_sem]) ?_
  simp only [put_lit, put_none, List.set_cons_succ, List.set_cons_zero]
  refine rt_quiet (.int .i64 t.2.1) rfl rfl (fun W' hC => by simp [go_sem, hC.cell (i := 1) rfl]) ?_
  simp only [put_lit, put_none, List.set_cons_succ, List.set_cons_zero]
  refine rt_quiet (.pointer (some ⟨w.heap.size, 2, none⟩)) rfl rfl (fun W' hC => by simp [go_sem]) ?_
  simp only [put_lit, put_none, List.set_cons_succ, List.set_cons_zero]
  refine rt_quiet (.int .i64 t.2.2) rfl rfl (fun W' hC => by simp [go_sem, hC.cell (i := 2) rfl]) ?_
  simp only [put_lit, put_none, List.set_cons_succ, List.set_cons_zero]
  refine s_eff0 (w' := w1.drew.setCell ⟨p0, 0, none⟩ (.int .i64 t.1)) rfl rfl (by simp [go_sem, g0.cell (i := 0) rfl, g0.frozen 0]) ⟨kd, ?_⟩
  simp only [put_lit, put_none, List.set_cons_succ, List.set_cons_zero]
  refine s_eff0 (w' := (w1.drew.setCell ⟨p0, 0, none⟩ (.int .i64 t.1)).setCell ⟨p1, 0, none⟩ (.int .i64 t.2.1)) rfl rfl (by simp [go_sem, (h1.ext hx1 (by simp)).cell (i := 0) rfl, (h1.ext hx1 (by simp)).frozen 0]) ⟨md, ?_⟩
  simp only [put_lit, put_none, List.set_cons_succ, List.set_cons_zero]
  refine s_eff0 (w' := ((w1.drew.setCell ⟨p0, 0, none⟩ (.int .i64 t.1)).setCell ⟨p1, 0, none⟩ (.int .i64 t.2.1)).setCell ⟨p2, 0, none⟩ (.int .i64 t.2.2)) rfl rfl (by simp [go_sem, (h2.ext hx1 (by simp)).cell (i := 0) rfl, (h2.ext hx1 (by simp)).frozen 0]) ⟨nd, ?_⟩
  simp only [put_lit, put_none, List.set_cons_succ, List.set_cons_zero]
  refine rt_nil ?_
  have hxx : Ext [p0, p1, p2] w (((w1.drew.setCell ⟨p0, 0, none⟩ (.int .i64 t.1)).setCell ⟨p1, 0, none⟩ (.int .i64 t.2.1)).setCell ⟨p2, 0, none⟩ (.int .i64 t.2.2)) :=
    (((hx1.mono (M' := [p0, p1, p2]) (by simp)).drew.setCell (.inl (by simp)) _).setCell (.inl (by simp)) _).setCell (.inl (by simp)) _
  cases c₀
  have hm := hu'.out
  simp only at hm
  subst hm
  simp only [Exit.inBlock, bodyPostS]
  exact ⟨rfl, _, rfl, _, results_none rfl _ _ _, rfl, rfl, n0, n1, n2, hxx⟩
set_option maxRecDepth 20000 in
theorem idle_calls (w : World) (p0 p1 p2 : Nat) :
    CallsD Try.prog 47 #[.pointer (some ⟨p0, 0, none⟩), .pointer (some ⟨p1, 0, none⟩), .pointer (some ⟨p2, 0, none⟩)] .returning w fun e u' w' => e = .returned (.tuple #[]) ∧ u' = .returning ∧ w' = w := by
  refine callsD_of_wpS Try.func47 rfl fun c₀ cs hu => ?_
  apply wpS_seq
  apply wpS_region
  simp [wpOpsS, go_sem, recoverD, hu, Try.ntmps47, Exit.thenS]
  have hu' := Lib.hid hu
  clear hu
  refine wpS_of_wp ?_
  change Code.wp _ _ _ ⟨#[.pointer (some ⟨p0, 0, none⟩), .pointer (some ⟨p1, 0, none⟩), .pointer (some ⟨p2, 0, none⟩), undef, undef, undef, .nilIface, undef, undef, undef, undef, undef, undef, undef, undef, undef, undef, undef], []⟩ _
  go_wp2
  cases c₀
  have hm := hu'.out
  simp only at hm
  subst hm
  simp only [Exit.inBlock, bodyPostS]
  refine ⟨by trivial, _, rfl, _, results_none rfl _ _ _, ?_⟩
  simp
end Go.Proofs.Ytkmgbejhbkbaoaa
