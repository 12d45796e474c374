/- The program's check: its small functions. -/
import Derived.Test.YtkmgbejhbkbaoaaL5
import Derived.Test.YtkmgbejhbkbaoaaG10
namespace Go.Proofs.Ytkmgbejhbkbaoaa
set_option linter.unusedSimpArgs false
set_option linter.unusedVariables false
open Go.RowKit

abbrev Tro := Int × Int × Int
/-- what is asked, in order: is it so; if not, what is told -/
abbrev Ck := Bool × Tro
def runC : List Ck → Option Tro
  | [] => none
  | (true, _) :: l => runC l
  | (false, t) :: _ => some t
theorem runC_append (a b : List Ck) : runC (a ++ b) = match runC a with | none => runC b | some t => some t := by
  induction a with
  | nil => rfl
  | cons x a ih =>
    obtain ⟨x, t⟩ := x
    cases x with
    | true => simpa [runC] using ih
    | false => rfl
theorem runC_true {l : List Ck} {t : Tro} : runC ((true, t) :: l) = runC l := rfl
theorem runC_false {l : List Ck} {t : Tro} : runC ((false, t) :: l) = some t := rfl
/-- how a call ends -/
def endC : Option Tro → Ending
  | none => .returned (.tuple #[])
  | some t => .panicked [{ v := .iface 96 (.agg #[.int .i64 t.1, .int .i64 t.2.1, .int .i64 t.2.2]), recovered := false }]

set_option maxRecDepth 20000 in
theorem must_calls (w : World) (ok : Bool) (t : Tro) : Calls Try.prog 48 #[.bool ok, .int .i64 t.1, .int .i64 t.2.1, .int .i64 t.2.2] w fun e w' => e = endC (runC [(ok, t)]) ∧ w' = w := by
  cases ok with
  | true =>
    go_enter Try.func48, Try.ntmps48
    go_wp2
    go_end0
    exact ⟨rfl, rfl⟩
  | false =>
    go_enter Try.func48, Try.ntmps48
    go_wp2
    exact ⟨rfl, rfl, rfl⟩
set_option maxRecDepth 20000 in
theorem within_calls (w : World) (n a b : Int) : Calls Try.prog 49 #[.int .i64 n, .int .i64 a, .int .i64 b] w fun e w' => e = .returned (.bool (decide (a ≤ n ∧ n ≤ b))) ∧ w' = w := by
  by_cases h : a ≤ n
  · go_enter Try.func49, Try.ntmps49
    go_wp2
    go_ret
    exact ⟨by simp [h], rfl⟩
  · have hd : decide (a ≤ n) = false := by simpa using h
    go_enter Try.func49, Try.ntmps49
    go_wp2
    go_ret
    exact ⟨by simp [h], rfl⟩
def opersF (op : Int) : Int × Int := if op = 1 then (0, 0) else if op = 15 then (1, 1) else if op = 17 then (0, 4) else (2, 2)
set_option maxRecDepth 20000 in
theorem operands_calls (w : World) (op : Int) : Calls Try.prog 70 #[.int .i64 op] w fun e w' => e = .returned (.tuple #[.int .i64 (opersF op).1, .int .i64 (opersF op).2]) ∧ w' = w := by
  by_cases h1 : op = 1
  · subst h1
    go_enter Try.func70, Try.ntmps70
    go_wp2
    go_ret2
    exact ⟨rfl, rfl⟩
  · have e1 : (op == 1) = false := by simpa using h1
    by_cases h2 : op = 15
    · subst h2
      go_enter Try.func70, Try.ntmps70
      go_wp2
      go_ret2
      exact ⟨rfl, rfl⟩
    · have e2 : (op == 15) = false := by simpa using h2
      by_cases h3 : op = 17
      · subst h3
        go_enter Try.func70, Try.ntmps70
        go_wp2
        go_ret2
        exact ⟨rfl, rfl⟩
      · have e3 : (op == 17) = false := by simpa using h3
        have hf : Hid (opersF op = (2, 2)) := by simp [Hid, opersF, h1, h2, h3]
        clear h1 h2 h3
        go_enter Try.func70, Try.ntmps70
        go_wp2
        go_ret2
        exact ⟨by rw [hf.out]; rfl, rfl⟩
def makesF (x : JIns) : List Int := if x.op = 16 then [] else if x.op = 18 then [x.dst, x.two] else [x.dst]
theorem made_lit {w : World} {x : List Int} (hne : x ≠ []) (hl : x.length ≤ 1073741824) : SlR kInt 3 (w.alloc (.cells (x.map (Value.int .i64)).toArray 3)) [w.heap.size] (.slice (some ⟨w.heap.size, 0, none⟩) x.length x.length) x := by
  refine slr_sc.2 (.inr ⟨_, _, _, rfl, ?_, Nat.le_refl _, ?_, Blk.new _ _ _, by simp, rfl, ?_⟩)
  · exact List.length_pos_iff.2 hne
  · simp only [maxLen]; omega
  · rw [List.take_of_length_le (by simp)]
set_option maxRecDepth 20000 in
theorem makes_calls {w : World} {S : List Nat} {cs : List Value} {x : JIns} (h : kIns.rep w S x cs) : Calls Try.prog 71 #[.agg cs.toArray] w fun e w' => ∃ v' S', e = .returned v' ∧ SlR kInt 3 w' S' v' (makesF x) ∧ New w w' S' := by
  obtain ⟨v, rfl, h⟩ := h
  by_cases h1 : x.op = 16
  · have e1 : (x.op == 16) = true := by simpa using h1
    have hf : Hid (makesF x = []) := by simp [Hid, makesF, h1]
    clear h1
    go_enter Try.func71, Try.ntmps71
    go_wp2
    go_ret
    exact ⟨_, [], rfl, by rw [hf.out]; exact SlR.nil _ _ _, ⟨(Ext.refl _ _).alloc _, by simp, by simp⟩⟩
  · have e1 : (x.op == 16) = false := by simpa using h1
    by_cases h2 : x.op = 18
    · have e2 : (x.op == 18) = true := by simpa using h2
      have hf : Hid (makesF x = [x.dst, x.two]) := by simp [Hid, makesF, h2]
      clear h1 h2
      go_enter Try.func71, Try.ntmps71
      go_wp2
      go_ret
      refine ⟨_, [w.heap.size + 1], rfl, ?_, ⟨((Ext.refl _ _).alloc _).alloc _, by simp, by simp⟩⟩
      rw [hf.out]
      have := made_lit (w := w.alloc (.cells #[.int .i64 x.op, .int .i64 x.dst, .int .i64 x.two, v, .int .i32 x.imm] 54)) (x := [x.dst, x.two]) (by simp) (by simp)
      simpa using this
    · have e2 : (x.op == 18) = false := by simpa using h2
      have hf : Hid (makesF x = [x.dst]) := by simp [Hid, makesF, h1, h2]
      clear h1 h2
      go_enter Try.func71, Try.ntmps71
      go_wp2
      go_ret
      refine ⟨_, [w.heap.size + 1], rfl, ?_, ⟨((Ext.refl _ _).alloc _).alloc _, by simp, by simp⟩⟩
      rw [hf.out]
      have := made_lit (w := w.alloc (.cells #[.int .i64 x.op, .int .i64 x.dst, .int .i64 x.two, v, .int .i32 x.imm] 54)) (x := [x.dst]) (by simp) (by simp)
      simpa using this
end Go.Proofs.Ytkmgbejhbkbaoaa
