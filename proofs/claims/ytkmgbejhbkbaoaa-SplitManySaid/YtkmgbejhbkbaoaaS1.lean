/- The program's split: a function of one's own. -/
import Derived.Test.YtkmgbejhbkbaoaaL7
import Derived.Test.YtkmgbejhbkbaoaaC4
import Derived.Test.YtkmgbejhbkbaoaaG1
import Derived.Test.YtkmgbejhbkbaoaaD1
namespace Go.Proofs.Ytkmgbejhbkbaoaa
set_option linter.unusedSimpArgs false
set_option linter.unusedVariables false
open Go.RowKit

theorem Try.info49 : (Try.prog.info? 49).map (fun i => (i.zero, i.size, i.bytes)) = some (some (.agg #[.int .i64 0, .int .i64 0]), 2, 16) := by kernel_rfl
theorem ei_in : EI Try.prog 44 49 2 16 := ei_of Try.underlying44 Try.info49 rfl (by decide)
theorem Try.info46 : (Try.prog.info? 46).map (fun i => (i.zero, i.size, i.bytes)) = some (some (.agg #[.int .i64 0, .slice none 0 0]), 2, 32) := by kernel_rfl
theorem ei_phi : EI Try.prog 38 46 2 32 := ei_of Try.underlying38 Try.info46 rfl (by decide)
theorem Try.info54 : (Try.prog.info? 54).map (fun i => (i.zero, i.size, i.bytes)) = some (some (.agg #[.int .i64 0, .int .i64 0, .int .i64 0, .slice none 0 0, .int .i32 0]), 5, 56) := by kernel_rfl
theorem ei_ins : EI Try.prog 39 54 5 56 := ei_of Try.underlying39 Try.info54 rfl (by decide)
theorem Try.info43 : (Try.prog.info? 43).map (fun i => (i.zero, i.size, i.bytes)) = some (some (.agg #[.slice none 0 0, .slice none 0 0, .int .i64 0, .slice none 0 0, .slice none 0 0, .int .i32 0]), 6, 112) := by kernel_rfl
theorem ei_block : EI Try.prog 24 43 6 112 := ei_of Try.underlying24 Try.info43 rfl (by decide)

theorem eq_nil_some (a : Addr) (n c : Nat) (w : World) : (binOp .eql 44 (.slice (some a) n c) (.slice none 0 0)).run Try.prog w = .ok (.bool false) w := by kernel_rfl
theorem eq_nil_none (w : World) : (binOp .eql 44 (.slice none 0 0) (.slice none 0 0)).run Try.prog w = .ok (.bool true) w := by kernel_rfl
set_option maxRecDepth 20000 in
theorem cloneIn_calls {w : World} {S : List Nat} {v : Value} {xs : List JIn} (h : SlR kIn 49 w S v xs) (hn : xs.length ≤ 1073741824) :
    Calls Try.prog 58 #[v] w fun e w' => ∃ v' S', e = .returned v' ∧ SlR kIn 49 w' S' v' xs ∧ New w w' S' := by
  obtain ⟨A, cap, rfl, hcap⟩ := h.shape
  cases A with
  | none =>
    have hx : xs = [] := by
      rcases h with ⟨A, hv, rfl, _⟩ | ⟨g, cap, C, Ss, hv, _⟩
      · rfl
      · cases hv
    subst hx
    have hc : cap = 0 := by
      rcases h with ⟨A, hv, _, _⟩ | ⟨g, cap, C, Ss, hv, _⟩
      · injection hv
      · cases hv
    subst hc
    have heq := eq_nil_none w
    go_enter Try.func58, Try.ntmps58
    go_wp2
    go_ret
    exact ⟨_, [], rfl, SlR.nil _ _ _, New.refl _⟩
  | some a =>
    obtain ⟨news, Sy, hE, hl, h1, hs, hsub, hnd⟩ := h.src (by decide)
    have hne : ∀ k ∈ Sy.flatten, k ∉ ([] : List Nat) := by simp
    have hbs : xs.length * 16 ≤ 140737488355328 := le_bytesA hn (by decide)
    have hml : xs.length ≤ maxLen := by simp only [maxLen]; omega
    have heq := eq_nil_some a xs.length cap w
    go_enter Try.func58, Try.ntmps58
    have hxa : Ext [] w (w.alloc (.cells #[] 49)) := (Ext.refl _ _).alloc _
    go_wp2_with (at_builtin; refine wpList_append_sl (d := kIn) (xs := []) (ys := xs) rfl (.tmp 5) (.tmp 6) 44 rfl ei_in rfl (S := []) (.inl ⟨_, rfl, rfl, rfl⟩) rfl news Sy (hE.ext0 hxa) hl h1 (hs.ext0 hxa) hne (by simpa using hml) (by simpa using hbs) ?_; intro v' w' S' hs' hx' hf' hn')
    go_ret
    have hSy : Sy.flatten = [] := by
      rw [List.flatten_eq_nil_iff]
      intro l hl
      obtain ⟨i, hi, rfl⟩ := List.getElem_of_mem hl
      have hi' : i < xs.length := by rw [← hE.1]; exact hi
      obtain ⟨Si, hSi, hr⟩ := hE.2 i xs[i] (List.getElem?_eq_getElem hi')
      rw [List.getElem?_eq_getElem hi] at hSi
      injection hSi with hSi
      rw [hSi]; exact hr.1
    rw [hSy] at hf' hn'
    refine ⟨v', S', rfl, by simpa using hs', hxa.nil hx', fun k hk => ?_, hn' (by simp) (by simp)⟩
    rcases hf' k hk with h3 | h3 | h3
    · cases h3
    · simp at h3; omega
    · cases h3

/-- what a closure hands back: a thing of its own, the same -/
def OwnPost {α : Type} (d : Kd α) (x : α) (w : World) (e : Ending) (w' : World) : Prop := ∃ cs' S', e = .returned (.agg cs'.toArray) ∧ d.rep w' S' x cs' ∧ New w w' S'
theorem New.then {w w1 w2 : World} {S1 S2 : List Nat} (h1 : New w w1 S1) (hl : ∀ k ∈ S1, k < w1.heap.size) (h2 : New w1 w2 S2) : New w w2 (S1 ++ S2) := by
  have := h1.ext.size
  refine ⟨h1.ext.nil h2.ext, fun k hk => ?_, List.nodup_append.2 ⟨h1.nodup, h2.nodup, ?_⟩⟩
  · rcases List.mem_append.1 hk with hk | hk
    · exact h1.fresh k hk
    · have := h2.fresh k hk; omega
  · rintro a ha b hb rfl
    have := hl a ha; have := h2.fresh a hb; omega

set_option maxRecDepth 20000 in
theorem ownIns_calls {w : World} {S : List Nat} {cs : List Value} {x : JIns} (h : kIns.rep w S x cs) (hn : x.args.length ≤ 1073741824) : Calls Try.prog 60 #[.agg cs.toArray] w (OwnPost kIns x w) := by
  obtain ⟨v, rfl, h⟩ := h
  obtain ⟨w1, hw1⟩ : ∃ w1, w1 = (w.alloc (.cells #[.int .i64 x.op, .int .i64 x.dst, .int .i64 x.two, v, .int .i32 x.imm] 54)).alloc (.cells #[.int .i64 0, .int .i64 0, .int .i64 0, .slice none 0 0, .int .i32 0] 54) := ⟨_, rfl⟩
  have hx1 : Ext [] w w1 := by rw [hw1]; exact ((Ext.refl _ _).alloc _).alloc _
  have b1 : Blk w1 w.heap.size 54 #[.int .i64 x.op, .int .i64 x.dst, .int .i64 x.two, v, .int .i32 x.imm] := by rw [hw1]; exact (Blk.new _ _ _).alloc _
  have b2 : Blk w1 (w.heap.size + 1) 54 #[.int .i64 0, .int .i64 0, .int .i64 0, .slice none 0 0, .int .i32 0] := by rw [hw1]; simpa using Blk.new (w.alloc (.cells #[.int .i64 x.op, .int .i64 x.dst, .int .i64 x.two, v, .int .i32 x.imm] 54)) _ _
  have hsz := b2.lt
  have c3 := b1.cell (i := 3) rfl
  go_enter Try.func60, Try.ntmps60
  go_wp2_with fail
  rw [← hw1]
  clear hw1
  refine (clone_calls (h.ext0 hx1) hn).mono ?_
  rintro e w2 ⟨v2, S2, rfl, h2, hx2, hf2, hn2⟩
  obtain ⟨A2, c2, rfl, _⟩ := h2.shape
  have b1' := b1.ext hx2 (by simp)
  have b2' := b2.ext hx2 (by simp)
  have k0 := b1'.cell (i := 0) rfl
  have k1 := b1'.cell (i := 1) rfl
  have k2 := b1'.cell (i := 2) rfl
  have k3 := b1'.cell (i := 3) rfl
  have k4 := b1'.cell (i := 4) rfl
  have f3 := b1'.frozen 3
  have m0 := b2'.cell (i := 0) rfl
  have g0 := b2'.frozen 0
  have m1 := b2'.cell (i := 1) rfl
  have g1 := b2'.frozen 1
  have m2 := b2'.cell (i := 2) rfl
  have g2 := b2'.frozen 2
  have m3 := b2'.cell (i := 3) rfl
  have g3 := b2'.frozen 3
  have m4 := b2'.cell (i := 4) rfl
  have g4 := b2'.frozen 4
  go_wp2
  refine bodyPost_ret (v := .agg #[.int .i64 x.op, .int .i64 x.dst, .int .i64 x.two, .slice A2 x.args.length c2, .int .i32 x.imm]) (by simp [results, Try.results60, go_sem, m0, m1, m2, m3, m4]) rfl ?_
  refine ⟨[.int .i64 x.op, .int .i64 x.dst, .int .i64 x.two, .slice A2 x.args.length c2, .int .i32 x.imm], S2, rfl, ⟨_, rfl, h2.ext (M := [w.heap.size, w.heap.size + 1]) ?_ (fun k hk => by have := hf2 k hk; simp; omega)⟩, ⟨(hx1.nil hx2).trans (M' := [w.heap.size, w.heap.size + 1]) ?_ (fun k hk => .inr (by simp at hk; omega)), fun k hk => by have := hf2 k hk; omega, hn2⟩⟩
  all_goals
    repeat (refine Ext.setCell ?_ (.inl (by simp)) _)
    exact Ext.refl _ _

set_option maxRecDepth 20000 in
theorem ownPhi_calls {w : World} {S : List Nat} {cs : List Value} {x : JPhi} (h : kPhi.rep w S x cs) (hn : x.ins.length ≤ 1073741824) : Calls Try.prog 57 #[.agg cs.toArray] w (OwnPost kPhi x w) := by
  obtain ⟨v, rfl, h⟩ := h
  obtain ⟨w1, hw1⟩ : ∃ w1, w1 = (w.alloc (.cells #[.int .i64 x.dst, v] 46)).alloc (.cells #[.int .i64 0, .slice none 0 0] 46) := ⟨_, rfl⟩
  have hx1 : Ext [] w w1 := by rw [hw1]; exact ((Ext.refl _ _).alloc _).alloc _
  have b1 : Blk w1 w.heap.size 46 #[.int .i64 x.dst, v] := by rw [hw1]; exact (Blk.new _ _ _).alloc _
  have b2 : Blk w1 (w.heap.size + 1) 46 #[.int .i64 0, .slice none 0 0] := by rw [hw1]; simpa using Blk.new (w.alloc (.cells #[.int .i64 x.dst, v] 46)) _ _
  have hsz := b2.lt
  have c3 := b1.cell (i := 1) rfl
  go_enter Try.func57, Try.ntmps57
  go_wp2_with fail
  rw [← hw1]
  clear hw1
  refine (cloneIn_calls (h.ext0 hx1) hn).mono ?_
  rintro e w2 ⟨v2, S2, rfl, h2, ⟨hx2, hf2, hn2⟩⟩
  obtain ⟨A2, c2, rfl, _⟩ := h2.shape
  have b1' := b1.ext hx2 (by simp)
  have b2' := b2.ext hx2 (by simp)
  have k0 := b1'.cell (i := 0) rfl
  have k1 := b1'.cell (i := 1) rfl
  have f3 := b1'.frozen 1
  have m0 := b2'.cell (i := 0) rfl
  have g0 := b2'.frozen 0
  have m1 := b2'.cell (i := 1) rfl
  have g1 := b2'.frozen 1
  go_wp2
  refine bodyPost_ret (v := .agg #[.int .i64 x.dst, .slice A2 x.ins.length c2]) (by simp [results, Try.results57, go_sem, m0, m1]) rfl ?_
  refine ⟨[.int .i64 x.dst, .slice A2 x.ins.length c2], S2, rfl, ⟨_, rfl, h2.ext (M := [w.heap.size, w.heap.size + 1]) ?_ (fun k hk => by have := hf2 k hk; simp; omega)⟩, ⟨(hx1.nil hx2).trans (M' := [w.heap.size, w.heap.size + 1]) ?_ (fun k hk => .inr (by simp at hk; omega)), fun k hk => by have := hf2 k hk; omega, hn2⟩⟩
  all_goals
    repeat (refine Ext.setCell ?_ (.inl (by simp)) _)
    exact Ext.refl _ _

set_option maxRecDepth 20000 in
set_option maxHeartbeats 400000 in
theorem copiedIns_calls {w : World} {S : List Nat} {v : Value} {xs : List JIns} (h : SlR kIns 54 w S v xs) (hn : xs.length ≤ 1073741824) (hq : ∀ x ∈ xs, x.args.length ≤ 1073741824) :
    Calls Try.prog 59 #[v, .func (.func 60) #[] #[]] w fun e w' => ∃ v' S', e = .returned v' ∧ SlR kIns 54 w' S' v' xs ∧ New w w' S' := by
  obtain ⟨A, cap, rfl, hcap⟩ := h.shape
  go_enter Try.func59, Try.ntmps59
  go_wp2
  go_loopg [5, 10] xs.length (fun k vo vi wr => ∃ (i : Nat) (So : List Nat), vi = .int .i64 (i : Int) ∧ i ≤ xs.length ∧ Hid (i + k = xs.length) ∧ SlR kIns 54 wr So vo (xs.take i) ∧ New w wr So)
  case atStart => exact ⟨0, [], rfl, by omega, by simp [Hid], by simpa using SlR.nil _ _ _, New.refl _⟩
  case round =>
    obtain ⟨i, So, rfl, hi, HK, hso, hnew⟩ := hrel
    have hfl : (xs.take i).length ≤ 1073741824 := by rw [List.length_take]; omega
    by_cases hlt : i < xs.length
    · obtain ⟨g, Sj, cs, rfl, hg, _, ⟨v0, rfl, hv0⟩, hcj⟩ := (h.ext0 hnew.ext).cells i hlt
      have e0 := hcj 0 _ rfl
      have e1 := hcj 1 _ rfl
      have e2 := hcj 2 _ rfl
      have e3 := hcj 3 _ rfl
      have e4 := hcj 4 _ rfl
      simp only [kIns, Nat.add_zero] at e0 e1 e2 e3 e4
      have hsn : Hid (xs.take (i + 1) = xs.take i ++ [xs[i]]) := by rw [Hid, List.take_succ_eq_append_getElem hlt]
      have hqx := hq xs[i] (List.getElem_mem hlt)
      generalize xs[i] = x at *
      have Hqx := Lib.hid hqx
      clear hcj hqx
      obtain ⟨A0, c0, rfl, _⟩ := hv0.shape
      obtain ⟨w1, hw1⟩ : ∃ w1, w1 = wr.alloc (.cells #[.int .i64 x.op, .int .i64 x.dst, .int .i64 x.two, .slice A0 x.args.length c0, .int .i32 x.imm] 54) := ⟨_, rfl⟩
      have hx1 : Ext [] wr w1 := by rw [hw1]; exact (Ext.refl _ _).alloc _
      have b1 : Blk w1 wr.heap.size 54 #[.int .i64 x.op, .int .i64 x.dst, .int .i64 x.two, .slice A0 x.args.length c0, .int .i32 x.imm] := by rw [hw1]; exact Blk.new _ _ _
      go_wp2_with fail
      rw [← hw1]
      clear hw1
      refine (ownIns_calls (x := x) (cs := [.int .i64 x.op, .int .i64 x.dst, .int .i64 x.two, .slice A0 x.args.length c0, .int .i32 x.imm]) ⟨_, rfl, hv0.ext0 hx1⟩ Hqx.out).mono ?_
      rintro e w2 ⟨cs', S1, rfl, ⟨v2, rfl, h2⟩, hnew1⟩
      obtain ⟨A2, c2, rfl, _⟩ := h2.shape
      have hso2 := (hso.ext0 hx1).ext0 hnew1.ext
      have hnew1' : New wr w2 S1 := ⟨hx1.nil hnew1.ext, fun k hk => Nat.le_trans hx1.size (hnew1.fresh k hk), hnew1.nodup⟩
      have hlt1 : ∀ k ∈ So, k < wr.heap.size := hso.lt
      have hdis : ∀ k ∈ [S1].flatten, k ∉ So := fun k hk hk2 => by have := hlt1 k hk2; have := hnew1'.fresh k (by simpa using hk); omega
      have hxa : Ext [] w2 (w2.alloc (.cells #[.int .i64 x.op, .int .i64 x.dst, .int .i64 x.two, .slice A2 x.args.length c2, .int .i32 x.imm] 54)) := (Ext.refl _ _).alloc _
      have h2' := h2.ext0 hxa
      have hrp2 : kIns.rep _ S1 x [.int .i64 x.op, .int .i64 x.dst, .int .i64 x.two, .slice A2 x.args.length c2, .int .i32 x.imm] := ⟨_, rfl, h2'⟩
      have hone := Kd.one kIns hrp2
      clear e0
      go_wp2_with (at_builtin; refine wpList_append_sl (d := kIns) (ys := [x]) rfl (.tmp 14) (.tmp 18) 39 rfl ei_ins rfl (hso2.ext0 hxa) rfl [.int .i64 x.op, .int .i64 x.dst, .int .i64 x.two, .slice A2 x.args.length c2, .int .i32 x.imm] [S1] (elems_single hrp2) rfl hone (Src.blk 1) hdis (le_maxLen hfl) (le_bytesB hfl (by decide)) ?_; intro v' w' S' hs' hx' hf' hn')
      go_roundg (gk - 1)
      case measure => have := HK.out; omega
      case rel => exact ⟨i + 1, S', by go_num, by omega, by have := HK.out; simp only [Hid]; omega, by rw [hsn.out]; exact hs', hnew.append1 hnew1' hxa hx' (fun k hk => by simpa using hf' k hk) (fun a b => hn' a (by simpa using b))⟩
    · have hie : i = xs.length := by omega
      subst hie
      rw [List.take_length] at hso
      go_wp2
      go_ret
      exact ⟨_, So, rfl, hso, hnew⟩

set_option maxRecDepth 20000 in
set_option maxHeartbeats 400000 in
theorem copiedPhi_calls {w : World} {S : List Nat} {v : Value} {xs : List JPhi} (h : SlR kPhi 46 w S v xs) (hn : xs.length ≤ 1073741824) (hq : ∀ x ∈ xs, x.ins.length ≤ 1073741824) :
    Calls Try.prog 56 #[v, .func (.func 57) #[] #[]] w fun e w' => ∃ v' S', e = .returned v' ∧ SlR kPhi 46 w' S' v' xs ∧ New w w' S' := by
  obtain ⟨A, cap, rfl, hcap⟩ := h.shape
  go_enter Try.func56, Try.ntmps56
  go_wp2
  go_loopg [5, 10] xs.length (fun k vo vi wr => ∃ (i : Nat) (So : List Nat), vi = .int .i64 (i : Int) ∧ i ≤ xs.length ∧ Hid (i + k = xs.length) ∧ SlR kPhi 46 wr So vo (xs.take i) ∧ New w wr So)
  case atStart => exact ⟨0, [], rfl, by omega, by simp [Hid], by simpa using SlR.nil _ _ _, New.refl _⟩
  case round =>
    obtain ⟨i, So, rfl, hi, HK, hso, hnew⟩ := hrel
    have hfl : (xs.take i).length ≤ 1073741824 := by rw [List.length_take]; omega
    by_cases hlt : i < xs.length
    · obtain ⟨g, Sj, cs, rfl, hg, _, ⟨v0, rfl, hv0⟩, hcj⟩ := (h.ext0 hnew.ext).cells i hlt
      have e0 := hcj 0 _ rfl
      have e1 := hcj 1 _ rfl
      simp only [kPhi, Nat.add_zero] at e0 e1
      have hsn : Hid (xs.take (i + 1) = xs.take i ++ [xs[i]]) := by rw [Hid, List.take_succ_eq_append_getElem hlt]
      have hqx := hq xs[i] (List.getElem_mem hlt)
      generalize xs[i] = x at *
      have Hqx := Lib.hid hqx
      clear hcj hqx
      obtain ⟨A0, c0, rfl, _⟩ := hv0.shape
      obtain ⟨w1, hw1⟩ : ∃ w1, w1 = wr.alloc (.cells #[.int .i64 x.dst, .slice A0 x.ins.length c0] 46) := ⟨_, rfl⟩
      have hx1 : Ext [] wr w1 := by rw [hw1]; exact (Ext.refl _ _).alloc _
      have b1 : Blk w1 wr.heap.size 46 #[.int .i64 x.dst, .slice A0 x.ins.length c0] := by rw [hw1]; exact Blk.new _ _ _
      go_wp2_with fail
      rw [← hw1]
      clear hw1
      refine (ownPhi_calls (x := x) (cs := [.int .i64 x.dst, .slice A0 x.ins.length c0]) ⟨_, rfl, hv0.ext0 hx1⟩ Hqx.out).mono ?_
      rintro e w2 ⟨cs', S1, rfl, ⟨v2, rfl, h2⟩, hnew1⟩
      obtain ⟨A2, c2, rfl, _⟩ := h2.shape
      have hso2 := (hso.ext0 hx1).ext0 hnew1.ext
      have hnew1' : New wr w2 S1 := ⟨hx1.nil hnew1.ext, fun k hk => Nat.le_trans hx1.size (hnew1.fresh k hk), hnew1.nodup⟩
      have hlt1 : ∀ k ∈ So, k < wr.heap.size := hso.lt
      have hdis : ∀ k ∈ [S1].flatten, k ∉ So := fun k hk hk2 => by have := hlt1 k hk2; have := hnew1'.fresh k (by simpa using hk); omega
      have hxa : Ext [] w2 (w2.alloc (.cells #[.int .i64 x.dst, .slice A2 x.ins.length c2] 46)) := (Ext.refl _ _).alloc _
      have h2' := h2.ext0 hxa
      have hrp2 : kPhi.rep _ S1 x [.int .i64 x.dst, .slice A2 x.ins.length c2] := ⟨_, rfl, h2'⟩
      have hone := Kd.one kPhi hrp2
      clear e0
      go_wp2_with (at_builtin; refine wpList_append_sl (d := kPhi) (ys := [x]) rfl (.tmp 14) (.tmp 18) 38 rfl ei_phi rfl (hso2.ext0 hxa) rfl [.int .i64 x.dst, .slice A2 x.ins.length c2] [S1] (elems_single hrp2) rfl hone (Src.blk 1) hdis (le_maxLen hfl) (le_bytesB hfl (by decide)) ?_; intro v' w' S' hs' hx' hf' hn')
      go_roundg (gk - 1)
      case measure => have := HK.out; omega
      case rel => exact ⟨i + 1, S', by go_num, by omega, by have := HK.out; simp only [Hid]; omega, by rw [hsn.out]; exact hs', hnew.append1 hnew1' hxa hx' (fun k hk => by simpa using hf' k hk) (fun a b => hn' a (by simpa using b))⟩
    · have hie : i = xs.length := by omega
      subst hie
      rw [List.take_length] at hso
      go_wp2
      go_ret
      exact ⟨_, So, rfl, hso, hnew⟩
end Go.Proofs.Ytkmgbejhbkbaoaa
