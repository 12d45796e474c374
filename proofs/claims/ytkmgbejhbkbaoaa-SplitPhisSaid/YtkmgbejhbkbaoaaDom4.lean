/- Parts joined by program: N6, N7, N8, N9, N10, N11, N12, N13, N14, N15, R3. -/
import Derived.Test.YtkmgbejhbkbaoaaDom3
/- The maker of functions: one more instruction. -/
namespace Go.Proofs.Ytkmgbejhbkbaoaa
set_option linter.unusedSimpArgs false
set_option linter.unusedVariables false
open Go.RowKit

def opsT : Array Value := #[.int .i64 2, .int .i64 2, .int .i64 3, .int .i64 4, .int .i64 5, .int .i64 6, .int .i64 7, .int .i64 8, .int .i64 9, .int .i64 10, .int .i64 12, .int .i64 11]
theorem opsT_get {k : Nat} (h : k < 12) : ∃ o : Int, 2 ≤ o ∧ o ≤ 12 ∧ opsT[k]? = some (.int .i64 o) := by
  rcases k with _ | _ | _ | _ | _ | _ | _ | _ | _ | _ | _ | _ | k
  · exact ⟨2, by decide, by decide, rfl⟩
  · exact ⟨2, by decide, by decide, rfl⟩
  · exact ⟨3, by decide, by decide, rfl⟩
  · exact ⟨4, by decide, by decide, rfl⟩
  · exact ⟨5, by decide, by decide, rfl⟩
  · exact ⟨6, by decide, by decide, rfl⟩
  · exact ⟨7, by decide, by decide, rfl⟩
  · exact ⟨8, by decide, by decide, rfl⟩
  · exact ⟨9, by decide, by decide, rfl⟩
  · exact ⟨10, by decide, by decide, rfl⟩
  · exact ⟨12, by decide, by decide, rfl⟩
  · exact ⟨11, by decide, by decide, rfl⟩
  · omega
theorem opers_mid {o : Int} (h1 : 2 ≤ o) (h2 : o ≤ 14) : opersF o = (2, 2) := by
  unfold opersF
  rw [if_neg (by omega), if_neg (by omega), if_neg (by omega)]
theorem makes_one {x : JIns} (h1 : x.op ≠ 16) (h2 : x.op ≠ 18) : makesF x = [x.dst] := by
  unfold makesF
  rw [if_neg h1, if_neg h2]

theorem FpStep.kept {F F' : List Nat} {w w' : World} (h : FpStep F w w' F') {g : Nat} {T : TypeId} {cs : Array Value} (hb : Blk w g T cs ∧ g ∉ F) : Blk w' g T cs ∧ g ∉ F' :=
  ⟨hb.1.ext h.1 hb.2, fun hk => (h.2 _ hk).elim hb.2 fun h2 => by have := hb.1.lt; omega⟩

/-- a row of one's own of values at hand, beside the maker -/
structure RowS (w0 w : World) (F S : List Nat) (vs v : Value) (l lv : List Int) : Prop where
  row : SlR kInt 3 w S v l
  off : ∀ k ∈ S, k ∉ F
  nd : S.Nodup
  rd : RdS w (F ++ S) vs
  has : ∀ y ∈ l, y ∈ lv
  new : ∀ k ∈ S, w0.heap.size ≤ k
theorem RdS.sub {w : World} {F F' : List Nat} {vs : Value} (h : RdS w F vs) (hs : ∀ k ∈ F', k ∈ F) : RdS w F' vs := h.step ⟨Ext.refl _ _, fun k hk => .inl (hs k hk)⟩
theorem RowS.start {w0 w : World} {q : Nat} {vs : Value} {F : List Nat} {a : Nat} {st : MSt} {vts : List Value} (h : MkE w q vs F a st vts) (A : Option Addr) : RowS w0 w F [] vs (.slice A 0 0) [] st.live :=
  ⟨.inl ⟨A, rfl, rfl, rfl⟩, by simp, by simp, h.rd.sub (by simp), by simp, by simp⟩
theorem RowS.step {w0 w w' : World} {F F' S : List Nat} {vs v : Value} {l lv lv' : List Int} (h : RowS w0 w F S vs v l lv) (hx : FpStep F w w' F') (hl : ∀ y ∈ lv, y ∈ lv') : RowS w0 w' F' S vs v l lv' :=
  ⟨h.row.ext hx.1 h.off, fun k hk hk2 => (hx.2 k hk2).elim (h.off k hk) fun h2 => by have := h.row.lt k hk; omega, h.nd,
   h.rd.step ⟨hx.1.mono fun k hk => .inl (by simp [hk]), fun k hk => by
     rcases List.mem_append.1 hk with h1 | h1
     · exact (hx.2 k h1).imp (fun h2 => by simp [h2]) id
     · exact .inl (by simp [h1])⟩, fun y hy => hl y (h.has y hy), h.new⟩
theorem MkE.extM {w w' : World} {q : Nat} {vs : Value} {F M : List Nat} {a : Nat} {st : MSt} {vts : List Value} (h : MkE w q vs F a st vts) (hx : Ext M w w') (hM : ∀ k ∈ M, k ∉ F) (hr : RdS w' F vs) : MkE w' q vs F a st vts := by
  obtain ⟨vb, vl, Sb, Sl, h⟩ := h
  have hd : ∀ k ∈ F, k ∉ M := fun k hk h2 => hM k h2 hk
  have hfp := h.fp
  exact ⟨vb, vl, Sb, Sl, h.blk.ext hx (hd q (by rw [hfp]; simp)), h.bs.ext hx (fun k hk => hd k (by rw [hfp]; simp [hk])), h.vlen, h.lv.ext hx (fun k hk => hd k (by rw [hfp]; simp [hk])), h.fp, h.nd, hr⟩
/-- a value more in the row -/
theorem RowS.app {w0 w w1 w' : World} {q : Nat} {F S S' : List Nat} {vs v v' : Value} {b c K d a1 : Nat} {F0 : List Nat} {st st1 : MSt} {vts : List Value} {l : List Int} {y : Int} (h : RowS w0 w F S vs v l st1.live) (hy : y ∈ st1.live) (h0 : Ext [] w0 w ∨ w0.heap.size ≤ w.heap.size)
    (hg : GP w0 w q vs vts b c K d F0 F a1 st st1) (hx1 : Ext [] w w1) (hx : Ext S w1 w') (hs : SlR kInt 3 w' S' v' (l ++ [y])) (hf : ∀ k ∈ S', k ∈ S ∨ k = w1.heap.size ∨ k ∈ ([] : List Nat)) (hn : S.Nodup → ([] : List Nat).Nodup → S'.Nodup) :
    RowS w0 w' F S' vs v' (l ++ [y]) st1.live ∧ GP w0 w' q vs vts b c K d F0 F a1 st st1 := by
  have hsz : w0.heap.size ≤ w.heap.size := h0.elim (fun h => h.size) id
  have hsz1 := hx1.size
  have hf2 : ∀ k ∈ S', k ∈ S ∨ w.heap.size ≤ k := fun k hk => by
    rcases hf k hk with h1 | h1 | h1
    · exact .inl h1
    · exact .inr (by omega)
    · cases h1
  have hxS : Ext S w w' := (hx1.mono (by simp)).same hx
  have hrd : RdS w' (F ++ S') vs := h.rd.step ⟨hxS.mono fun k hk => .inl (by simp [hk]), fun k hk => by
    rcases List.mem_append.1 hk with h1 | h1
    · exact .inl (by simp [h1])
    · exact (hf2 k h1).imp (fun h2 => by simp [h2]) id⟩
  have hlt := hg.mm.lt
  refine ⟨⟨hs, fun k hk hk2 => ?_, hn h.nd (by simp), hrd, fun z hz => ?_, fun k hk => ?_⟩, hg.mm.extM hxS h.off (hrd.sub (by intro k hk; simp [hk])), hg.gr, hg.sm, hg.fp.1.trans hxS fun k hk => .inr (h.new k hk), hg.fp.2⟩
  · rcases hf2 k hk with h1 | h1
    · exact h.off k h1 hk2
    · have := hlt k hk2; omega
  · simp only [List.mem_append, List.mem_singleton] at hz
    rcases hz with h1 | rfl
    · exact h.has z h1
    · exact hy
  · rcases hf2 k hk with h1 | h1
    · exact h.new k h1
    · omega
theorem addR {w w1 w2 : World} {q : Nat} {vs : Value} {F0 F : List Nat} {a a2 K b c d : Nat} {st0 st : MSt} {vts : List Value} {k : Int} (hg : GP w w1 q vs vts b c K d F0 F a st0 st) (hE : Ext F w1 w2) (h : MkE w2 q vs F a2 { st with next := st.next + k } vts) (ha2 : a2 ≤ a + 1) (hK : K + d ≤ 900000) (hk : 0 ≤ k) (hk2 : k ≤ 2) (hb : b < st.blocks.length) (hbl : st.blocks.length ≤ 100000)
    {S : List Nat} {v : Value} (x : JIns) (hr : RowS w w2 F S vs v x.args st.live) (hx : insOk x) (hm : ∀ v ∈ makesF x, st.next ≤ v ∧ v < st.next + k) (hn : (makesF x).Nodup) :
    Calls Try.prog 44 #[.pointer (some ⟨q, 0, none⟩), .int .i64 (b : Int), .agg #[.int .i64 x.op, .int .i64 x.dst, .int .i64 x.two, v, .int .i32 x.imm]] w2 fun e w' =>
      e = .returned (.tuple #[]) ∧ ∃ F', GP w w' q vs vts b (c + 1) K (d + 3) F0 F' a2 st0 (MSt.addI { st with next := st.next + k } b x) := by
  have hrep : kIns.rep w2 S x [.int .i64 x.op, .int .i64 x.dst, .int .i64 x.two, v, .int .i32 x.imm] := ⟨v, rfl, hr.row⟩
  have hs := hg.sm
  refine (add_calls h b hb hrep hr.off hr.nd hr.rd hbl (fun y hy => by have := hs.2.2.2 y hy; omega) (by have := hs.2.2.1; show st.live.length ≤ _; omega)).mono ?_
  rintro e w3 ⟨rfl, F', h2, hx2, hf2⟩
  have hgr : Grow b 1 st (MSt.addI { st with next := st.next + k } b x) := addI_grow hk hk2 hx hr.has hm hn rfl
  have hs2 : Sm (K + d + 1) a2 st := hs.at' (by have := hs.1; omega) (by omega)
  refine ⟨rfl, F', h2, hg.gr.trans hgr, hs2.grow (d := 2) hgr (by have := hs2.1; omega) (by omega), (hg.fp.1.trans hE hg.fp.2).trans hx2 hg.fp.2, fun y hy => ?_⟩
  have hsz := hg.fp.1.size
  have hsz2 := hE.size
  rcases hf2 y hy with h3 | h3 | h3
  · exact hg.fp.2 y h3
  · exact .inr (hr.new y h3)
  · exact .inr (by omega)

def InsG (w : World) (q : Nat) (vs : Value) (vts : List Value) (b K : Nat) (F : List Nat) (st : MSt) (e : Ending) (w' : World) : Prop :=
  e = .returned (.tuple #[]) ∧ ∃ (a' : Nat) (F' : List Nat) (st' : MSt), GP w w' q vs vts b 9 K 120 F F' a' st st'
set_option maxRecDepth 20000 in
set_option maxHeartbeats 12800000 in
theorem instructionG {w : World} {q : Nat} {vs : Value} {F : List Nat} {a K : Nat} {st : MSt} {vts : List Value} (h : MkE w q vs F a st vts) (hs : Sm K a st) (hK : K ≤ 600000) (b : Nat) (hb : b < st.blocks.length) (hbl : st.blocks.length ≤ 100000) :
    Calls Try.prog 25 #[.pointer (some ⟨q, 0, none⟩), .int .i64 (b : Int)] w (InsG w q vs vts b K F st) := by
  have Hs := Lib.hid hs
  clear hs
  go_enter Try.func25, Try.ntmps25
  go_wp2_with fail
  refine (takeG h Hs.out (by omega) b 20 (by omega) (by omega)).mono ?_
  rintro e w1 ⟨k, a1, hk, rfl, g1⟩
  have HG1 := Lib.hid g1
  have m1 := g1.mm
  have s1 := Lib.hid g1.sm
  clear g1 h
  have hk : k < 20 := by omega
  have hsp : k < 12 ∨ k = 12 ∨ k = 13 ∨ k = 14 ∨ k = 15 ∨ k = 16 ∨ k = 17 ∨ 18 ≤ k := by omega
  rcases hsp with hk12 | rfl | rfl | rfl | rfl | rfl | rfl | hk18
  · -- plain
    obtain ⟨o, ho1, ho2, hot⟩ := opsT_get hk12
    have Hot := Lib.hid hot
    have d0 : decide ((k : Int) < 12) = true := by simp; omega
    clear hot
    have Hb1 : Hid (Blk (w1.alloc (.cells opsT 87)) w1.heap.size 87 opsT ∧ w1.heap.size ∉ F) := ⟨Blk.new w1 opsT 87, fun h => by have := m1.lt _ h; omega⟩
    have HG1 := Lib.hid (HG1.out.ext0 ((Ext.refl [] w1).alloc (.cells opsT 87)))
    have m1 := m1.ext0 ((Ext.refl [] w1).alloc (.cells opsT 87))
    go_wp2_with fail
    refine (someG m1 s1.out (by omega) b hb hbl).mono ?_
    rintro e w2 ⟨x, a2, F2, st2, rfl, hx, g2⟩
    have hb2 := g2.hb hb
    have hbl2 : st2.blocks.length ≤ 100000 := by rw [g2.gr.len]; exact hbl
    have Lx2 := Lib.hid hx
    have HG2 := Lib.hid (HG1.out.trans g2)
    have m2 := g2.mm
    have s2 := Lib.hid g2.sm
    have Hb2 := Lib.hid (g2.fp.kept Hb1.out)
    clear Hb1
    clear g2 HG1 hx m1 s1
    go_wp2_with fail
    refine (someG m2 s2.out (by omega) b hb2 hbl2).mono ?_
    rintro e w3 ⟨y, a3, F3, st3, rfl, hy, g3⟩
    have hb3 := g3.hb hb2
    have hbl3 : st3.blocks.length ≤ 100000 := by rw [g3.gr.len]; exact hbl2
    have Lx3 := Lib.hid (g3.gr.live Lx2.out)
    have Ly3 := Lib.hid hy
    have HG3 := Lib.hid (HG2.out.trans g3)
    have m3 := g3.mm
    have s3 := Lib.hid g3.sm
    have Hb3 := Lib.hid (g3.fp.kept Hb2.out)
    clear Hb2
    clear g3 HG2 Lx2 hy m2 s2
    go_wp2_with fail
    refine (takeG m3 s3.out (by omega) b 3 (by omega) (by omega)).mono ?_
    rintro e w4 ⟨k4, a4, hk4, rfl, g4⟩
    have HG4 := Lib.hid (HG3.out.trans g4)
    have m4 := g4.mm
    have s4 := Lib.hid g4.sm
    have Hb4 := Lib.hid (g4.fp.kept Hb3.out)
    clear Hb3
    clear g4 HG3 m3 s3
    by_cases hk0 : k4 = 0
    · skip
      subst hk0
      go_wp2_with fail
      refine (takeG m4 s4.out (by omega) b 40 (by omega) (by omega)).mono ?_
      rintro e w5 ⟨k5, a5, hk5, rfl, g5⟩
      have HG5 := Lib.hid (HG4.out.trans g5)
      have m5 := g5.mm
      have s5 := Lib.hid g5.sm
      have Hb5 := Lib.hid (g5.fp.kept Hb4.out)
      clear Hb4
      clear g5 HG4 m4 s4
      go_wp2_with fail
      refine (constE m5 s5.out (by omega) b hb3 hbl3 ((k5 : Int) - 8)).mono ?_
      rintro e w6 ⟨y, a6, F6, st6, rfl, hy, g6⟩
      have hb6 := g6.hb hb3
      have hbl6 : st6.blocks.length ≤ 100000 := by rw [g6.gr.len]; exact hbl3
      have Lx6 := Lib.hid (g6.gr.live Lx3.out)
      have Ly6 := Lib.hid (g6.gr.live Ly3.out)
      have Ly6 := Lib.hid hy
      have HG6 := Lib.hid (HG5.out.trans g6)
      have m6 := g6.mm
      have s6 := Lib.hid g6.sm
      have Hb6 := Lib.hid (g6.fp.kept Hb5.out)
      clear Hb5
      clear g6 HG5 Lx3 Ly3 hy m5 s5
      have hnx := s6.out.2.1
      have hbt := Hb6.out
      have hBc : w6.drew.cell? ⟨w1.heap.size, k, none⟩ = some (.int .i64 o) := hbt.1.drew.cell (i := k) Hot.out
      have hFl := m6.lt
      have hxl : x ∈ st6.live := Lx6.out
      have hyl : y ∈ st6.live := Ly6.out
      have md := m6.ext0 ((Ext.refl _ _).drew)
      obtain ⟨df, hdf⟩ : ∃ d, d = st6.next := ⟨_, rfl⟩
      have Hdf := Lib.hid hdf
      clear hdf
      go_wp2
      refine wp_region_rt (fun W => W.cell? ⟨w1.heap.size, k, none⟩ = some (.int .i64 o)) (.q 0 (.q 1 (.q 2 (.q 3 (.q 4 (.q 5 (.q 7 (.q 8 (.b 6 (.e 9 (.q 10 (.fin 11))) 9 (.e 6 (.q 10 (.fin 11)))))))))))) (by kernel_rfl) (by kernel_rfl) hBc ?_
      refine rt_quiet (.pointer (some ⟨q, 0, none⟩)) rfl rfl (fun W' hC => by simp [go_sem]) ?_
      simp only [put_lit, put_none, List.set_cons_succ, List.set_cons_zero]
      refine rt_quiet (.int .i64 (b : Int)) rfl rfl (fun W' hC => by simp [go_sem]) ?_
      simp only [put_lit, put_none, List.set_cons_succ, List.set_cons_zero]
      refine rt_quiet (.int .i64 (k : Int)) rfl rfl (fun W' hC => by simp [go_sem]) ?_
      simp only [put_lit, put_none, List.set_cons_succ, List.set_cons_zero]
      refine rt_quiet (.pointer (some ⟨w1.heap.size, k, none⟩)) rfl rfl (fun W' hC => by simp [go_sem]; intro h; omega) ?_
      simp only [put_lit, put_none, List.set_cons_succ, List.set_cons_zero]
      refine rt_quiet (.int .i64 o) rfl rfl (fun W' hC => by simp [go_sem, hC]) ?_
      simp only [put_lit, put_none, List.set_cons_succ, List.set_cons_zero]
      refine rt_quiet (.pointer (some ⟨q, 0, none⟩)) rfl rfl (fun W' hC => by simp [go_sem]) ?_
      simp only [put_lit, put_none, List.set_cons_succ, List.set_cons_zero]
      refine rt_quiet (.int .i64 x) rfl rfl (fun W' hC => by simp [go_sem]) ?_
      simp only [put_lit, put_none, List.set_cons_succ, List.set_cons_zero]
      refine rt_quiet (.int .i64 y) rfl rfl (fun W' hC => by simp [go_sem]) ?_
      simp only [put_lit, put_none, List.set_cons_succ, List.set_cons_zero]
      refine ⟨?_, ?_⟩
      · refine s_call (w' := w6.drew) rfl rfl (by simp [go_sem]) ((fresh_calls md (by omega) (by omega)).mono ?_)
        rintro e wf ⟨rfl, mf, hxf⟩
        have hxf0 := ((Ext.refl _ _).drew).same hxf
        rw [← Hdf.out]
        have HC := hxf.cell hBc hbt.2
        refine ⟨_, rfl, HC, ?_⟩
        simp only [put_lit, put_none, List.set_cons_succ, List.set_cons_zero]
        refine s_eff (w' := wf.alloc (.cells #[.int .i64 x, .int .i64 y] 3)) (.slice (some ⟨wf.heap.size, 0, none⟩) 2 2) rfl rfl (by simp [go_sem]) ⟨((Ext.refl [] wf).alloc _).cell HC (by simp), ?_⟩
        simp only [put_lit, put_none, List.set_cons_succ, List.set_cons_zero]
        have hrow := lit_ints (w := wf) [x, y] (by simp) (by simp)
        have Hrow := Lib.hid hrow
        clear hrow
        refine rt_quiet (.agg #[.int .i64 o, .int .i64 df, .int .i64 0, .slice (some ⟨wf.heap.size, 0, none⟩) 2 2, .int .i32 0]) rfl rfl (fun W' hC => by simp [go_sem]) ?_
        simp only [put_lit, put_none, List.set_cons_succ, List.set_cons_zero]
        refine fin_call (w' := wf.alloc (.cells #[.int .i64 x, .int .i64 y] 3)) rfl rfl (by simp [go_sem]) ((addE 1 m6 (hxf0.alloc _) (mf.ext0 ((Ext.refl _ _).alloc _)) s6.out (by omega) (by omega) (by omega) b hb6 hbl6 (S := [wf.heap.size]) ⟨o, df, 0, [x, y], 0⟩ Hrow.out (by intro z hz; have := hxf0.size; simp at hz; omega) (by simp) (by simp [insOk, opers_mid ho1 (show o ≤ 14 by omega)]; omega) (by intro y' hy; simp at hy; rcases hy with rfl | rfl; exact hxl; exact hyl) (by intro v hv; rw [makes_one (by show o ≠ 16; omega) (by show o ≠ 18; omega)] at hv; simp at hv; rw [hv, Hdf.out]; omega) (by rw [makes_one (by show o ≠ 16; omega) (by show o ≠ 18; omega)]; simp)).mono ?_)
        rintro e wl ⟨rfl, al, Fl, stl, gl, _⟩
        refine .inl ⟨_, rfl, ?_⟩
        go_wp2
        go_end0
        exact ⟨rfl, _, _, _, (HG6.out.trans gl).mono (by omega) (by omega)⟩
      · refine s_eff (w' := w6.drew.alloc (.cells #[.int .i64 x, .int .i64 y] 3)) (.slice (some ⟨w6.drew.heap.size, 0, none⟩) 2 2) rfl rfl (by simp [go_sem]) ⟨((Ext.refl [] _).alloc _).cell hBc (by simp), ?_⟩
        simp only [put_lit, put_none, List.set_cons_succ, List.set_cons_zero]
        have hrow0 := lit_ints (w := w6.drew) [x, y] (by simp) (by simp)
        refine s_call (w' := w6.drew.alloc (.cells #[.int .i64 x, .int .i64 y] 3)) rfl rfl (by simp [go_sem]) ((fresh_calls (md.ext0 ((Ext.refl _ _).alloc _)) (by omega) (by omega)).mono ?_)
        rintro e wf ⟨rfl, mf, hxf⟩
        have hxf0 := ((Ext.refl _ _).drew.alloc _).same hxf
        rw [← Hdf.out]
        have HC := hxf.cell (((Ext.refl [] w6.drew).alloc _).cell hBc (by simp)) hbt.2
        refine ⟨_, rfl, HC, ?_⟩
        simp only [put_lit, put_none, List.set_cons_succ, List.set_cons_zero]
        have hrow := hrow0.ext hxf (by intro z hz hz2; have := hFl z hz2; simp at hz; omega)
        have Hrow := Lib.hid hrow
        clear hrow hrow0
        refine rt_quiet (.agg #[.int .i64 o, .int .i64 df, .int .i64 0, .slice (some ⟨w6.drew.heap.size, 0, none⟩) 2 2, .int .i32 0]) rfl rfl (fun W' hC => by simp [go_sem]) ?_
        simp only [put_lit, put_none, List.set_cons_succ, List.set_cons_zero]
        refine fin_call (w' := wf) rfl rfl (by simp [go_sem]) ((addE 1 m6 hxf0 mf s6.out (by omega) (by omega) (by omega) b hb6 hbl6 (S := [w6.drew.heap.size]) ⟨o, df, 0, [x, y], 0⟩ Hrow.out (by intro z hz; simp at hz; omega) (by simp) (by simp [insOk, opers_mid ho1 (show o ≤ 14 by omega)]; omega) (by intro y' hy; simp at hy; rcases hy with rfl | rfl; exact hxl; exact hyl) (by intro v hv; rw [makes_one (by show o ≠ 16; omega) (by show o ≠ 18; omega)] at hv; simp at hv; rw [hv, Hdf.out]; omega) (by rw [makes_one (by show o ≠ 16; omega) (by show o ≠ 18; omega)]; simp)).mono ?_)
        rintro e wl ⟨rfl, al, Fl, stl, gl, _⟩
        refine .inl ⟨_, rfl, ?_⟩
        go_wp2
        go_end0
        exact ⟨rfl, _, _, _, (HG6.out.trans gl).mono (by omega) (by omega)⟩
    · skip
      have e0 : ((k4 : Int) == 0) = false := by simp; omega
      have hnx := s4.out.2.1
      have hbt := Hb4.out
      have hBc : w4.drew.cell? ⟨w1.heap.size, k, none⟩ = some (.int .i64 o) := hbt.1.drew.cell (i := k) Hot.out
      have hFl := m4.lt
      have hxl : x ∈ st3.live := Lx3.out
      have hyl : y ∈ st3.live := Ly3.out
      have md := m4.ext0 ((Ext.refl _ _).drew)
      obtain ⟨df, hdf⟩ : ∃ d, d = st3.next := ⟨_, rfl⟩
      have Hdf := Lib.hid hdf
      clear hdf
      go_wp2
      refine wp_region_rt (fun W => W.cell? ⟨w1.heap.size, k, none⟩ = some (.int .i64 o)) (.q 0 (.q 1 (.q 2 (.q 3 (.q 4 (.q 5 (.q 7 (.q 8 (.b 6 (.e 9 (.q 10 (.fin 11))) 9 (.e 6 (.q 10 (.fin 11)))))))))))) (by kernel_rfl) (by kernel_rfl) hBc ?_
      refine rt_quiet (.pointer (some ⟨q, 0, none⟩)) rfl rfl (fun W' hC => by simp [go_sem]) ?_
      simp only [put_lit, put_none, List.set_cons_succ, List.set_cons_zero]
      refine rt_quiet (.int .i64 (b : Int)) rfl rfl (fun W' hC => by simp [go_sem]) ?_
      simp only [put_lit, put_none, List.set_cons_succ, List.set_cons_zero]
      refine rt_quiet (.int .i64 (k : Int)) rfl rfl (fun W' hC => by simp [go_sem]) ?_
      simp only [put_lit, put_none, List.set_cons_succ, List.set_cons_zero]
      refine rt_quiet (.pointer (some ⟨w1.heap.size, k, none⟩)) rfl rfl (fun W' hC => by simp [go_sem]; intro h; omega) ?_
      simp only [put_lit, put_none, List.set_cons_succ, List.set_cons_zero]
      refine rt_quiet (.int .i64 o) rfl rfl (fun W' hC => by simp [go_sem, hC]) ?_
      simp only [put_lit, put_none, List.set_cons_succ, List.set_cons_zero]
      refine rt_quiet (.pointer (some ⟨q, 0, none⟩)) rfl rfl (fun W' hC => by simp [go_sem]) ?_
      simp only [put_lit, put_none, List.set_cons_succ, List.set_cons_zero]
      refine rt_quiet (.int .i64 x) rfl rfl (fun W' hC => by simp [go_sem]) ?_
      simp only [put_lit, put_none, List.set_cons_succ, List.set_cons_zero]
      refine rt_quiet (.int .i64 y) rfl rfl (fun W' hC => by simp [go_sem]) ?_
      simp only [put_lit, put_none, List.set_cons_succ, List.set_cons_zero]
      refine ⟨?_, ?_⟩
      · refine s_call (w' := w4.drew) rfl rfl (by simp [go_sem]) ((fresh_calls md (by omega) (by omega)).mono ?_)
        rintro e wf ⟨rfl, mf, hxf⟩
        have hxf0 := ((Ext.refl _ _).drew).same hxf
        rw [← Hdf.out]
        have HC := hxf.cell hBc hbt.2
        refine ⟨_, rfl, HC, ?_⟩
        simp only [put_lit, put_none, List.set_cons_succ, List.set_cons_zero]
        refine s_eff (w' := wf.alloc (.cells #[.int .i64 x, .int .i64 y] 3)) (.slice (some ⟨wf.heap.size, 0, none⟩) 2 2) rfl rfl (by simp [go_sem]) ⟨((Ext.refl [] wf).alloc _).cell HC (by simp), ?_⟩
        simp only [put_lit, put_none, List.set_cons_succ, List.set_cons_zero]
        have hrow := lit_ints (w := wf) [x, y] (by simp) (by simp)
        have Hrow := Lib.hid hrow
        clear hrow
        refine rt_quiet (.agg #[.int .i64 o, .int .i64 df, .int .i64 0, .slice (some ⟨wf.heap.size, 0, none⟩) 2 2, .int .i32 0]) rfl rfl (fun W' hC => by simp [go_sem]) ?_
        simp only [put_lit, put_none, List.set_cons_succ, List.set_cons_zero]
        refine fin_call (w' := wf.alloc (.cells #[.int .i64 x, .int .i64 y] 3)) rfl rfl (by simp [go_sem]) ((addE 1 m4 (hxf0.alloc _) (mf.ext0 ((Ext.refl _ _).alloc _)) s4.out (by omega) (by omega) (by omega) b hb3 hbl3 (S := [wf.heap.size]) ⟨o, df, 0, [x, y], 0⟩ Hrow.out (by intro z hz; have := hxf0.size; simp at hz; omega) (by simp) (by simp [insOk, opers_mid ho1 (show o ≤ 14 by omega)]; omega) (by intro y' hy; simp at hy; rcases hy with rfl | rfl; exact hxl; exact hyl) (by intro v hv; rw [makes_one (by show o ≠ 16; omega) (by show o ≠ 18; omega)] at hv; simp at hv; rw [hv, Hdf.out]; omega) (by rw [makes_one (by show o ≠ 16; omega) (by show o ≠ 18; omega)]; simp)).mono ?_)
        rintro e wl ⟨rfl, al, Fl, stl, gl, _⟩
        refine .inl ⟨_, rfl, ?_⟩
        go_wp2
        go_end0
        exact ⟨rfl, _, _, _, (HG4.out.trans gl).mono (by omega) (by omega)⟩
      · refine s_eff (w' := w4.drew.alloc (.cells #[.int .i64 x, .int .i64 y] 3)) (.slice (some ⟨w4.drew.heap.size, 0, none⟩) 2 2) rfl rfl (by simp [go_sem]) ⟨((Ext.refl [] _).alloc _).cell hBc (by simp), ?_⟩
        simp only [put_lit, put_none, List.set_cons_succ, List.set_cons_zero]
        have hrow0 := lit_ints (w := w4.drew) [x, y] (by simp) (by simp)
        refine s_call (w' := w4.drew.alloc (.cells #[.int .i64 x, .int .i64 y] 3)) rfl rfl (by simp [go_sem]) ((fresh_calls (md.ext0 ((Ext.refl _ _).alloc _)) (by omega) (by omega)).mono ?_)
        rintro e wf ⟨rfl, mf, hxf⟩
        have hxf0 := ((Ext.refl _ _).drew.alloc _).same hxf
        rw [← Hdf.out]
        have HC := hxf.cell (((Ext.refl [] w4.drew).alloc _).cell hBc (by simp)) hbt.2
        refine ⟨_, rfl, HC, ?_⟩
        simp only [put_lit, put_none, List.set_cons_succ, List.set_cons_zero]
        have hrow := hrow0.ext hxf (by intro z hz hz2; have := hFl z hz2; simp at hz; omega)
        have Hrow := Lib.hid hrow
        clear hrow hrow0
        refine rt_quiet (.agg #[.int .i64 o, .int .i64 df, .int .i64 0, .slice (some ⟨w4.drew.heap.size, 0, none⟩) 2 2, .int .i32 0]) rfl rfl (fun W' hC => by simp [go_sem]) ?_
        simp only [put_lit, put_none, List.set_cons_succ, List.set_cons_zero]
        refine fin_call (w' := wf) rfl rfl (by simp [go_sem]) ((addE 1 m4 hxf0 mf s4.out (by omega) (by omega) (by omega) b hb3 hbl3 (S := [w4.drew.heap.size]) ⟨o, df, 0, [x, y], 0⟩ Hrow.out (by intro z hz; simp at hz; omega) (by simp) (by simp [insOk, opers_mid ho1 (show o ≤ 14 by omega)]; omega) (by intro y' hy; simp at hy; rcases hy with rfl | rfl; exact hxl; exact hyl) (by intro v hv; rw [makes_one (by show o ≠ 16; omega) (by show o ≠ 18; omega)] at hv; simp at hv; rw [hv, Hdf.out]; omega) (by rw [makes_one (by show o ≠ 16; omega) (by show o ≠ 18; omega)]; simp)).mono ?_)
        rintro e wl ⟨rfl, al, Fl, stl, gl, _⟩
        refine .inl ⟨_, rfl, ?_⟩
        go_wp2
        go_end0
        exact ⟨rfl, _, _, _, (HG4.out.trans gl).mono (by omega) (by omega)⟩
  · -- Ltu
    go_wp2_with fail
    refine (someG m1 s1.out (by omega) b hb hbl).mono ?_
    rintro e w2 ⟨x, a2, F2, st2, rfl, hx, g2⟩
    have hb2 := g2.hb hb
    have hbl2 : st2.blocks.length ≤ 100000 := by rw [g2.gr.len]; exact hbl
    have Lx2 := Lib.hid hx
    have HG2 := Lib.hid (HG1.out.trans g2)
    have m2 := g2.mm
    have s2 := Lib.hid g2.sm
    clear g2 HG1 hx m1 s1
    go_wp2_with fail
    refine (someG m2 s2.out (by omega) b hb2 hbl2).mono ?_
    rintro e w3 ⟨y, a3, F3, st3, rfl, hy, g3⟩
    have hb3 := g3.hb hb2
    have hbl3 : st3.blocks.length ≤ 100000 := by rw [g3.gr.len]; exact hbl2
    have Lx3 := Lib.hid (g3.gr.live Lx2.out)
    have Ly3 := Lib.hid hy
    have HG3 := Lib.hid (HG2.out.trans g3)
    have m3 := g3.mm
    have s3 := Lib.hid g3.sm
    clear g3 HG2 Lx2 hy m2 s2
    have hnx := s3.out.2.1
    go_wp2_with fail
    refine (fresh_calls m3 (by omega) (by omega)).mono ?_
    rintro e wf ⟨rfl, mf, hxf⟩
    obtain ⟨df, hdf⟩ : ∃ d, d = st3.next := ⟨_, rfl⟩
    rw [← hdf]
    have Hdf := Lib.hid hdf
    have hrow := lit_ints (w := wf) [x, y] (by simp) (by simp)
    have Hrow := Lib.hid hrow
    clear hrow hdf
    go_wp2_with fail
    refine (addE 1 m3 (hxf.alloc _) (mf.ext0 ((Ext.refl _ _).alloc _)) s3.out (by omega) (by omega) (by omega) b hb3 hbl3 (S := [wf.heap.size]) ⟨13, df, 0, [x, y], 0⟩ Hrow.out (by intro k hk; have := hxf.size; simp at hk; omega) (by simp) (by simp [insOk, opersF]) (by intro y hy; simp at hy; rcases hy with rfl | rfl; exact Lx3.out; exact Ly3.out) (by intro v hv; simp [makesF] at hv; rw [hv, Hdf.out]; omega) (by simp [makesF])).mono ?_
    rintro e wl ⟨rfl, al, Fl, stl, gl, _⟩
    go_wp2
    go_end0
    exact ⟨rfl, _, _, _, (HG3.out.trans gl).mono (by omega) (by omega)⟩
  · -- Div
    go_wp2_with fail
    refine (someG m1 s1.out (by omega) b hb hbl).mono ?_
    rintro e w2 ⟨x, a2, F2, st2, rfl, hx, g2⟩
    have hb2 := g2.hb hb
    have hbl2 : st2.blocks.length ≤ 100000 := by rw [g2.gr.len]; exact hbl
    have Lx2 := Lib.hid hx
    have HG2 := Lib.hid (HG1.out.trans g2)
    have m2 := g2.mm
    have s2 := Lib.hid g2.sm
    clear g2 HG1 hx m1 s1
    go_wp2_with fail
    refine (takeG m2 s2.out (by omega) b 12 (by omega) (by omega)).mono ?_
    rintro e w3 ⟨k3, a3, hk3, rfl, g3⟩
    have HG3 := Lib.hid (HG2.out.trans g3)
    have m3 := g3.mm
    have s3 := Lib.hid g3.sm
    clear g3 HG2 m2 s2
    go_wp2_with fail
    refine (constE m3 s3.out (by omega) b hb2 hbl2 (k3 : Int)).mono ?_
    rintro e w4 ⟨y, a4, F4, st4, rfl, hy, g4⟩
    have hb4 := g4.hb hb2
    have hbl4 : st4.blocks.length ≤ 100000 := by rw [g4.gr.len]; exact hbl2
    have Lx4 := Lib.hid (g4.gr.live Lx2.out)
    have Ly4 := Lib.hid hy
    have HG4 := Lib.hid (HG3.out.trans g4)
    have m4 := g4.mm
    have s4 := Lib.hid g4.sm
    clear g4 HG3 Lx2 hy m3 s3
    go_wp2_with fail
    refine (takeG m4 s4.out (by omega) b 3 (by omega) (by omega)).mono ?_
    rintro e w5 ⟨k5, a5, hk5, rfl, g5⟩
    have HG5 := Lib.hid (HG4.out.trans g5)
    have m5 := g5.mm
    have s5 := Lib.hid g5.sm
    clear g5 HG4 m4 s4
    by_cases hk0 : k5 = 0
    · skip
      subst hk0
      have hnx := s5.out.2.1
      go_wp2_with fail
      refine (fresh_calls m5 (by omega) (by omega)).mono ?_
      rintro e wf ⟨rfl, mf, hxf⟩
      obtain ⟨df, hdf⟩ : ∃ d, d = st4.next := ⟨_, rfl⟩
      rw [← hdf]
      have Hdf := Lib.hid hdf
      have hrow := lit_ints (w := wf) [x, y] (by simp) (by simp)
      have Hrow := Lib.hid hrow
      clear hrow hdf
      go_wp2_with fail
      refine (addE 1 m5 (hxf.alloc _) (mf.ext0 ((Ext.refl _ _).alloc _)) s5.out (by omega) (by omega) (by omega) b hb4 hbl4 (S := [wf.heap.size]) ⟨14, df, 0, [x, y], 0⟩ Hrow.out (by intro k hk; have := hxf.size; simp at hk; omega) (by simp) (by simp [insOk, opersF]) (by intro y hy; simp at hy; rcases hy with rfl | rfl; exact Lx4.out; exact Ly4.out) (by intro v hv; simp [makesF] at hv; rw [hv, Hdf.out]; omega) (by simp [makesF])).mono ?_
      rintro e wl ⟨rfl, al, Fl, stl, gl, _⟩
      go_wp2
      go_end0
      exact ⟨rfl, _, _, _, (HG5.out.trans gl).mono (by omega) (by omega)⟩
    · skip
      have e0 : decide (0 < (k5 : Int)) = true := by simp; omega
      have e1 : 0 < k5 := by omega
      go_wp2_with fail
      refine (takeG m5 s5.out (by omega) b 12 (by omega) (by omega)).mono ?_
      rintro e w6 ⟨k6, a6, hk6, rfl, g6⟩
      have HG6 := Lib.hid (HG5.out.trans g6)
      have m6 := g6.mm
      have s6 := Lib.hid g6.sm
      clear g6 HG5 m5 s5
      go_wp2_with fail
      refine (constE m6 s6.out (by omega) b hb4 hbl4 _).mono ?_
      rintro e w7 ⟨z, a7, F7, st7, rfl, hz, g7⟩
      have hb7 := g7.hb hb4
      have hbl7 : st7.blocks.length ≤ 100000 := by rw [g7.gr.len]; exact hbl4
      have Lx7 := Lib.hid (g7.gr.live Lx4.out)
      have Ly7 := Lib.hid (g7.gr.live Ly4.out)
      have Lz7 := Lib.hid hz
      have HG7 := Lib.hid (HG6.out.trans g7)
      have m7 := g7.mm
      have s7 := Lib.hid g7.sm
      clear g7 HG6 Lx4 Ly4 hz m6 s6
      have hnx := s7.out.2.1
      go_wp2_with fail
      refine (fresh_calls m7 (by omega) (by omega)).mono ?_
      rintro e wf ⟨rfl, mf, hxf⟩
      obtain ⟨df, hdf⟩ : ∃ d, d = st7.next := ⟨_, rfl⟩
      rw [← hdf]
      have Hdf := Lib.hid hdf
      have hrow := lit_ints (w := wf) [x, z] (by simp) (by simp)
      have Hrow := Lib.hid hrow
      clear hrow hdf
      go_wp2_with fail
      refine (addE 1 m7 (hxf.alloc _) (mf.ext0 ((Ext.refl _ _).alloc _)) s7.out (by omega) (by omega) (by omega) b hb7 hbl7 (S := [wf.heap.size]) ⟨14, df, 0, [x, z], 0⟩ Hrow.out (by intro k hk; have := hxf.size; simp at hk; omega) (by simp) (by simp [insOk, opersF]) (by intro y hy; simp at hy; rcases hy with rfl | rfl; exact Lx7.out; exact Lz7.out) (by intro v hv; simp [makesF] at hv; rw [hv, Hdf.out]; omega) (by simp [makesF])).mono ?_
      rintro e wl ⟨rfl, al, Fl, stl, gl, _⟩
      go_wp2
      go_end0
      exact ⟨rfl, _, _, _, (HG7.out.trans gl).mono (by omega) (by omega)⟩
  · -- memory
    go_wp2_with fail
    refine (memoryG m1 s1.out (by omega) b hb hbl false).mono ?_
    rintro e w2 ⟨rfl, a2, F2, st2, g2⟩
    go_wp2
    go_end0
    exact ⟨rfl, _, _, _, (HG1.out.trans g2).mono (by omega) (by omega)⟩
  · -- memory
    go_wp2_with fail
    refine (memoryG m1 s1.out (by omega) b hb hbl true).mono ?_
    rintro e w2 ⟨rfl, a2, F2, st2, g2⟩
    go_wp2
    go_end0
    exact ⟨rfl, _, _, _, (HG1.out.trans g2).mono (by omega) (by omega)⟩
  · -- Call
    go_wp2_with fail
    have HG1 := Lib.hid (HG1.out.ext0 ((Ext.refl [] w1).alloc (.cells #[] 3)))
    have m1 := m1.ext0 ((Ext.refl [] w1).alloc (.cells #[] 3))
    refine (takeG m1 s1.out (by omega) b 5 (by omega) (by omega)).mono ?_
    rintro e w2 ⟨kk, a2, hkk, rfl, g2⟩
    have HG2 := Lib.hid (HG1.out.trans g2)
    have HR2 := Lib.hid (RowS.start (w0 := w) g2.mm (some ⟨w1.heap.size, 0, none⟩))
    clear g2 HG1 m1 s1
    go_wp2
    go_loopg [12, 14] kk (fun r va vi wr => ∃ (i : Nat) (So : List Nat) (args : List Int) (ai : Nat) (Fi : List Nat) (sti : MSt), vi = .int .i64 (i : Int) ∧ i ≤ kk ∧ Hid (i + r = kk) ∧ Hid (args.length = i) ∧
      Hid (RowS w wr Fi So vs va args sti.live) ∧ Hid (GP w wr q vs vts b i K (2 + 10 * i) F Fi ai st sti))
    case atStart => exact ⟨0, [], [], a2, F, st, rfl, by omega, by simp [Hid], Lib.hid rfl, HR2, Lib.hid (HG2.out.mono (by omega) (by omega))⟩
    case round =>
      obtain ⟨i, So, args, ai, Fi, sti, rfl, hi, HK, hlen, hRow, hGi⟩ := hrel
      have hbi := hGi.out.hb hb
      have hbli : sti.blocks.length ≤ 100000 := by rw [hGi.out.gr.len]; exact hbl
      have mi := hGi.out.mm
      have si := Lib.hid hGi.out.sm
      by_cases hlt : i < kk
      · go_wp2_with fail
        refine (someG mi si.out (by omega) b hbi hbli).mono ?_
        rintro e w3 ⟨y, a3, F3, st3, rfl, hy, g3⟩
        have hRow3 := Lib.hid (hRow.out.step g3.fp fun z hz => g3.gr.live hz)
        have hG3 := Lib.hid (hGi.out.trans g3)
        have hyy := Lib.hid hy
        have hal : args.length ≤ 1073741824 := by have := hlen.out; omega
        obtain ⟨A, cap, hva, hcap⟩ := hRow3.out.row.shape
        subst hva
        have HRS := Lib.hid (hRow3.out.row.ext0 ((Ext.refl [] w3).alloc (.cells #[.int .i64 y] 3)))
        clear g3 hy mi si hRow hGi
        go_wp2_with (at_builtin; refine wpList_append_sl (d := kInt) (ys := [y]) rfl (.tmp 125) (.tmp 129) 22 rfl ei_int rfl HRS.out rfl [.int .i64 y] [[]] elems_one rfl (one_one rfl) (Src.one rfl) (by simp) (le_maxLen hal) (le_bytes hal (by decide)) ?_; intro v' w' S' hs' hx' hf' hn')
        obtain ⟨hR4, hG4⟩ := hRow3.out.app hyy.out (.inr hG3.out.fp.1.size) hG3.out ((Ext.refl [] w3).alloc _) hx' hs' hf' hn'
        have HR4 := Lib.hid hR4
        have HG4 := Lib.hid hG4
        clear hR4 hG4 hs' hx' hf' hn'
        go_roundg (gk - 1)
        case measure => have := HK.out; omega
        case rel =>
          exact ⟨i + 1, S', args ++ [y], a3, F3, st3, by go_num, by omega, by have := HK.out; simp only [Hid]; omega, by have := hlen.out; simp only [Hid] at *; simp [this], HR4, Lib.hid (HG4.out.mono (by omega) (by omega))⟩
      · go_wp2_with fail
        have hnx := si.out.2.1
        have ha := si.out.1
        refine (fresh_calls mi (by omega) (by omega)).mono ?_
        rintro e wf ⟨rfl, mf, hxf⟩
        obtain ⟨df, hdf⟩ : ∃ d, d = sti.next := ⟨_, rfl⟩
        rw [← hdf]
        have Hdf := Lib.hid hdf
        clear hdf
        go_wp2_with fail
        refine (take_calls mf (by omega) 5 (by omega) (by omega)).mono ?_
        rintro e wg ⟨im, him, rfl, mg, hxg⟩
        have hRow4 := Lib.hid (hRow.out.step (F' := Fi) ⟨hxf.same hxg, fun _ h => .inl h⟩ fun z hz => hz)
        have hxx := hxf.same hxg
        obtain ⟨A, cap, hva, hcap⟩ := hRow4.out.row.shape
        subst hva
        go_wp2_with fail
        refine (addR (k := 1) hGi.out hxx mg (by omega) (by omega) (by omega) (by omega) hbi hbli ⟨17, df, 0, args, (im : Int)⟩ hRow4.out (by have := hlen.out; simp [insOk, opersF]; omega) (by intro v hv; simp [makesF] at hv; rw [hv, Hdf.out]; omega) (by simp [makesF])).mono ?_
        rintro e wl ⟨rfl, Fl, gl⟩
        go_wp2
        go_end0
        exact ⟨rfl, _, _, _, gl.mono (by omega) (by omega)⟩
  · -- Mulw
    go_wp2_with fail
    refine (someG m1 s1.out (by omega) b hb hbl).mono ?_
    rintro e w2 ⟨x, a2, F2, st2, rfl, hx, g2⟩
    have hb2 := g2.hb hb
    have hbl2 : st2.blocks.length ≤ 100000 := by rw [g2.gr.len]; exact hbl
    have Lx2 := Lib.hid hx
    have HG2 := Lib.hid (HG1.out.trans g2)
    have m2 := g2.mm
    have s2 := Lib.hid g2.sm
    clear g2 HG1 hx m1 s1
    go_wp2_with fail
    refine (someG m2 s2.out (by omega) b hb2 hbl2).mono ?_
    rintro e w3 ⟨y, a3, F3, st3, rfl, hy, g3⟩
    have hb3 := g3.hb hb2
    have hbl3 : st3.blocks.length ≤ 100000 := by rw [g3.gr.len]; exact hbl2
    have Lx3 := Lib.hid (g3.gr.live Lx2.out)
    have Ly3 := Lib.hid hy
    have HG3 := Lib.hid (HG2.out.trans g3)
    have m3 := g3.mm
    have s3 := Lib.hid g3.sm
    clear g3 HG2 Lx2 hy m2 s2
    have hnx := s3.out.2.1
    go_wp2_with fail
    refine (fresh_calls m3 (by omega) (by omega)).mono ?_
    rintro e wf ⟨rfl, mf, hxf⟩
    obtain ⟨df, hdf⟩ : ∃ d, d = st3.next := ⟨_, rfl⟩
    rw [← hdf]
    have Hdf := Lib.hid hdf
    clear hdf
    go_wp2_with fail
    refine (fresh_calls mf (by show 0 ≤ st3.next + 1; omega) (by show st3.next + 1 ≤ _; omega)).mono ?_
    rintro e wg ⟨rfl, mg, hxg⟩
    obtain ⟨dg, hdg⟩ : ∃ d, d = st3.fresh.next := ⟨_, rfl⟩
    rw [← hdg]
    have Hdg : Hid (dg = st3.next + 1) := hdg
    have hrow := lit_ints (w := wg) [x, y] (by simp) (by simp)
    have Hrow := Lib.hid hrow
    have mg2 : MkE wg q vs F3 a3 { st3 with next := st3.next + 2 } vts := by
      have e : st3.fresh.fresh = { st3 with next := st3.next + 2 } := by simp only [MSt.fresh]; congr 1; omega
      rw [← e]; exact mg
    clear hrow hdg
    go_wp2_with fail
    refine (addE 2 m3 ((hxf.same hxg).alloc _) (mg2.ext0 ((Ext.refl _ _).alloc _)) s3.out (by omega) (by omega) (by omega) b hb3 hbl3 (S := [wg.heap.size]) ⟨18, df, dg, [x, y], 0⟩ Hrow.out (by intro k hk; have := hxf.size; have := hxg.size; simp at hk; omega) (by simp) (by simp [insOk, opersF]) (by intro y' hy; simp at hy; rcases hy with rfl | rfl; exact Lx3.out; exact Ly3.out) (by intro v hv; simp [makesF] at hv; rcases hv with rfl | rfl; (rw [Hdf.out]; omega); (rw [Hdg.out]; omega)) (by simp [makesF]; rw [Hdf.out, Hdg.out]; omega)).mono ?_
    rintro e wl ⟨rfl, al, Fl, stl, gl, _⟩
    go_wp2
    go_end0
    exact ⟨rfl, _, _, _, (HG3.out.trans gl).mono (by omega) (by omega)⟩
  · -- Const
    have n0 : ¬ k < 12 := by omega
    have n1 : ¬ (k : Int) = 12 := by omega
    have n2 : ¬ (k : Int) = 13 := by omega
    have n3 : ¬ k < 16 := by omega
    have n4 : ¬ (k : Int) = 16 := by omega
    have n5 : ¬ (k : Int) = 17 := by omega
    have e1 : ((k : Int) == 12) = false := by simp; omega
    have e2 : ((k : Int) == 13) = false := by simp; omega
    have e4 : ((k : Int) == 16) = false := by simp; omega
    have e5 : ((k : Int) == 17) = false := by simp; omega
    have d0 : decide ((k : Int) < 12) = false := by simp; omega
    have d3 : decide ((k : Int) < 16) = false := by simp; omega
    go_wp2_with fail
    refine (wordG m1 s1.out (by omega) b).mono ?_
    rintro e w2 ⟨imm, a2, rfl, g2⟩
    have HG2 := Lib.hid (HG1.out.trans g2)
    have m2 := g2.mm
    have s2 := Lib.hid g2.sm
    clear g2 HG1 m1 s1
    go_wp2_with fail
    refine (constE m2 s2.out (by omega) b hb hbl imm).mono ?_
    rintro e wl ⟨v, al, Fl, stl, rfl, _, gl⟩
    go_wp2
    go_end0
    exact ⟨rfl, _, _, _, (HG2.out.trans gl).mono (by omega) (by omega)⟩
end Go.Proofs.Ytkmgbejhbkbaoaa

/- The maker of functions: rows of numbers beside it; where each block leads. -/
namespace Go.Proofs.Ytkmgbejhbkbaoaa
set_option linter.unusedSimpArgs false
set_option linter.unusedVariables false
open Go.RowKit

abbrev kRowI : Kd (List Int) := kSl 3 kInt
/-- rows of numbers, made since w, beside the maker, which has taken numbers alone -/
structure TI (w w' : World) (q : Nat) (vs : Value) (F : List Nat) (a : Nat) (st : MSt) (vts : List Value) (S : List Nat) (v : Value) (R : List (List Int)) : Prop where
  mm : MkE w' q vs F a st vts
  ext : Ext F w w'
  rows : SlR kRowI 22 w' S v R
  off : ∀ k ∈ S, k ∉ F
  nd : S.Nodup
  rd : RdS w' (F ++ S) vs
  new : ∀ k ∈ S, w.heap.size ≤ k
section
variable {w w' w1 : World} {q : Nat} {vs : Value} {F : List Nat} {a a1 a2 : Nat} {st : MSt} {vts : List Value} {S S2 : List Nat} {v : Value} {R : List (List Int)}
theorem TI.take (h : TI w w' q vs F a1 st vts S v R) (hm : MkE w1 q vs F a2 st vts) (hx : Ext F w' w1) : TI w w1 q vs F a2 st vts S v R :=
  ⟨hm, h.ext.same hx, h.rows.ext hx h.off, h.off, h.nd, h.rd.step ⟨hx.mono fun k hk => .inl (by simp [hk]), fun k hk => .inl hk⟩, h.new⟩
theorem TI.own (h : TI w w' q vs F a1 st vts S v R) {v2 : Value} {R2 : List (List Int)} (hx : FpStep S w' w1 S2) (hr : SlR kRowI 22 w1 S2 v2 R2) (hn : S2.Nodup) : TI w w1 q vs F a1 st vts S2 v2 R2 := by
  have hsz := h.ext.size
  have hlt := h.mm.lt
  have hrd : RdS w1 (F ++ S2) vs := h.rd.step ⟨hx.1.mono fun k hk => .inl (by simp [hk]), fun k hk => by
    rcases List.mem_append.1 hk with h1 | h1
    · exact .inl (by simp [h1])
    · exact (hx.2 k h1).imp (fun h2 => by simp [h2]) id⟩
  refine ⟨h.mm.extM hx.1 h.off (hrd.sub (by intro k hk; simp [hk])), h.ext.trans hx.1 fun k hk => .inr (h.new k hk), hr, fun k hk hk2 => ?_, hn, hrd, fun k hk => ?_⟩
  · rcases hx.2 k hk with h1 | h1
    · exact h.off k h1 hk2
    · have := hlt k hk2; omega
  · rcases hx.2 k hk with h1 | h1
    · exact h.new k h1
    · omega
end
theorem rows_put {W w1 w' : World} {S Si S' : List Nat} {g cap k : Nat} {R : List (List Int)} {cs : List Value} {A' : Option Addr} {c' : Nat} {L : List Int} (hat : SlAt kRowI 22 W S g cap R k Si cs) (hn : S.Nodup) (hxa : Ext [] W w1) (hx' : Ext Si w1 w')
    (hs' : SlR kInt 3 w' S' (.slice A' L.length c') L) (hf' : ∀ j ∈ S', j ∈ Si ∨ j = w1.heap.size ∨ j ∈ ([] : List Nat)) (hn' : Si.Nodup → ([] : List Nat).Nodup → S'.Nodup) :
    ∃ S2, SlR kRowI 22 (w'.setCell ⟨g, k, none⟩ (.slice A' L.length c')) S2 (.slice (some ⟨g, 0, none⟩) R.length cap) (R.set k L) ∧ FpStep S W (w'.setCell ⟨g, k, none⟩ (.slice A' L.length c')) S2 ∧ S2.Nodup := by
  have hsz := hxa.size
  have hlt := hat.lt
  have hxx : Ext Si W w' := (hxa.mono (by simp)).same hx'
  have hne := hat.notin
  have hS'1 : ∀ j ∈ S', j ∈ Si ∨ W.heap.size ≤ j := fun j hj => by
    rcases hf' j hj with h3 | h3 | h3
    · exact .inl h3
    · exact .inr (by omega)
    · cases h3
  have hgS' : g ∉ S' := fun h3 => by
    rcases hS'1 _ h3 with h4 | h4
    · exact hne h4
    · omega
  obtain ⟨vv, hcs, hrow⟩ := hat.rep
  have hset : cs.set 0 (.slice A' L.length c') = [.slice A' L.length c'] := by rw [hcs]; rfl
  obtain ⟨S2, p1, p2, p3, p4⟩ := hat.put hn (w1 := w') hxx 0 (by decide) (.slice A' L.length c') (x' := L) (Sx := S')
    ⟨_, hset, hs'.move fun j hj => Below.heap_setCell w' _ _ j (fun h4 => hgS' (Eq.subst (motive := fun z => z ∈ S') (show j = g from h4) hj))⟩ hS'1
  simp only [kRowI, kSl, Nat.mul_one, Nat.add_zero] at p1 p4
  exact ⟨S2, p1, ⟨p4, p2⟩, p3 (hn' (hat.nodup hn) (by simp))⟩

/-! ### plain: the rows -/
def TR (n m c : Nat) (R : List (List Int)) : Prop :=
  R.length = n ∧ (∀ r ∈ R, r.length ≤ m) ∧ (∀ r ∈ R, ∀ t ∈ r, 1 ≤ t ∧ t < (n : Int)) ∧ ∀ b : Nat, 1 ≤ b → b < c → ∃ p, ∃ h : p < R.length, p < b ∧ (b : Int) ∈ R[p]
theorem TR.mono {n m m' c : Nat} {R : List (List Int)} (h : TR n m c R) (hm : m ≤ m') : TR n m' c R := ⟨h.1, fun r hr => Nat.le_trans (h.2.1 r hr) hm, h.2.2⟩
theorem TR.set {n m c p : Nat} {R : List (List Int)} (h : TR n m c R) (hp : p < R.length) {t : Int} (h1 : 1 ≤ t) (h2 : t < (n : Int)) : TR n (m + 1) c (R.set p (R[p] ++ [t])) := by
  refine ⟨by rw [List.length_set]; exact h.1, fun r hr => ?_, fun r hr x hx => ?_, fun b hb hc => ?_⟩
  · rcases List.mem_or_eq_of_mem_set hr with h3 | rfl
    · have := h.2.1 r h3; omega
    · have := h.2.1 _ (List.getElem_mem hp); simp; exact this
  · rcases List.mem_or_eq_of_mem_set hr with h3 | rfl
    · exact h.2.2.1 r h3 x hx
    · simp only [List.mem_append, List.mem_singleton] at hx
      rcases hx with hx | rfl
      · exact h.2.2.1 _ (List.getElem_mem hp) x hx
      · exact ⟨h1, h2⟩
  · obtain ⟨p', hp', hlt, hm⟩ := h.2.2.2 b hb hc
    refine ⟨p', by rw [List.length_set]; exact hp', hlt, ?_⟩
    rw [List.getElem_set]
    split
    · rename_i he; subst he; simp [hm]
    · exact hm
theorem TR.next {n m c p : Nat} {R : List (List Int)} (h : TR n m c R) (hp : p < R.length) (hc0 : 1 ≤ c) (hc : c < n) (hpc : p < c) : TR n (m + 1) (c + 1) (R.set p (R[p] ++ [(c : Int)])) := by
  have h' := h.set hp (t := (c : Int)) (by omega) (by omega)
  refine ⟨h'.1, h'.2.1, h'.2.2.1, fun b hb hlt => ?_⟩
  by_cases hbc : b < c
  · exact h'.2.2.2 b hb hbc
  · have : b = c := by omega
    subst this
    exact ⟨p, by rw [List.length_set]; exact hp, hpc, by rw [List.getElem_set_self]; simp⟩

def TgtG (w : World) (q : Nat) (vs : Value) (F : List Nat) (a : Nat) (st : MSt) (vts : List Value) (n : Nat) (e : Ending) (w' : World) : Prop :=
  ∃ (v : Value) (S : List Nat) (R : List (List Int)) (a' : Nat), e = .returned v ∧ a' ≤ a + 10 * n ∧ TI w w' q vs F a' st vts S v R ∧ TR n (3 * n) n R
set_option maxRecDepth 20000 in
set_option maxHeartbeats 6400000 in
theorem targets_calls {w : World} {q : Nat} {vs : Value} {F : List Nat} {a : Nat} {st : MSt} {vts : List Value} (h : MkE w q vs F a st vts) (ha : a ≤ 900000) (n : Nat) (h0 : 0 < n) (h1 : n ≤ 1000) :
    Calls Try.prog 20 #[.pointer (some ⟨q, 0, none⟩), .int .i64 (n : Int)] w (TgtG w q vs F a st vts n) := by
  have hmk := run_make_eq Try.underlying33 Try.info22 rfl n n (by simp) (by omega) (by decide)
  go_enter Try.func20, Try.ntmps20
  go_wp2
  clear hmk
  obtain ⟨So0, hs0, hf0, hn0⟩ := slr_made (d := kRowI) (e := 22) (w := w) (zc := #[.slice none 0 0]) (x := []) n n (by simp [kRowI, kSl]) (by omega) rfl (by decide) (fun w => ⟨_, rfl, SlR.nil _ _ _⟩)
  have hrd0 : RdS (w.alloc (.cells (madeCells #[.slice none 0 0] n) 22)) (F ++ So0) vs := h.rd.wider ((Ext.refl _ _).alloc _) (fun k hk => by have := hf0 k hk; omega)
  have hT0 : Hid (TI w (w.alloc (.cells (madeCells #[.slice none 0 0] n) 22)) q vs F a st vts So0 (.slice (some ⟨w.heap.size, 0, none⟩) n n) (List.replicate n [])) :=
    ⟨h.ext0 ((Ext.refl _ _).alloc _), (Ext.refl _ _).alloc _, hs0, fun k hk h2 => by have := hf0 k hk; have := h.lt k h2; omega, hn0, hrd0, fun k hk => by have := hf0 k hk; omega⟩
  have hR0 : Hid (TR n 0 1 (List.replicate n [])) := ⟨by simp, by intro r hr; rw [List.eq_of_mem_replicate hr]; simp, by intro r hr; rw [List.eq_of_mem_replicate hr]; simp, fun b hb hc => by omega⟩
  clear hs0 hf0 hn0 hrd0 h
  go_loopg [6] n (fun r vi wr => ∃ (i : Nat) (S : List Nat) (R : List (List Int)) (ai : Nat), vi = .int .i64 (i : Int) ∧ 1 ≤ i ∧ i ≤ n ∧ Hid (i + r = n + 1) ∧ Hid (ai ≤ a + 2 * i) ∧
    Hid (TI w wr q vs F ai st vts S (.slice (some ⟨w.heap.size, 0, none⟩) n n) R) ∧ Hid (TR n i i R))
  case atStart => exact ⟨1, So0, _, a, rfl, by omega, by omega, by simp only [Hid]; omega, by simp only [Hid]; omega, hT0, hR0.out.mono (by omega)⟩
  case round =>
    obtain ⟨i, S, R, ai, rfl, hi1, hi2, HK, hai, hT, hR⟩ := hrel
    by_cases hlt : i < n
    · have ha0 := hai.out
      go_wp2_with fail
      refine (take_calls hT.out.mm (by omega) 3 (by omega) (by omega)).mono ?_
      rintro e w1 ⟨x, hx, rfl, m1, hx1⟩
      have hT1 := Lib.hid (hT.out.take m1 hx1)
      clear hT m1 hx1
      by_cases hx0 : x = 0
      · subst hx0
        go_wp2_with fail
        refine (take_calls hT1.out.mm (by omega) (i : Int) (by omega) (by omega)).mono ?_
        rintro e w2 ⟨p, hp, rfl, m2, hx2⟩
        have hT2 := Lib.hid (hT1.out.take m2 hx2)
        clear hT1 m2 hx2
        have hkR : p < R.length := (by have := hR.out.1; omega)
        obtain ⟨g, cap, Si, cs, hv, hat⟩ := hT2.out.rows.at p hkR
        have hRl := hR.out.1
        rw [hRl] at hv
        cases hv
        obtain ⟨L, hL⟩ : ∃ L, L = R[p]'(hkR) := ⟨_, rfl⟩
        have HL := Lib.hid hL
        have hll := hR.out.2.1 (R[p]'(hkR)) (List.getElem_mem _)
        rw [← hL] at hll
        obtain ⟨vv, rfl, hrow0⟩ := hat.rep
        have hrow : SlR kInt 3 w2 Si vv L := by rw [hL]; exact hrow0
        clear hrow0
        obtain ⟨Ar, cr, rfl, _⟩ := hrow.shape
        have c1 := hat.cell 0 rfl
        have f1 := hat.frozen p
        simp only [kRowI, kSl, Nat.mul_one, Nat.add_zero] at c1
        have hkn : p < n := by omega
        have hlm : L.length ≤ 1073741824 := by omega
        have Hat := Lib.hid hat
        have HRl := Lib.hid hRl
        have hne := hat.notin
        have hltg := hat.lt
        have HR0 := Lib.hid (hrow.ext0 ((Ext.refl [] w2).alloc (.cells #[.int .i64 (i : Int)] 3)))
        clear hat hRl hrow hL
        go_wp2_with (at_builtin; refine wpList_append_sl (d := kInt) (ys := [(i : Int)]) rfl (.tmp 32) (.tmp 34) 22 rfl ei_int rfl HR0.out rfl [.int .i64 (i : Int)] [[]] elems_one rfl (one_one rfl) (Src.one rfl) (by simp) (le_maxLen hlm) (le_bytes hlm (by decide)) ?_; intro v' w' S' hs' hx' hf' hn'; obtain ⟨A', c', rfl, _⟩ := hs'.shape; have hxx : Ext Si w2 w' := (((Ext.refl [] w2).alloc _).mono (by simp)).same hx'; have e1 := hxx.cell c1 hne; have e2 : w'.frozen? ⟨w.heap.size, p, none⟩ = false := by rw [hxx.frozen (p := ⟨w.heap.size, p, none⟩) hltg hne]; exact f1)
        obtain ⟨S2, hp1, hp2, hp3⟩ := rows_put Hat.out hT2.out.nd ((Ext.refl [] w2).alloc _) hx' hs' hf' hn'
        rw [HRl.out] at hp1
        have hT9 := Lib.hid (hT2.out.own hp2 hp1 hp3)
        simp only [List.length_append, List.length_cons, List.length_nil, Nat.zero_add] at hT9
        clear hp1 hp2 hp3 hs' hx' hf' hn'
        go_roundg (gk - 1)
        case measure => have := HK.out; omega
        case rel =>
          refine ⟨i + 1, S2, R.set p (L ++ [(i : Int)]), ai + 1 + 1, by go_num, by omega, by omega, by have := HK.out; simp only [Hid]; omega, by have := hai.out; simp only [Hid]; omega, hT9, ?_⟩
          rw [Hid, HL.out]
          exact (hR.out.next hkR (by omega) (by omega) (by omega))
      · have e0 : ((x : Int) == 0) = false := by simp; omega
        have ei : (i : Int) - 1 = ((i - 1 : Nat) : Int) := by omega
        obtain ⟨p, hp⟩ : ∃ p, p = i - 1 := ⟨_, rfl⟩
        rw [← hp] at ei
        have hpi : p < i := by omega
        clear hp
        have hkR : p < R.length := (by have := hR.out.1; omega)
        obtain ⟨g, cap, Si, cs, hv, hat⟩ := hT1.out.rows.at p hkR
        have hRl := hR.out.1
        rw [hRl] at hv
        cases hv
        obtain ⟨L, hL⟩ : ∃ L, L = R[p]'(hkR) := ⟨_, rfl⟩
        have HL := Lib.hid hL
        have hll := hR.out.2.1 (R[p]'(hkR)) (List.getElem_mem _)
        rw [← hL] at hll
        obtain ⟨vv, rfl, hrow0⟩ := hat.rep
        have hrow : SlR kInt 3 w1 Si vv L := by rw [hL]; exact hrow0
        clear hrow0
        obtain ⟨Ar, cr, rfl, _⟩ := hrow.shape
        have c1 := hat.cell 0 rfl
        have f1 := hat.frozen p
        simp only [kRowI, kSl, Nat.mul_one, Nat.add_zero] at c1
        have hkn : p < n := by omega
        have hlm : L.length ≤ 1073741824 := by omega
        have Hat := Lib.hid hat
        have HRl := Lib.hid hRl
        have hne := hat.notin
        have hltg := hat.lt
        have HR0 := Lib.hid (hrow.ext0 ((Ext.refl [] w1).alloc (.cells #[.int .i64 (i : Int)] 3)))
        clear hat hRl hrow hL
        go_wp2_with (at_builtin; refine wpList_append_sl (d := kInt) (ys := [(i : Int)]) rfl (.tmp 32) (.tmp 34) 22 rfl ei_int rfl HR0.out rfl [.int .i64 (i : Int)] [[]] elems_one rfl (one_one rfl) (Src.one rfl) (by simp) (le_maxLen hlm) (le_bytes hlm (by decide)) ?_; intro v' w' S' hs' hx' hf' hn'; obtain ⟨A', c', rfl, _⟩ := hs'.shape; have hxx : Ext Si w1 w' := (((Ext.refl [] w1).alloc _).mono (by simp)).same hx'; have e1 := hxx.cell c1 hne; have e2 : w'.frozen? ⟨w.heap.size, p, none⟩ = false := by rw [hxx.frozen (p := ⟨w.heap.size, p, none⟩) hltg hne]; exact f1)
        obtain ⟨S2, hp1, hp2, hp3⟩ := rows_put Hat.out hT1.out.nd ((Ext.refl [] w1).alloc _) hx' hs' hf' hn'
        rw [HRl.out] at hp1
        have hT9 := Lib.hid (hT1.out.own hp2 hp1 hp3)
        simp only [List.length_append, List.length_cons, List.length_nil, Nat.zero_add] at hT9
        clear hp1 hp2 hp3 hs' hx' hf' hn'
        go_roundg (gk - 1)
        case measure => have := HK.out; omega
        case rel =>
          refine ⟨i + 1, S2, R.set p (L ++ [(i : Int)]), ai + 1, by go_num, by omega, by omega, by have := HK.out; simp only [Hid]; omega, by have := hai.out; simp only [Hid]; omega, hT9, ?_⟩
          rw [Hid, HL.out]
          exact (hR.out.next hkR (by omega) (by omega) (by omega))
    · have hie : i = n := by omega
      subst hie
      have hR1 : Hid (TR i (i + 2 * 0) i R) := hR.out.mono (by omega)
      have hai1 : Hid (ai ≤ a + 2 * i + 5 * 0) := by have := hai.out; simp only [Hid]; omega
      clear hR hai HK
      go_wp2
      go_loopg [8] i (fun r vi wr => ∃ (k : Nat) (S : List Nat) (R : List (List Int)) (ai : Nat), vi = .int .i64 (k : Int) ∧ k ≤ i ∧ Hid (k + r = i) ∧ Hid (ai ≤ a + 2 * i + 5 * k) ∧
        Hid (TI w wr q vs F ai st vts S (.slice (some ⟨w.heap.size, 0, none⟩) i i) R) ∧ Hid (TR i (i + 2 * k) i R))
      case atStart => exact ⟨0, S, R, ai, rfl, by omega, by simp only [Hid]; omega, hai1, hT, hR1⟩
      case round =>
        clear hT hR1 hai1
        obtain ⟨k, S, R, ai, rfl, hk, HK, hai, hT, hR⟩ := hrel
        obtain ⟨q2, hq2⟩ : ∃ x, x = gk := ⟨_, rfl⟩
        subst hq2
        obtain ⟨wr2, hwr2⟩ : ∃ x, x = wr := ⟨_, rfl⟩
        subst hwr2
        by_cases hlt : k < i
        · have ha0 := hai.out
          go_wp2_with fail
          refine (take_calls hT.out.mm (by omega) 6 (by omega) (by omega)).mono ?_
          rintro e w1 ⟨x, hx, rfl, m1, hx1⟩
          have hT1 := Lib.hid (hT.out.take m1 hx1)
          have hai1 : Hid (ai + 1 ≤ a + 2 * i + 5 * k + 1 + 2 * 0) := by simp only [Hid]; omega
          have hR1 : Hid (TR i (i + 2 * k + 0) i R) := hR.out
          clear hT m1 hx1 hai hR
          go_wp2
          go_loopg [10] 2 (fun r vi wr => ∃ (j : Nat) (S : List Nat) (R : List (List Int)) (ai : Nat), vi = .int .i64 (j : Int) ∧ j ≤ 2 ∧ Hid (j + r = 2) ∧ Hid (ai ≤ a + 2 * i + 5 * k + 1 + 2 * j) ∧
            Hid (TI w wr q vs F ai st vts S (.slice (some ⟨w.heap.size, 0, none⟩) i i) R) ∧ Hid (TR i (i + 2 * k + j) i R))
          case atStart => exact ⟨0, S, R, ai + 1, rfl, by omega, by simp only [Hid], hai1, hT1, hR1⟩
          case round =>
            clear hT1 hR1 hai1 ha0
            obtain ⟨j, S, R, ai, rfl, hj, HJ, hai, hT, hR⟩ := hrel
            obtain ⟨q3, hq3⟩ : ∃ x, x = gk := ⟨_, rfl⟩
            subst hq3
            have ha0 := hai.out
            by_cases hjl : (j : Int) < (x : Int) - 3
            · have hj2 : j < 2 := by omega
              by_cases hi1 : 1 < i
              · have ei2 : decide (1 < (i : Int)) = true := by simp; omega
                go_wp2_with fail
                refine (take_calls hT.out.mm (by omega) ((i : Int) - 1) (by omega) (by omega)).mono ?_
                rintro e w2 ⟨y, hy, rfl, m2, hx2⟩
                have hT2 := Lib.hid (hT.out.take m2 hx2)
                clear hT m2 hx2
                by_cases hyk : 1 + (y : Int) ≤ (k : Int)
                · go_wp2_with fail
                  refine (take_calls hT2.out.mm (by omega) 2 (by omega) (by omega)).mono ?_
                  rintro e w3 ⟨z, hz, rfl, m3, hx3⟩
                  have hT3 := Lib.hid (hT2.out.take m3 hx3)
                  clear hT2 m3 hx3
                  by_cases hz0 : z = 0
                  · subst hz0
                    have hkR : k < R.length := (by have := hR.out.1; omega)
                    obtain ⟨g, cap, Si, cs, hv, hat⟩ := hT3.out.rows.at k hkR
                    have hRl := hR.out.1
                    rw [hRl] at hv
                    cases hv
                    obtain ⟨L, hL⟩ : ∃ L, L = R[k]'(hkR) := ⟨_, rfl⟩
                    have HL := Lib.hid hL
                    have hll := hR.out.2.1 (R[k]'(hkR)) (List.getElem_mem _)
                    rw [← hL] at hll
                    obtain ⟨vv, rfl, hrow0⟩ := hat.rep
                    have hrow : SlR kInt 3 w3 Si vv L := by rw [hL]; exact hrow0
                    clear hrow0
                    obtain ⟨Ar, cr, rfl, _⟩ := hrow.shape
                    have c1 := hat.cell 0 rfl
                    have f1 := hat.frozen k
                    simp only [kRowI, kSl, Nat.mul_one, Nat.add_zero] at c1
                    have hkn : k < i := by omega
                    have hlm : L.length ≤ 1073741824 := by omega
                    have Hat := Lib.hid hat
                    have HRl := Lib.hid hRl
                    have hne := hat.notin
                    have hltg := hat.lt
                    have HR0 := Lib.hid (hrow.ext0 ((Ext.refl [] w3).alloc (.cells #[.int .i64 (min ((k : Int) + 1) ((i : Int) - 1))] 3)))
                    clear hat hRl hrow hL
                    go_wp2_with (at_builtin; refine wpList_append_sl (d := kInt) (ys := [(min ((k : Int) + 1) ((i : Int) - 1))]) rfl (.tmp 77) (.tmp 79) 22 rfl ei_int rfl HR0.out rfl [.int .i64 (min ((k : Int) + 1) ((i : Int) - 1))] [[]] elems_one rfl (one_one rfl) (Src.one rfl) (by simp) (le_maxLen hlm) (le_bytes hlm (by decide)) ?_; intro v' w' S' hs' hx' hf' hn'; obtain ⟨A', c', rfl, _⟩ := hs'.shape; have hxx : Ext Si w3 w' := (((Ext.refl [] w3).alloc _).mono (by simp)).same hx'; have e1 := hxx.cell c1 hne; have e2 : w'.frozen? ⟨w.heap.size, k, none⟩ = false := by rw [hxx.frozen (p := ⟨w.heap.size, k, none⟩) hltg hne]; exact f1)
                    obtain ⟨S2, hp1, hp2, hp3⟩ := rows_put Hat.out hT3.out.nd ((Ext.refl [] w3).alloc _) hx' hs' hf' hn'
                    rw [HRl.out] at hp1
                    have hT9 := Lib.hid (hT3.out.own hp2 hp1 hp3)
                    simp only [List.length_append, List.length_cons, List.length_nil, Nat.zero_add] at hT9
                    clear hp1 hp2 hp3 hs' hx' hf' hn'
                    go_roundg (q3 - 1)
                    case measure => have := HJ.out; omega
                    case rel =>
                      refine ⟨j + 1, S2, R.set k (L ++ [(min ((k : Int) + 1) ((i : Int) - 1))]), (ai + 1 + 1), by go_num, by omega, by have := HJ.out; simp only [Hid]; omega, by simp only [Hid]; omega, hT9, ?_⟩
                      rw [Hid, HL.out]
                      exact hR.out.set hkR (by omega) (by omega)
                  · have ez : ((z : Int) == 0) = false := by simp; omega
                    have hkR : k < R.length := (by have := hR.out.1; omega)
                    obtain ⟨g, cap, Si, cs, hv, hat⟩ := hT3.out.rows.at k hkR
                    have hRl := hR.out.1
                    rw [hRl] at hv
                    cases hv
                    obtain ⟨L, hL⟩ : ∃ L, L = R[k]'(hkR) := ⟨_, rfl⟩
                    have HL := Lib.hid hL
                    have hll := hR.out.2.1 (R[k]'(hkR)) (List.getElem_mem _)
                    rw [← hL] at hll
                    obtain ⟨vv, rfl, hrow0⟩ := hat.rep
                    have hrow : SlR kInt 3 w3 Si vv L := by rw [hL]; exact hrow0
                    clear hrow0
                    obtain ⟨Ar, cr, rfl, _⟩ := hrow.shape
                    have c1 := hat.cell 0 rfl
                    have f1 := hat.frozen k
                    simp only [kRowI, kSl, Nat.mul_one, Nat.add_zero] at c1
                    have hkn : k < i := by omega
                    have hlm : L.length ≤ 1073741824 := by omega
                    have Hat := Lib.hid hat
                    have HRl := Lib.hid hRl
                    have hne := hat.notin
                    have hltg := hat.lt
                    have HR0 := Lib.hid (hrow.ext0 ((Ext.refl [] w3).alloc (.cells #[.int .i64 (1 + (y : Int))] 3)))
                    clear hat hRl hrow hL
                    go_wp2_with (at_builtin; refine wpList_append_sl (d := kInt) (ys := [(1 + (y : Int))]) rfl (.tmp 77) (.tmp 79) 22 rfl ei_int rfl HR0.out rfl [.int .i64 (1 + (y : Int))] [[]] elems_one rfl (one_one rfl) (Src.one rfl) (by simp) (le_maxLen hlm) (le_bytes hlm (by decide)) ?_; intro v' w' S' hs' hx' hf' hn'; obtain ⟨A', c', rfl, _⟩ := hs'.shape; have hxx : Ext Si w3 w' := (((Ext.refl [] w3).alloc _).mono (by simp)).same hx'; have e1 := hxx.cell c1 hne; have e2 : w'.frozen? ⟨w.heap.size, k, none⟩ = false := by rw [hxx.frozen (p := ⟨w.heap.size, k, none⟩) hltg hne]; exact f1)
                    obtain ⟨S2, hp1, hp2, hp3⟩ := rows_put Hat.out hT3.out.nd ((Ext.refl [] w3).alloc _) hx' hs' hf' hn'
                    rw [HRl.out] at hp1
                    have hT9 := Lib.hid (hT3.out.own hp2 hp1 hp3)
                    simp only [List.length_append, List.length_cons, List.length_nil, Nat.zero_add] at hT9
                    clear hp1 hp2 hp3 hs' hx' hf' hn'
                    go_roundg (q3 - 1)
                    case measure => have := HJ.out; omega
                    case rel =>
                      refine ⟨j + 1, S2, R.set k (L ++ [(1 + (y : Int))]), (ai + 1 + 1), by go_num, by omega, by have := HJ.out; simp only [Hid]; omega, by simp only [Hid]; omega, hT9, ?_⟩
                      rw [Hid, HL.out]
                      exact hR.out.set hkR (by omega) (by omega)
                · have eyk : decide (1 + (y : Int) ≤ (k : Int)) = false := by simp; omega
                  have hkR : k < R.length := (by have := hR.out.1; omega)
                  obtain ⟨g, cap, Si, cs, hv, hat⟩ := hT2.out.rows.at k hkR
                  have hRl := hR.out.1
                  rw [hRl] at hv
                  cases hv
                  obtain ⟨L, hL⟩ : ∃ L, L = R[k]'(hkR) := ⟨_, rfl⟩
                  have HL := Lib.hid hL
                  have hll := hR.out.2.1 (R[k]'(hkR)) (List.getElem_mem _)
                  rw [← hL] at hll
                  obtain ⟨vv, rfl, hrow0⟩ := hat.rep
                  have hrow : SlR kInt 3 w2 Si vv L := by rw [hL]; exact hrow0
                  clear hrow0
                  obtain ⟨Ar, cr, rfl, _⟩ := hrow.shape
                  have c1 := hat.cell 0 rfl
                  have f1 := hat.frozen k
                  simp only [kRowI, kSl, Nat.mul_one, Nat.add_zero] at c1
                  have hkn : k < i := by omega
                  have hlm : L.length ≤ 1073741824 := by omega
                  have Hat := Lib.hid hat
                  have HRl := Lib.hid hRl
                  have hne := hat.notin
                  have hltg := hat.lt
                  have HR0 := Lib.hid (hrow.ext0 ((Ext.refl [] w2).alloc (.cells #[.int .i64 (1 + (y : Int))] 3)))
                  clear hat hRl hrow hL
                  go_wp2_with (at_builtin; refine wpList_append_sl (d := kInt) (ys := [(1 + (y : Int))]) rfl (.tmp 77) (.tmp 79) 22 rfl ei_int rfl HR0.out rfl [.int .i64 (1 + (y : Int))] [[]] elems_one rfl (one_one rfl) (Src.one rfl) (by simp) (le_maxLen hlm) (le_bytes hlm (by decide)) ?_; intro v' w' S' hs' hx' hf' hn'; obtain ⟨A', c', rfl, _⟩ := hs'.shape; have hxx : Ext Si w2 w' := (((Ext.refl [] w2).alloc _).mono (by simp)).same hx'; have e1 := hxx.cell c1 hne; have e2 : w'.frozen? ⟨w.heap.size, k, none⟩ = false := by rw [hxx.frozen (p := ⟨w.heap.size, k, none⟩) hltg hne]; exact f1)
                  obtain ⟨S2, hp1, hp2, hp3⟩ := rows_put Hat.out hT2.out.nd ((Ext.refl [] w2).alloc _) hx' hs' hf' hn'
                  rw [HRl.out] at hp1
                  have hT9 := Lib.hid (hT2.out.own hp2 hp1 hp3)
                  simp only [List.length_append, List.length_cons, List.length_nil, Nat.zero_add] at hT9
                  clear hp1 hp2 hp3 hs' hx' hf' hn'
                  go_roundg (q3 - 1)
                  case measure => have := HJ.out; omega
                  case rel =>
                    refine ⟨j + 1, S2, R.set k (L ++ [(1 + (y : Int))]), (ai + 1), by go_num, by omega, by have := HJ.out; simp only [Hid]; omega, by simp only [Hid]; omega, hT9, ?_⟩
                    rw [Hid, HL.out]
                    exact hR.out.set hkR (by omega) (by omega)
              · have ei2 : decide (1 < (i : Int)) = false := by simp; omega
                go_wp2
                go_roundg (q2 - 1)
                case measure => have := HK.out; omega
                case rel => exact ⟨k + 1, S, R, ai, by go_num, by omega, by have := HK.out; simp only [Hid]; omega, by simp only [Hid]; omega, hT, hR.out.mono (by omega)⟩
            · go_wp2
              go_roundg (q2 - 1)
              case measure => have := HK.out; omega
              case rel => exact ⟨k + 1, S, R, ai, by go_num, by omega, by have := HK.out; simp only [Hid]; omega, by simp only [Hid]; omega, hT, hR.out.mono (by omega)⟩
        · have hki : k = i := by omega
          subst hki
          go_wp2
          go_ret
          have h4 := hai.out
          exact ⟨_, S, R, ai, rfl, by omega, hT.out, hR.out.mono (by omega)⟩
end Go.Proofs.Ytkmgbejhbkbaoaa

/- The maker of functions: a block's end stored. -/
namespace Go.Proofs.Ytkmgbejhbkbaoaa
set_option linter.unusedSimpArgs false
set_option linter.unusedVariables false
open Go.RowKit

/-- a row of values beside blocks, one of whose cells is stored -/
theorem bv_one {W : World} {S Sn : List Nat} {v : Value} {xs : List (JBlock × Value)} (h : SlR kBV 43 W S v xs) (hn : S.Nodup) (b : Nat) (hb : b < xs.length) (j : Nat) (hj : j < 6) (u : Value) (x' : JBlock × Value) (hSn : ∀ k ∈ Sn, k ∉ S)
    (hr : ∀ vp vi va Sp Si Sa St, BlkCells W (Sp ++ (Si ++ (Sa ++ St))) xs[b].1 vp vi va xs[b].2 Sp Si Sa St → (Sp ++ (Si ++ (Sa ++ St))).Nodup → (∀ k ∈ Sp ++ (Si ++ (Sa ++ St)), k ∈ S) →
      ∃ Sx, kBV.rep W Sx x' ([vp, vi, .int .i64 xs[b].1.term.kind, va, xs[b].2, .int .i32 xs[b].1.term.imm].set j u) ∧ (∀ k ∈ Sx, k ∈ Sp ++ (Si ++ (Sa ++ St)) ∨ k ∈ Sn) ∧ Sx.Nodup) :
    ∃ g cap S', v = .slice (some ⟨g, 0, none⟩) xs.length cap ∧ g ∈ S ∧ (∃ u0, W.cell? ⟨g, b * 6 + j, none⟩ = some u0) ∧ (∀ i, W.frozen? ⟨g, i, none⟩ = false) ∧ SlR kBV 43 (W.setCell ⟨g, b * 6 + j, none⟩ u) S' v (xs.set b x') ∧ (∀ k ∈ S', k ∈ S ∨ k ∈ Sn) ∧ S'.Nodup := by
  obtain ⟨g, cap, Sb, cs, rfl, hat⟩ := h.at b hb
  obtain ⟨vp, vi, va, Sp, Si, Sa, St, hcs, hc⟩ := hat.rep
  have hs := hc.s
  subst hs
  have hm := hat.mem
  have hni := hat.notin
  obtain ⟨Sx, h1, h2, h3⟩ := hr vp vi va Sp Si Sa St hc (hat.nodup hn) hm.2
  have hgx : g ∉ Sx := fun hk => by
    rcases h2 g hk with h4 | h4
    · exact hni h4
    · exact hSn g h4 hm.1
  have hu : ∃ u0, W.cell? ⟨g, b * 6 + j, none⟩ = some u0 := by
    have hl : j < [vp, vi, Value.int .i64 xs[b].1.term.kind, va, xs[b].2, Value.int .i32 xs[b].1.term.imm].length := by simpa using hj
    exact ⟨_, hat.cell j (by rw [hcs]; exact List.getElem?_eq_getElem hl)⟩
  rw [← hcs] at h1
  obtain ⟨S', p1, p2, p3⟩ := hat.putG hn (w1 := W) (fun _ _ _ => rfl) j hj u (x' := x') (Sx := Sx) (kBV.move h1 fun k hk => Below.heap_setCell W _ u k (fun e => hgx (by have e' : k = g := e; rw [← e']; exact hk)))
    (fun k hk => (h2 k hk).imp id (hSn k))
  exact ⟨g, cap, S', rfl, hm.1, hu, hat.frozen, p1, fun k hk => (p2 k hk).elim .inl fun h4 => (h2 k h4).imp (hm.2 k) id, p3 h3⟩

def set4 (W : World) (g b : Nat) (kind : Int) (va vt : Value) (imm : Int) : World :=
  (((W.setCell ⟨g, b * 6 + 2, none⟩ (.int .i64 kind)).setCell ⟨g, b * 6 + 2 + 1, none⟩ va).setCell ⟨g, b * 6 + 2 + 2, none⟩ vt).setCell ⟨g, b * 6 + 2 + 3, none⟩ (.int .i32 imm)
theorem slr_set {α : Type} {d : Kd α} {e : TypeId} {W : World} {S : List Nat} {v : Value} {xs : List α} (h : SlR d e W S v xs) {p : Addr} {u : Value} (hp : p.block ∉ S) : SlR d e (W.setCell p u) S v xs :=
  h.move fun k hk => Below.heap_setCell W p u k fun e => hp (by rw [← e]; exact hk)
theorem bv_term {W : World} {S Sx : List Nat} {v va vt : Value} {xs : List (JBlock × Value)} {args : List Int} (h : SlR kBV 43 W S v xs) (hn : S.Nodup) (b : Nat) (hb : b < xs.length) (hx : SlR kInt 3 W Sx va args) (hoff : ∀ k ∈ Sx, k ∉ S) (hnx : Sx.Nodup) (kind imm : Int)
    (hvt : vt = xs[b].2 ∨ ∃ A, vt = .slice A 0 0 ∧ xs[b].1.term.to = []) :
    ∃ g cap S', v = .slice (some ⟨g, 0, none⟩) xs.length cap ∧ g ∈ S ∧ (∀ j, j < 6 → ∃ u0, W.cell? ⟨g, b * 6 + j, none⟩ = some u0) ∧ (∀ i, W.frozen? ⟨g, i, none⟩ = false) ∧
      SlR kBV 43 (set4 W g b kind va vt imm) S' v (xs.set b ({ xs[b].1 with term := ⟨kind, args, xs[b].1.term.to, imm⟩ }, vt)) ∧ (∀ k ∈ S', k ∈ S ∨ k ∈ Sx) ∧ S'.Nodup := by
  have hcell : ∀ g cap, v = .slice (some ⟨g, 0, none⟩) xs.length cap → ∀ j, j < 6 → ∃ u0, W.cell? ⟨g, b * 6 + j, none⟩ = some u0 := by
    intro g cap hv j hj
    obtain ⟨g', cap', Sb, cs, hv2, hat⟩ := h.at b hb
    rw [hv] at hv2
    cases hv2
    have hl : j < cs.length := by rw [hat.len]; exact hj
    exact ⟨_, hat.cell j (List.getElem?_eq_getElem hl)⟩
  -- its kind
  obtain ⟨g, cap, S1, hv, hg, _, hfz, r1, m1, n1⟩ := bv_one (Sn := []) h hn b hb 2 (by decide) (.int .i64 kind) ({ xs[b].1 with term := { xs[b].1.term with kind := kind } }, xs[b].2) (by simp)
    (fun vp vi va Sp Si Sa St hc hnd _ => ⟨_, ⟨vp, vi, va, Sp, Si, Sa, St, rfl, ⟨hc.p, hc.i, hc.a, hc.t, rfl⟩⟩, fun k hk => .inl hk, hnd⟩)
  have hgx : g ∉ Sx := fun hk => hoff g hk hg
  have hx1 : SlR kInt 3 (W.setCell ⟨g, b * 6 + 2, none⟩ (.int .i64 kind)) Sx va args := slr_set hx hgx
  have hm1 : ∀ k ∈ S1, k ∈ S := fun k hk => (m1 k hk).elim id (by simp)
  -- its values
  obtain ⟨g2, cap2, S2, hv2, hg2, _, _, r2, m2, n2⟩ := bv_one (Sn := Sx) r1 n1 b (by simpa using hb) 3 (by decide) va ({ xs[b].1 with term := { xs[b].1.term with kind := kind, args := args } }, xs[b].2) (fun k hk h2 => hoff k hk (hm1 k h2))
    (fun vp vi va0 Sp Si Sa St hc hnd hin => by
      have e : (xs.set b ({ xs[b].1 with term := { xs[b].1.term with kind := kind } }, xs[b].2))[b]'(by simpa using hb) = ({ xs[b].1 with term := { xs[b].1.term with kind := kind } }, xs[b].2) := by simp
      rw [e] at hc
      have hd : ∀ k ∈ Sx, k ∉ Sp ++ (Si ++ (Sa ++ St)) := fun k hk h2 => hoff k hk (hm1 k (hin k h2))
      refine ⟨Sp ++ (Si ++ (Sx ++ St)), ⟨vp, vi, va, Sp, Si, Sx, St, by rw [e]; rfl, ⟨hc.p, hc.i, hx1, hc.t, rfl⟩⟩, fun k hk => ?_, ?_⟩
      · simp only [List.mem_append] at hk ⊢
        rcases hk with hk | hk | hk | hk
        · exact .inl (.inl hk)
        · exact .inl (.inr (.inl hk))
        · exact .inr hk
        · exact .inl (.inr (.inr (.inr hk)))
      · obtain ⟨q1, q2, q3⟩ := List.nodup_append.1 hnd
        obtain ⟨q4, q5, q6⟩ := List.nodup_append.1 q2
        obtain ⟨q7, q8, q9⟩ := List.nodup_append.1 q5
        refine List.nodup_append.2 ⟨q1, List.nodup_append.2 ⟨q4, List.nodup_append.2 ⟨hnx, q8, ?_⟩, ?_⟩, ?_⟩
        · rintro k hk k' hk' rfl; exact hd k hk (by simp [hk'])
        · rintro k hk k' hk' rfl
          rcases List.mem_append.1 hk' with h4 | h4
          · exact hd k h4 (by simp [hk])
          · exact q6 k hk k (by simp [h4]) rfl
        · rintro k hk k' hk' rfl
          rcases List.mem_append.1 hk' with h4 | h4
          · exact q3 k hk k (by simp [h4]) rfl
          · rcases List.mem_append.1 h4 with h5 | h5
            · exact hd k h5 (by simp [hk])
            · exact q3 k hk k (by simp [h5]) rfl)
  rw [hv] at hv2
  simp only [List.length_set] at hv2
  cases hv2
  rw [List.set_set] at r2
  -- where it goes
  obtain ⟨g3, cap3, S3, hv3, hg3, _, _, r3, m3, n3⟩ := bv_one (Sn := []) r2 n2 b (by simpa using hb) 4 (by decide) vt ({ xs[b].1 with term := { xs[b].1.term with kind := kind, args := args } }, vt) (by simp)
    (fun vp vi va0 Sp Si Sa St hc hnd hin => by
      have e : (xs.set b ({ xs[b].1 with term := { xs[b].1.term with kind := kind, args := args } }, xs[b].2))[b]'(by simpa using hb) = ({ xs[b].1 with term := { xs[b].1.term with kind := kind, args := args } }, xs[b].2) := by simp
      rw [e] at hc
      rcases hvt with rfl | ⟨A, rfl, hto⟩
      · exact ⟨_, ⟨vp, vi, va0, Sp, Si, Sa, St, by rw [e]; rfl, ⟨hc.p, hc.i, hc.a, hc.t, rfl⟩⟩, fun k hk => .inl hk, hnd⟩
      · refine ⟨Sp ++ (Si ++ (Sa ++ [])), ⟨vp, vi, va0, Sp, Si, Sa, [], by rw [e]; rfl, ⟨hc.p, hc.i, hc.a, .inl ⟨A, rfl, hto, rfl⟩, rfl⟩⟩, fun k hk => ?_, ?_⟩
        · refine .inl ?_
          simp only [List.mem_append, List.not_mem_nil, or_false] at hk ⊢
          rcases hk with hk | hk | hk
          · exact .inl hk
          · exact .inr (.inl hk)
          · exact .inr (.inr (.inl hk))
        · rw [List.append_nil]
          refine List.Nodup.sublist ?_ hnd
          exact List.Sublist.append (List.Sublist.refl _) (List.Sublist.append (List.Sublist.refl _) (List.sublist_append_left _ _)))
  rw [hv] at hv3
  simp only [List.length_set] at hv3
  cases hv3
  rw [List.set_set] at r3
  obtain ⟨g4, cap4, S4, hv4, hg4, _, _, r4, m4, n4⟩ := bv_one (Sn := []) r3 n3 b (by simpa using hb) 5 (by decide) (.int .i32 imm) ({ xs[b].1 with term := { xs[b].1.term with kind := kind, args := args, imm := imm } }, vt) (by simp)
    (fun vp vi va0 Sp Si Sa St hc hnd hin => by
      have e : (xs.set b ({ xs[b].1 with term := { xs[b].1.term with kind := kind, args := args } }, vt))[b]'(by simpa using hb) = ({ xs[b].1 with term := { xs[b].1.term with kind := kind, args := args } }, vt) := by simp
      rw [e] at hc
      exact ⟨_, ⟨vp, vi, va0, Sp, Si, Sa, St, by rw [e]; rfl, ⟨hc.p, hc.i, hc.a, hc.t, rfl⟩⟩, fun k hk => .inl hk, hnd⟩)
  rw [hv] at hv4
  simp only [List.length_set] at hv4
  cases hv4
  rw [List.set_set] at r4
  refine ⟨g, cap, S4, hv, hg, hcell g cap hv, hfz, r4, fun k hk => ?_, n4⟩
  have e3 : k ∈ S3 := (m4 k hk).elim id (by simp)
  have e2 : k ∈ S2 := (m3 k e3).elim id (by simp)
  exact (m2 k e2).imp (hm1 k) id

def MSt.endT (st : MSt) (b : Nat) (tm : JTerm) : MSt := { st with blocks := st.blocks.modify b fun x => { x with term := tm } }
theorem ext_set4 {W : World} {M : List Nat} {g b : Nat} {kind imm : Int} {va vt : Value} (hg : g ∈ M) : Ext M W (set4 W g b kind va vt imm) :=
  ((((Ext.refl M W).setCell (.inl hg) _).setCell (.inl hg) _).setCell (.inl hg) _).setCell (.inl hg) _
theorem MkE.to {w : World} {q : Nat} {vs : Value} {F : List Nat} {a : Nat} {st : MSt} {vts : List Value} (h : MkE w q vs F a st vts) (b : Nat) (hb : b < st.blocks.length) : ∃ A c, vts[b]? = some (.slice A st.blocks[b].term.to.length c) := by
  obtain ⟨vb, vl, Sb, Sl, H⟩ := h
  have hbz : b < (st.blocks.zip vts).length := by rw [List.length_zip, H.vlen]; omega
  obtain ⟨g, cap, Sb, cs, _, hat⟩ := H.bs.at b hbz
  obtain ⟨vp, vi, va, Sp, Si, Sa, St, hcs, hc⟩ := hat.rep
  obtain ⟨A, c, hv, _⟩ := hc.t.shape
  have hbv : b < vts.length := by rw [H.vlen]; exact hb
  refine ⟨A, c, ?_⟩
  rw [List.getElem?_eq_getElem hbv]
  simpa using hv
theorem MkE.endT {W : World} {q : Nat} {vs : Value} {F : List Nat} {a : Nat} {st : MSt} {vts : List Value} (h : MkE W q vs F a st vts) (b : Nat) (hb : b < st.blocks.length) {Sx : List Nat} {va : Value} {args : List Int} (hx : SlR kInt 3 W Sx va args) (hoff : ∀ k ∈ Sx, k ∉ F) (hnx : Sx.Nodup)
    (hrd : RdS W (F ++ Sx) vs) (kind imm : Int) (vt : Value) (hvt : vts[b]? = some vt ∨ ∃ A, vt = .slice A 0 0 ∧ st.blocks[b].term.to = []) :
    ∃ g cap, W.cell? ⟨q, 3, none⟩ = some (.slice (some ⟨g, 0, none⟩) st.blocks.length cap) ∧ (∀ j, j < 6 → ∃ u0, W.cell? ⟨g, b * 6 + j, none⟩ = some u0) ∧ (∀ i, W.frozen? ⟨g, i, none⟩ = false) ∧ g ≠ q ∧ g ∈ F ∧
      ∃ F', MkE (set4 W g b kind va vt imm) q vs F' a (st.endT b ⟨kind, args, st.blocks[b].term.to, imm⟩) (vts.set b vt) ∧ (∀ k ∈ F', k ∈ F ∨ k ∈ Sx) ∧ Ext F W (set4 W g b kind va vt imm) := by
  obtain ⟨vb, vl, Sb, Sl, H⟩ := h
  have hbv : b < vts.length := by rw [H.vlen]; exact hb
  have hzl : (st.blocks.zip vts).length = st.blocks.length := by rw [List.length_zip, H.vlen]; omega
  have hbz : b < (st.blocks.zip vts).length := by rw [hzl]; exact hb
  have hnd := H.nd
  have hfp := H.fp
  rw [hfp] at hnd
  obtain ⟨hq, hnd2⟩ := List.nodup_cons.1 hnd
  obtain ⟨n1, n2, n3⟩ := List.nodup_append.1 hnd2
  have e2 : (st.blocks.zip vts)[b] = (st.blocks[b], vts[b]) := by simp
  obtain ⟨g, cap, S', hv, hg, hc, hf, hr, hm, hn⟩ := bv_term H.bs n1 b hbz hx (fun k hk h2 => hoff k hk (by rw [hfp]; simp [h2])) hnx kind imm (vt := vt) (by
    rw [e2]
    rcases hvt with hvt | hvt
    · rw [List.getElem?_eq_getElem hbv] at hvt
      injection hvt with hvt
      exact .inl hvt.symm
    · exact .inr hvt)
  have hgF : g ∈ F := by rw [hfp]; simp [hg]
  have hgq : g ≠ q := by rintro rfl; exact hq (by simp [hg])
  have hgl : g ∉ Sl := fun h2 => n3 g hg g h2 rfl
  have hx4 : Ext F W (set4 W g b kind va vt imm) := ext_set4 hgF
  have hx5 : Ext [g] W (set4 W g b kind va vt imm) := ext_set4 (by simp)
  subst hv
  have c3 := H.blk.cell (i := 3) rfl
  rw [hzl] at c3
  have hF' : ∀ k ∈ q :: (S' ++ Sl), k ∈ F ∨ k ∈ Sx := fun k hk => by
    rw [hfp]
    simp only [List.mem_cons, List.mem_append] at hk ⊢
    rcases hk with hk | hk | hk
    · exact .inl (.inl hk)
    · exact (hm k hk).imp (fun h2 => .inr (.inl h2)) id
    · exact .inl (.inr (.inr hk))
  refine ⟨g, cap, c3, hc, hf, hgq, hgF, q :: (S' ++ Sl), ⟨.slice (some ⟨g, 0, none⟩) (st.blocks.zip vts).length cap, vl, S', Sl, ⟨?_, ?_, ?_, ?_, rfl, ?_, ?_⟩⟩, hF', hx4⟩
  · have := H.blk.ext hx5 (by simp; exact fun e => hgq e.symm)
    exact this
  · rw [show ((st.endT b ⟨kind, args, st.blocks[b].term.to, imm⟩).blocks.zip (vts.set b vt)) = (st.blocks.zip vts).set b ({ (st.blocks.zip vts)[b].1 with term := ⟨kind, args, (st.blocks.zip vts)[b].1.term.to, imm⟩ }, vt) from ?_]
    · exact hr
    · refine List.ext_getElem (by simp [MSt.endT]) fun i h1 h2 => ?_
      simp only [MSt.endT, List.getElem_zip, List.getElem_modify, List.getElem_set]
      split
      · rename_i he; subst he; rfl
      · rfl
  · simp [MSt.endT, H.vlen]
  · exact H.lv.ext hx5 (by intro k hk; simp; rintro rfl; exact hgl hk)
  · refine List.nodup_cons.2 ⟨fun hk => ?_, List.nodup_append.2 ⟨hn, n2, ?_⟩⟩
    · rcases List.mem_append.1 hk with hk | hk
      · rcases hm q hk with h1 | h1
        · exact hq (by simp [h1])
        · exact hoff q h1 (by rw [hfp]; simp)
      · exact hq (by simp [hk])
    · rintro k hk k' hk' rfl
      rcases hm k hk with h1 | h1
      · exact n3 k h1 k hk' rfl
      · exact hoff k h1 (by rw [hfp]; simp [hk'])
  · exact hrd.step ⟨hx4.mono fun k hk => .inl (by simp [hk]), fun k hk => .inl (by simpa using hF' k hk)⟩
end Go.Proofs.Ytkmgbejhbkbaoaa

/- The maker of functions: how a block ends. -/
namespace Go.Proofs.Ytkmgbejhbkbaoaa
set_option linter.unusedSimpArgs false
set_option linter.unusedVariables false
open Go.RowKit

def EndG (w : World) (q : Nat) (vs : Value) (vts : List Value) (b K : Nat) (F : List Nat) (st : MSt) (to : List Int) (e : Ending) (w' : World) : Prop :=
  e = .returned (.tuple #[]) ∧ ∃ (a' : Nat) (F' : List Nat) (st1 : MSt) (tm : JTerm) (vts' : List Value), MkE w' q vs F' a' (st1.endT b tm) vts' ∧ Grow b 3 st st1 ∧ Sm (K + 60) a' st1 ∧ FpStep F w w' F' ∧ tm.to = to ∧
    (∀ y ∈ tm.args, y ∈ st1.live) ∧ termOk tm = true ∧ ∀ j, j ≠ b → vts'[j]? = vts[j]?
/-- a block of memory of one's own, beside the maker -/
structure Lo (w W : World) (F1 : List Nat) (g : Nat) (T : TypeId) (cs : Array Value) : Prop where
  blk : Blk W g T cs
  off : g ∉ F1
  new : w.heap.size ≤ g
section
variable {w W W' : World} {q : Nat} {vs : Value} {vts : List Value} {b c K d : Nat} {F F1 F2 M : List Nat} {a1 g : Nat} {T : TypeId} {cs : Array Value} {st st1 : MSt}
theorem Lo.step (h : Lo w W F1 g T cs) (hx : FpStep F1 W W' F2) : Lo w W' F2 g T cs := ⟨(hx.kept ⟨h.blk, h.off⟩).1, (hx.kept ⟨h.blk, h.off⟩).2, h.new⟩
theorem Lo.ext (h : Lo w W F1 g T cs) (hx : Ext M W W') (hg : g ∉ M) : Lo w W' F1 g T cs := ⟨h.blk.ext hx hg, h.off, h.new⟩
theorem Lo.ext0 (h : Lo w W F1 g T cs) (hx : Ext [] W W') : Lo w W' F1 g T cs := h.ext hx (by simp)
theorem Lo.set (h : Lo w W F1 g T cs) (i : Nat) (u : Value) : Lo w (W.setCell ⟨g, i, none⟩ u) F1 g T (cs.setIfInBounds i u) := ⟨h.blk.set i u, h.off, h.new⟩
/-- a change of what is one's own alone -/
theorem GP.own (hg : GP w W q vs vts b c K d F F1 a1 st st1) (h0 : RdS w F vs) (hx : Ext M W W') (hM : ∀ k ∈ M, k ∉ F1 ∧ w.heap.size ≤ k) : GP w W' q vs vts b c K d F F1 a1 st st1 := by
  have hfp : FpStep F w W' F1 := ⟨hg.fp.1.trans hx fun k hk => .inr (hM k hk).2, hg.fp.2⟩
  exact ⟨hg.mm.extM hx (fun k hk => (hM k hk).1) (h0.step hfp), hg.gr, hg.sm, hfp⟩
theorem GP.lo (hg : GP w W q vs vts b c K d F F1 a1 st st1) (h0 : RdS w F vs) (h : Lo w W F1 g T cs) (i : Nat) (u : Value) : GP w (W.setCell ⟨g, i, none⟩ u) q vs vts b c K d F F1 a1 st st1 :=
  hg.own h0 (M := [g]) ((Ext.refl _ _).setCell (.inl (by simp)) _) (by intro k hk; simp at hk; subst hk; exact ⟨h.off, h.new⟩)
theorem Grow.term (h : Grow b c st st1) (i : Nat) (hi : i < st.blocks.length) : st1.blocks[i]'(by rw [h.len]; exact hi) = { st.blocks[i] with ins := (st1.blocks[i]'(by rw [h.len]; exact hi)).ins } := by
  obtain ⟨n1, h1, a1, a2, a3, rfl⟩ := h
  simp only [MSt.grow, List.getElem_modify]
  split
  · simp [more]
  · rfl
end
theorem end_fin {w W : World} {q : Nat} {vs : Value} {vts : List Value} {b c K d : Nat} {F F1 : List Nat} {a1 : Nat} {st st1 : MSt} (hg : GP w W q vs vts b c K d F F1 a1 st st1) (h0 : RdS w F vs) (hc : c ≤ 3) (hd : d ≤ 60) (hb : b < st.blocks.length) {Sx : List Nat} {va vt : Value} {args to : List Int} {kind imm : Int}
    (hx : SlR kInt 3 W Sx va args) (hoff : ∀ k ∈ Sx, k ∉ F1 ∧ w.heap.size ≤ k) (hnx : Sx.Nodup) (ha : ∀ y ∈ args, y ∈ st1.live) (hto : to = st.blocks[b].term.to) (hvt : vts[b]? = some vt ∨ ∃ A, vt = .slice A 0 0 ∧ to = []) (hok : termOk ⟨kind, args, to, imm⟩ = true) :
    ∃ g cap, W.drew.cell? ⟨q, 3, none⟩ = some (.slice (some ⟨g, 0, none⟩) st1.blocks.length cap) ∧ b < st1.blocks.length ∧ (∀ j, j < 6 → ∃ u0, W.drew.cell? ⟨g, b * 6 + j, none⟩ = some u0) ∧ (∀ i, W.drew.frozen? ⟨g, i, none⟩ = false) ∧
      EndG w q vs vts b K F st to (.returned (.tuple #[])) (set4 W.drew g b kind va vt imm) := by
  have hxd : Ext [] W W.drew := (Ext.refl _ _).drew
  have hb1 : b < st1.blocks.length := hg.hb hb
  have hfp : FpStep F w W.drew F1 := ⟨hg.fp.1.nil hxd, hg.fp.2⟩
  have hrd : RdS W.drew (F1 ++ Sx) vs := h0.step ⟨hfp.1, fun k hk => by
    rcases List.mem_append.1 hk with h1 | h1
    · exact hfp.2 k h1
    · exact .inr (hoff k h1).2⟩
  have hte : st1.blocks[b].term.to = to := by rw [hto]; have e := congrArg (fun x : JBlock => x.term.to) (hg.gr.term b hb); exact e
  obtain ⟨g, cap, c3, hcl, hfz, hgq, hgF, F', m2, hF, hX⟩ := (hg.mm.ext0 hxd).endT b hb1 (hx.ext0 hxd) (fun k hk => (hoff k hk).1) hnx hrd kind imm vt (hvt.imp id fun ⟨A, e1, e2⟩ => ⟨A, e1, by rw [hte]; exact e2⟩)
  rw [hte] at m2
  refine ⟨g, cap, c3, hb1, hcl, hfz, rfl, a1, F', st1, _, _, m2, hg.gr.mono hc, hg.sm.mono (by omega), ⟨hfp.1.trans hX fun k hk => hfp.2 k hk, fun k hk => ?_⟩, rfl, ha, hok, fun j hj => by rw [List.getElem?_set_ne (fun e => hj e.symm)]⟩
  rcases hF k hk with h1 | h1
  · exact hfp.2 k h1
  · exact .inr (hoff k h1).2
set_option maxRecDepth 20000 in
set_option maxHeartbeats 12800000 in
theorem end_calls {w : World} {q : Nat} {vs : Value} {F : List Nat} {a K : Nat} {st : MSt} {vts : List Value} (h : MkE w q vs F a st vts) (hs : Sm K a st) (hK : K ≤ 600000) (b : Nat) (hb : b < st.blocks.length) (hbl : st.blocks.length ≤ 100000) (v : Value) (hv : vts[b]? = some v) (hl : st.blocks[b].term.to.length ≤ 65) :
    Calls Try.prog 26 #[.pointer (some ⟨q, 0, none⟩), .int .i64 (b : Int), v] w (EndG w q vs vts b K F st st.blocks[b].term.to) := by
  have Hs := Lib.hid hs
  clear hs
  obtain ⟨A, c, hv2⟩ := h.to b hb
  rw [hv] at hv2
  injection hv2 with hv2
  subst hv2
  obtain ⟨to, hto⟩ : ∃ to, to = st.blocks[b].term.to := ⟨_, rfl⟩
  have Hto := Lib.hid hto
  rw [← hto] at hv hl ⊢
  obtain ⟨m, hm⟩ : ∃ m, m = to.length := ⟨_, rfl⟩
  have Hm := Lib.hid hm
  rw [← hm] at hv hl ⊢
  have Hv := Lib.hid hv
  have Hh := Lib.hid h
  have H0 := Lib.hid h.rd
  clear hm hv hto h
  go_enter Try.func26, Try.ntmps26
  have hsp : m = 0 ∨ m = 1 ∨ m = 2 ∨ 3 ≤ m := by omega
  rcases hsp with rfl | rfl | rfl | hm3
  · -- none
    obtain ⟨w0, hw0⟩ : ∃ x, x = w.alloc (.cells #[.int .i64 4, .slice none 0 0, .slice none 0 0, .int .i32 0] 41) := ⟨_, rfl⟩
    have HG0 : Hid (GP w w0 q vs vts b 0 K 0 F F a st st) := by rw [hw0]; exact (GP.refl Hh.out Hs.out).ext0 ((Ext.refl [] w).alloc _)
    have HL0 : Hid (Lo w w0 F w.heap.size 41 #[.int .i64 4, .slice none 0 0, .slice none 0 0, .int .i32 0]) := by rw [hw0]; exact ⟨Blk.new w #[.int .i64 4, .slice none 0 0, .slice none 0 0, .int .i32 0] 41, fun h => by have := Hh.out.lt _ h; omega, Nat.le_refl _⟩
    have m0 := HG0.out.mm
    have s0 := Lib.hid HG0.out.sm
    have b0 := HG0.out.hb hb
    have l0 : st.blocks.length ≤ 100000 := by rw [HG0.out.gr.len]; exact hbl
    go_wp2_with fail
    rw [← hw0]
    refine (takeG m0 s0.out (by omega) b 8 (by omega) (by omega)).mono ?_
    rintro e w1 ⟨x, a1, hx, rfl, g1⟩
    have HG1 := Lib.hid (HG0.out.trans g1)
    have HL1 := Lib.hid (HL0.out.step g1.fp)
    clear g1 HG0 HL0 m0 s0 b0 l0 hw0
    have q0 := HL1.out.blk.cell (i := 0) rfl
    have q1 := HL1.out.blk.cell (i := 1) rfl
    have q2 := HL1.out.blk.cell (i := 2) rfl
    have q3 := HL1.out.blk.cell (i := 3) rfl
    have r0 := HL1.out.blk.frozen 0
    have r1 := HL1.out.blk.frozen 1
    have r3 := HL1.out.blk.frozen 3
    by_cases hx0 : x = 0
    · skip
      subst hx0
      obtain ⟨w2 , hw2⟩ : ∃ x, x = w1.setCell ⟨w.heap.size, 0, none⟩ (.int .i64 5) := ⟨_, rfl⟩
      have HG2 := Lib.hid (HG1.out.lo H0.out HL1.out 0 (.int .i64 5))
      rw [← hw2] at HG2
      have HL2 : Hid (Lo w w2 F w.heap.size 41 #[.int .i64 5, .slice none 0 0, .slice none 0 0, .int .i32 0]) := by rw [hw2]; exact (HL1.out.set 0 (.int .i64 5))
      have m2 := HG2.out.mm
      have s2 := Lib.hid HG2.out.sm
      have b2 := HG2.out.hb hb
      have l2 : st.blocks.length ≤ 100000 := by rw [HG2.out.gr.len]; exact hbl
      go_wp2_with fail
      rw [← hw2]
      refine (takeG m2 s2.out (by omega) b 200 (by omega) (by omega)).mono ?_
      rintro e w3 ⟨y, a3, hy, rfl, g3⟩
      clear hw2 q0 q1 q2 q3 r0 r1 r3
      have HG3 := Lib.hid (HG2.out.trans g3)
      have HL3 := Lib.hid (HL2.out.step g3.fp)
      clear g3 HG2 HL2 m2 s2 b2 l2
      have q0 := HL3.out.blk.cell (i := 0) rfl
      have q1 := HL3.out.blk.cell (i := 1) rfl
      have q2 := HL3.out.blk.cell (i := 2) rfl
      have q3 := HL3.out.blk.cell (i := 3) rfl
      have r0 := HL3.out.blk.frozen 0
      have r1 := HL3.out.blk.frozen 1
      have r3 := HL3.out.blk.frozen 3
      obtain ⟨w4, hw4⟩ : ∃ x, x = w3.setCell ⟨w.heap.size, 3, none⟩ (.int .i32 (y : Int)) := ⟨_, rfl⟩
      have HG4 := Lib.hid (HG3.out.lo H0.out HL3.out 3 (.int .i32 (y : Int)))
      rw [← hw4] at HG4
      have HL4 : Hid (Lo w w4 F w.heap.size 41 #[.int .i64 5, .slice none 0 0, .slice none 0 0, .int .i32 (y : Int)]) := by rw [hw4]; exact (HL3.out.set 3 (.int .i32 (y : Int)))
      obtain ⟨g, cap, c3, hbs, hcl, hfz, hE⟩ := end_fin (kind := 5) (imm := (y : Int)) (va := .slice none 0 0) (vt := .slice none 0 0) (args := []) (Sx := []) HG4.out H0.out (by omega) (by omega) hb (SlR.nil _ _ _) (by simp) (by simp) (by simp) Hto.out (.inr ⟨none, rfl, List.eq_nil_of_length_eq_zero Hm.out.symm⟩) (by simp [termOk, shapeF, ← Hm.out])
      obtain ⟨Wf, hWf⟩ : ∃ x, x = w4 := ⟨_, rfl⟩
      have hblk : Blk Wf.drew w.heap.size 41 #[.int .i64 (5), .slice none 0 0, .slice none 0 0, .int .i32 ((y : Int))] := by rw [hWf]; exact (HL4.out.blk).drew
      rw [← hWf] at c3 hcl hfz hE
      obtain ⟨u2, k2'⟩ := hcl 2 (by omega)
      have k2 : Wf.cell? ⟨g, b * 6 + 2, none⟩ = some u2 := k2'
      have j2 : Wf.frozen? ⟨g, b * 6 + 2, none⟩ = false := hfz (b * 6 + 2)
      clear k2'
      obtain ⟨u3, k3'⟩ := hcl 3 (by omega)
      have k3 : Wf.cell? ⟨g, b * 6 + 2 + 1, none⟩ = some u3 := k3'
      have j3 : Wf.frozen? ⟨g, b * 6 + 2 + 1, none⟩ = false := hfz (b * 6 + 2 + 1)
      clear k3'
      obtain ⟨u4, k4'⟩ := hcl 4 (by omega)
      have k4 : Wf.cell? ⟨g, b * 6 + 2 + 2, none⟩ = some u4 := k4'
      have j4 : Wf.frozen? ⟨g, b * 6 + 2 + 2, none⟩ = false := hfz (b * 6 + 2 + 2)
      clear k4'
      obtain ⟨u5, k5'⟩ := hcl 5 (by omega)
      have k5 : Wf.cell? ⟨g, b * 6 + 2 + 3, none⟩ = some u5 := k5'
      have j5 : Wf.frozen? ⟨g, b * 6 + 2 + 3, none⟩ = false := hfz (b * 6 + 2 + 3)
      clear k5'
      have HE := Lib.hid hE
      clear hcl hfz hE
      go_wp2
      rw [← hw4, ← hWf]
      clear hWf
      refine wp_region_rt (fun W => W.cell? ⟨q, 3, none⟩ = some (.slice (some ⟨g, 0, none⟩) st.blocks.length cap) ∧ Blk W w.heap.size 41 #[.int .i64 (5), .slice none 0 0, .slice none 0 0, .int .i32 ((y : Int))]) (.q 0 (.q 1 (.q 2 (.q 3 (.q 4 (.q 5 (.q 6 (.q 7 (.q 8 (.fin 9)))))))))) (by kernel_rfl) (by kernel_rfl) ⟨c3, hblk⟩ ?_
      refine rt_quiet (.pointer (some ⟨q, 0, none⟩)) rfl rfl (fun W' hC => by simp [go_sem]) ?_
      simp only [put_lit, put_none, List.set_cons_succ, List.set_cons_zero]
      refine rt_quiet (.pointer (some ⟨q, 0, none⟩)) rfl rfl (fun W' hC => by simp [go_sem]) ?_
      simp only [put_lit, put_none, List.set_cons_succ, List.set_cons_zero]
      refine rt_quiet (.pointer (some ⟨q, 2, none⟩)) rfl rfl (fun W' hC => by simp [go_sem]) ?_
      simp only [put_lit, put_none, List.set_cons_succ, List.set_cons_zero]
      refine rt_quiet (.pointer (some ⟨q, 3, none⟩)) rfl rfl (fun W' hC => by simp [go_sem]) ?_
      simp only [put_lit, put_none, List.set_cons_succ, List.set_cons_zero]
      refine rt_quiet (.slice (some ⟨g, 0, none⟩) st.blocks.length cap) rfl rfl (fun W' hC => by simp [go_sem, hC.1]) ?_
      simp only [put_lit, put_none, List.set_cons_succ, List.set_cons_zero]
      refine rt_quiet (.int .i64 (b : Int)) rfl rfl (fun W' hC => by simp [go_sem]) ?_
      simp only [put_lit, put_none, List.set_cons_succ, List.set_cons_zero]
      refine rt_quiet (.agg #[.int .i64 (5), .slice none 0 0, .slice none 0 0, .int .i32 ((y : Int))]) rfl rfl (fun W' hC => by simp [go_sem, hC.2.cell (i := 0) rfl, hC.2.cell (i := 1) rfl, hC.2.cell (i := 2) rfl, hC.2.cell (i := 3) rfl]) ?_
      simp only [put_lit, put_none, List.set_cons_succ, List.set_cons_zero]
      refine rt_quiet (.pointer (some ⟨g, b * 6, none⟩)) rfl rfl (fun W' hC => by simp [go_sem, hbs]) ?_
      simp only [put_lit, put_none, List.set_cons_succ, List.set_cons_zero]
      refine rt_quiet (.pointer (some ⟨g, b * 6 + 2, none⟩)) rfl rfl (fun W' hC => by simp [go_sem]) ?_
      simp only [put_lit, put_none, List.set_cons_succ, List.set_cons_zero]
      refine fin_eff0 (w' := set4 Wf.drew g b (5) (.slice none 0 0) (.slice none 0 0) ((y : Int))) rfl rfl (by simp [go_sem, set4, k2, k3, k4, k5, j2, j3, j4, j5]) ?_
      simp only [put_lit, put_none, List.set_cons_succ, List.set_cons_zero]
      go_end0
      exact HE.out
    · skip
      have e0 : ((x : Int) == 0) = false := by simp; omega
      by_cases hx1 : 1 < x
      · skip
        have e1 : decide (1 < (x : Int)) = true := by simp; omega
        clear q0 q1 q2 q3 r0 r1 r3
        have m1 := HG1.out.mm
        have s1 := Lib.hid HG1.out.sm
        have b1 := HG1.out.hb hb
        have l1 : st.blocks.length ≤ 100000 := by rw [HG1.out.gr.len]; exact hbl
        go_wp2_with fail
        refine (someG m1 s1.out (by omega) b b1 l1).mono ?_
        rintro e w2 ⟨v, a2, F2, st2, rfl, hv, g2⟩
        have HG2 := Lib.hid (HG1.out.trans g2)
        have HL2 := Lib.hid (HL1.out.step g2.fp)
        have Lv2 := Lib.hid hv
        clear g2 HG1 HL1 m1 s1 b1 l1 hv
        have q0 := HL2.out.blk.cell (i := 0) rfl
        have q1 := HL2.out.blk.cell (i := 1) rfl
        have q2 := HL2.out.blk.cell (i := 2) rfl
        have q3 := HL2.out.blk.cell (i := 3) rfl
        have r0 := HL2.out.blk.frozen 0
        have r1 := HL2.out.blk.frozen 1
        have r3 := HL2.out.blk.frozen 3
        have lw3 := HL2.out.blk.lt
        have lg3 := HG2.out.fp.1.size
        have lm3 := HG2.out.mm.lt
        have hrow := lit_ints (w := w2) [v] (by simp) (by simp)
        have HG3 := Lib.hid (HG2.out.ext0 ((Ext.refl [] w2).alloc (.cells #[.int .i64 v] 3)))
        have HL3 := Lib.hid (HL2.out.ext0 ((Ext.refl [] w2).alloc (.cells #[.int .i64 v] 3)))
        obtain ⟨w4, hv4⟩ : ∃ x, x = ((w2.setCell ⟨w.heap.size, 1, none⟩ (.slice (some ⟨w2.heap.size, 0, none⟩) 1 1)).alloc (.cells #[.int .i64 v] 3)) := ⟨_, rfl⟩
        have hw4 : w4 = (w2.alloc (.cells #[.int .i64 v] 3)).setCell ⟨w.heap.size, 1, none⟩ (.slice (some ⟨w2.heap.size, 0, none⟩) 1 1) := by rw [hv4]; simp [go_sem, lw3]
        have HG4 := Lib.hid (HG3.out.lo H0.out HL3.out 1 (.slice (some ⟨w2.heap.size, 0, none⟩) 1 1))
        rw [← hw4] at HG4
        have HL4 : Hid (Lo w w4 F2 w.heap.size 41 #[.int .i64 4, .slice (some ⟨w2.heap.size, 0, none⟩) 1 1, .slice none 0 0, .int .i32 0]) := by rw [hw4]; exact (HL3.out.set 1 (.slice (some ⟨w2.heap.size, 0, none⟩) 1 1))
        have HR : Hid (SlR kInt 3 w4 [w2.heap.size] (.slice (some ⟨w2.heap.size, 0, none⟩) 1 1) [v]) := by rw [hw4]; exact slr_set hrow (by simp; omega)
        obtain ⟨g, cap, c3, hbs, hcl, hfz, hE⟩ := end_fin (kind := 4) (imm := 0) (va := .slice (some ⟨w2.heap.size, 0, none⟩) 1 1) (vt := .slice none 0 0) (args := [v]) (Sx := [w2.heap.size]) HG4.out H0.out (by omega) (by omega) hb (HR.out) (by intro k hk; simp at hk; subst hk; exact ⟨fun h => by have := lm3 _ h; omega, by omega⟩) (by simp) (by intro y hy; simp at hy; rw [hy]; exact Lv2.out) Hto.out (.inr ⟨none, rfl, List.eq_nil_of_length_eq_zero Hm.out.symm⟩) (by simp [termOk, shapeF, ← Hm.out])
        obtain ⟨Wf, hWf⟩ : ∃ x, x = w4 := ⟨_, rfl⟩
        have hblk : Blk Wf.drew w.heap.size 41 #[.int .i64 (4), .slice (some ⟨w2.heap.size, 0, none⟩) 1 1, .slice none 0 0, .int .i32 (0)] := by rw [hWf]; exact (HL4.out.blk).drew
        rw [← hWf] at c3 hcl hfz hE
        obtain ⟨u2, k2'⟩ := hcl 2 (by omega)
        have k2 : Wf.cell? ⟨g, b * 6 + 2, none⟩ = some u2 := k2'
        have j2 : Wf.frozen? ⟨g, b * 6 + 2, none⟩ = false := hfz (b * 6 + 2)
        clear k2'
        obtain ⟨u3, k3'⟩ := hcl 3 (by omega)
        have k3 : Wf.cell? ⟨g, b * 6 + 2 + 1, none⟩ = some u3 := k3'
        have j3 : Wf.frozen? ⟨g, b * 6 + 2 + 1, none⟩ = false := hfz (b * 6 + 2 + 1)
        clear k3'
        obtain ⟨u4, k4'⟩ := hcl 4 (by omega)
        have k4 : Wf.cell? ⟨g, b * 6 + 2 + 2, none⟩ = some u4 := k4'
        have j4 : Wf.frozen? ⟨g, b * 6 + 2 + 2, none⟩ = false := hfz (b * 6 + 2 + 2)
        clear k4'
        obtain ⟨u5, k5'⟩ := hcl 5 (by omega)
        have k5 : Wf.cell? ⟨g, b * 6 + 2 + 3, none⟩ = some u5 := k5'
        have j5 : Wf.frozen? ⟨g, b * 6 + 2 + 3, none⟩ = false := hfz (b * 6 + 2 + 3)
        clear k5'
        have HE := Lib.hid hE
        clear hcl hfz hE
        go_wp2
        rw [← hv4, ← hWf]
        clear hWf
        refine wp_region_rt (fun W => W.cell? ⟨q, 3, none⟩ = some (.slice (some ⟨g, 0, none⟩) st2.blocks.length cap) ∧ Blk W w.heap.size 41 #[.int .i64 (4), .slice (some ⟨w2.heap.size, 0, none⟩) 1 1, .slice none 0 0, .int .i32 (0)]) (.q 0 (.q 1 (.q 2 (.q 3 (.q 4 (.q 5 (.q 6 (.q 7 (.q 8 (.fin 9)))))))))) (by kernel_rfl) (by kernel_rfl) ⟨c3, hblk⟩ ?_
        refine rt_quiet (.pointer (some ⟨q, 0, none⟩)) rfl rfl (fun W' hC => by simp [go_sem]) ?_
        simp only [put_lit, put_none, List.set_cons_succ, List.set_cons_zero]
        refine rt_quiet (.pointer (some ⟨q, 0, none⟩)) rfl rfl (fun W' hC => by simp [go_sem]) ?_
        simp only [put_lit, put_none, List.set_cons_succ, List.set_cons_zero]
        refine rt_quiet (.pointer (some ⟨q, 2, none⟩)) rfl rfl (fun W' hC => by simp [go_sem]) ?_
        simp only [put_lit, put_none, List.set_cons_succ, List.set_cons_zero]
        refine rt_quiet (.pointer (some ⟨q, 3, none⟩)) rfl rfl (fun W' hC => by simp [go_sem]) ?_
        simp only [put_lit, put_none, List.set_cons_succ, List.set_cons_zero]
        refine rt_quiet (.slice (some ⟨g, 0, none⟩) st2.blocks.length cap) rfl rfl (fun W' hC => by simp [go_sem, hC.1]) ?_
        simp only [put_lit, put_none, List.set_cons_succ, List.set_cons_zero]
        refine rt_quiet (.int .i64 (b : Int)) rfl rfl (fun W' hC => by simp [go_sem]) ?_
        simp only [put_lit, put_none, List.set_cons_succ, List.set_cons_zero]
        refine rt_quiet (.agg #[.int .i64 (4), .slice (some ⟨w2.heap.size, 0, none⟩) 1 1, .slice none 0 0, .int .i32 (0)]) rfl rfl (fun W' hC => by simp [go_sem, hC.2.cell (i := 0) rfl, hC.2.cell (i := 1) rfl, hC.2.cell (i := 2) rfl, hC.2.cell (i := 3) rfl]) ?_
        simp only [put_lit, put_none, List.set_cons_succ, List.set_cons_zero]
        refine rt_quiet (.pointer (some ⟨g, b * 6, none⟩)) rfl rfl (fun W' hC => by simp [go_sem, hbs]) ?_
        simp only [put_lit, put_none, List.set_cons_succ, List.set_cons_zero]
        refine rt_quiet (.pointer (some ⟨g, b * 6 + 2, none⟩)) rfl rfl (fun W' hC => by simp [go_sem]) ?_
        simp only [put_lit, put_none, List.set_cons_succ, List.set_cons_zero]
        refine fin_eff0 (w' := set4 Wf.drew g b (4) (.slice (some ⟨w2.heap.size, 0, none⟩) 1 1) (.slice none 0 0) (0)) rfl rfl (by simp [go_sem, set4, k2, k3, k4, k5, j2, j3, j4, j5]) ?_
        simp only [put_lit, put_none, List.set_cons_succ, List.set_cons_zero]
        go_end0
        exact HE.out
      · skip
        have e1 : decide (1 < (x : Int)) = false := by simp; omega
        obtain ⟨g, cap, c3, hbs, hcl, hfz, hE⟩ := end_fin (kind := 4) (imm := 0) (va := .slice none 0 0) (vt := .slice none 0 0) (args := []) (Sx := []) HG1.out H0.out (by omega) (by omega) hb (SlR.nil _ _ _) (by simp) (by simp) (by simp) Hto.out (.inr ⟨none, rfl, List.eq_nil_of_length_eq_zero Hm.out.symm⟩) (by simp [termOk, shapeF, ← Hm.out])
        obtain ⟨Wf, hWf⟩ : ∃ x, x = w1 := ⟨_, rfl⟩
        have hblk : Blk Wf.drew w.heap.size 41 #[.int .i64 (4), .slice none 0 0, .slice none 0 0, .int .i32 (0)] := by rw [hWf]; exact (HL1.out.blk).drew
        rw [← hWf] at c3 hcl hfz hE
        obtain ⟨u2, k2'⟩ := hcl 2 (by omega)
        have k2 : Wf.cell? ⟨g, b * 6 + 2, none⟩ = some u2 := k2'
        have j2 : Wf.frozen? ⟨g, b * 6 + 2, none⟩ = false := hfz (b * 6 + 2)
        clear k2'
        obtain ⟨u3, k3'⟩ := hcl 3 (by omega)
        have k3 : Wf.cell? ⟨g, b * 6 + 2 + 1, none⟩ = some u3 := k3'
        have j3 : Wf.frozen? ⟨g, b * 6 + 2 + 1, none⟩ = false := hfz (b * 6 + 2 + 1)
        clear k3'
        obtain ⟨u4, k4'⟩ := hcl 4 (by omega)
        have k4 : Wf.cell? ⟨g, b * 6 + 2 + 2, none⟩ = some u4 := k4'
        have j4 : Wf.frozen? ⟨g, b * 6 + 2 + 2, none⟩ = false := hfz (b * 6 + 2 + 2)
        clear k4'
        obtain ⟨u5, k5'⟩ := hcl 5 (by omega)
        have k5 : Wf.cell? ⟨g, b * 6 + 2 + 3, none⟩ = some u5 := k5'
        have j5 : Wf.frozen? ⟨g, b * 6 + 2 + 3, none⟩ = false := hfz (b * 6 + 2 + 3)
        clear k5'
        have HE := Lib.hid hE
        clear hcl hfz hE
        go_wp2
        rw [← hWf]
        clear hWf
        refine wp_region_rt (fun W => W.cell? ⟨q, 3, none⟩ = some (.slice (some ⟨g, 0, none⟩) st.blocks.length cap) ∧ Blk W w.heap.size 41 #[.int .i64 (4), .slice none 0 0, .slice none 0 0, .int .i32 (0)]) (.q 0 (.q 1 (.q 2 (.q 3 (.q 4 (.q 5 (.q 6 (.q 7 (.q 8 (.fin 9)))))))))) (by kernel_rfl) (by kernel_rfl) ⟨c3, hblk⟩ ?_
        refine rt_quiet (.pointer (some ⟨q, 0, none⟩)) rfl rfl (fun W' hC => by simp [go_sem]) ?_
        simp only [put_lit, put_none, List.set_cons_succ, List.set_cons_zero]
        refine rt_quiet (.pointer (some ⟨q, 0, none⟩)) rfl rfl (fun W' hC => by simp [go_sem]) ?_
        simp only [put_lit, put_none, List.set_cons_succ, List.set_cons_zero]
        refine rt_quiet (.pointer (some ⟨q, 2, none⟩)) rfl rfl (fun W' hC => by simp [go_sem]) ?_
        simp only [put_lit, put_none, List.set_cons_succ, List.set_cons_zero]
        refine rt_quiet (.pointer (some ⟨q, 3, none⟩)) rfl rfl (fun W' hC => by simp [go_sem]) ?_
        simp only [put_lit, put_none, List.set_cons_succ, List.set_cons_zero]
        refine rt_quiet (.slice (some ⟨g, 0, none⟩) st.blocks.length cap) rfl rfl (fun W' hC => by simp [go_sem, hC.1]) ?_
        simp only [put_lit, put_none, List.set_cons_succ, List.set_cons_zero]
        refine rt_quiet (.int .i64 (b : Int)) rfl rfl (fun W' hC => by simp [go_sem]) ?_
        simp only [put_lit, put_none, List.set_cons_succ, List.set_cons_zero]
        refine rt_quiet (.agg #[.int .i64 (4), .slice none 0 0, .slice none 0 0, .int .i32 (0)]) rfl rfl (fun W' hC => by simp [go_sem, hC.2.cell (i := 0) rfl, hC.2.cell (i := 1) rfl, hC.2.cell (i := 2) rfl, hC.2.cell (i := 3) rfl]) ?_
        simp only [put_lit, put_none, List.set_cons_succ, List.set_cons_zero]
        refine rt_quiet (.pointer (some ⟨g, b * 6, none⟩)) rfl rfl (fun W' hC => by simp [go_sem, hbs]) ?_
        simp only [put_lit, put_none, List.set_cons_succ, List.set_cons_zero]
        refine rt_quiet (.pointer (some ⟨g, b * 6 + 2, none⟩)) rfl rfl (fun W' hC => by simp [go_sem]) ?_
        simp only [put_lit, put_none, List.set_cons_succ, List.set_cons_zero]
        refine fin_eff0 (w' := set4 Wf.drew g b (4) (.slice none 0 0) (.slice none 0 0) (0)) rfl rfl (by simp [go_sem, set4, k2, k3, k4, k5, j2, j3, j4, j5]) ?_
        simp only [put_lit, put_none, List.set_cons_succ, List.set_cons_zero]
        go_end0
        exact HE.out
  · -- one
    obtain ⟨w0, hw0⟩ : ∃ x, x = w.alloc (.cells #[.int .i64 1, .slice none 0 0, .slice A 1 c, .int .i32 0] 41) := ⟨_, rfl⟩
    have HG0 : Hid (GP w w0 q vs vts b 0 K 0 F F a st st) := by rw [hw0]; exact (GP.refl Hh.out Hs.out).ext0 ((Ext.refl [] w).alloc _)
    have HL0 : Hid (Lo w w0 F w.heap.size 41 #[.int .i64 1, .slice none 0 0, .slice A 1 c, .int .i32 0]) := by rw [hw0]; exact ⟨Blk.new w #[.int .i64 1, .slice none 0 0, .slice A 1 c, .int .i32 0] 41, fun h => by have := Hh.out.lt _ h; omega, Nat.le_refl _⟩
    obtain ⟨g, cap, c3, hbs, hcl, hfz, hE⟩ := end_fin (kind := 1) (imm := 0) (va := .slice none 0 0) (vt := .slice A 1 c) (args := []) (Sx := []) HG0.out H0.out (by omega) (by omega) hb (SlR.nil _ _ _) (by simp) (by simp) (by simp) Hto.out (.inl Hv.out) (by simp [termOk, shapeF, ← Hm.out])
    obtain ⟨Wf, hWf⟩ : ∃ x, x = w0 := ⟨_, rfl⟩
    have hblk : Blk Wf.drew w.heap.size 41 #[.int .i64 (1), .slice none 0 0, .slice A 1 c, .int .i32 (0)] := by rw [hWf]; exact (HL0.out.blk).drew
    rw [← hWf] at c3 hcl hfz hE
    obtain ⟨u2, k2'⟩ := hcl 2 (by omega)
    have k2 : Wf.cell? ⟨g, b * 6 + 2, none⟩ = some u2 := k2'
    have j2 : Wf.frozen? ⟨g, b * 6 + 2, none⟩ = false := hfz (b * 6 + 2)
    clear k2'
    obtain ⟨u3, k3'⟩ := hcl 3 (by omega)
    have k3 : Wf.cell? ⟨g, b * 6 + 2 + 1, none⟩ = some u3 := k3'
    have j3 : Wf.frozen? ⟨g, b * 6 + 2 + 1, none⟩ = false := hfz (b * 6 + 2 + 1)
    clear k3'
    obtain ⟨u4, k4'⟩ := hcl 4 (by omega)
    have k4 : Wf.cell? ⟨g, b * 6 + 2 + 2, none⟩ = some u4 := k4'
    have j4 : Wf.frozen? ⟨g, b * 6 + 2 + 2, none⟩ = false := hfz (b * 6 + 2 + 2)
    clear k4'
    obtain ⟨u5, k5'⟩ := hcl 5 (by omega)
    have k5 : Wf.cell? ⟨g, b * 6 + 2 + 3, none⟩ = some u5 := k5'
    have j5 : Wf.frozen? ⟨g, b * 6 + 2 + 3, none⟩ = false := hfz (b * 6 + 2 + 3)
    clear k5'
    have HE := Lib.hid hE
    clear hcl hfz hE
    go_wp2
    rw [← hw0, ← hWf]
    clear hWf
    refine wp_region_rt (fun W => W.cell? ⟨q, 3, none⟩ = some (.slice (some ⟨g, 0, none⟩) st.blocks.length cap) ∧ Blk W w.heap.size 41 #[.int .i64 (1), .slice none 0 0, .slice A 1 c, .int .i32 (0)]) (.q 0 (.q 1 (.q 2 (.q 3 (.q 4 (.q 5 (.q 6 (.q 7 (.q 8 (.fin 9)))))))))) (by kernel_rfl) (by kernel_rfl) ⟨c3, hblk⟩ ?_
    refine rt_quiet (.pointer (some ⟨q, 0, none⟩)) rfl rfl (fun W' hC => by simp [go_sem]) ?_
    simp only [put_lit, put_none, List.set_cons_succ, List.set_cons_zero]
    refine rt_quiet (.pointer (some ⟨q, 0, none⟩)) rfl rfl (fun W' hC => by simp [go_sem]) ?_
    simp only [put_lit, put_none, List.set_cons_succ, List.set_cons_zero]
    refine rt_quiet (.pointer (some ⟨q, 2, none⟩)) rfl rfl (fun W' hC => by simp [go_sem]) ?_
    simp only [put_lit, put_none, List.set_cons_succ, List.set_cons_zero]
    refine rt_quiet (.pointer (some ⟨q, 3, none⟩)) rfl rfl (fun W' hC => by simp [go_sem]) ?_
    simp only [put_lit, put_none, List.set_cons_succ, List.set_cons_zero]
    refine rt_quiet (.slice (some ⟨g, 0, none⟩) st.blocks.length cap) rfl rfl (fun W' hC => by simp [go_sem, hC.1]) ?_
    simp only [put_lit, put_none, List.set_cons_succ, List.set_cons_zero]
    refine rt_quiet (.int .i64 (b : Int)) rfl rfl (fun W' hC => by simp [go_sem]) ?_
    simp only [put_lit, put_none, List.set_cons_succ, List.set_cons_zero]
    refine rt_quiet (.agg #[.int .i64 (1), .slice none 0 0, .slice A 1 c, .int .i32 (0)]) rfl rfl (fun W' hC => by simp [go_sem, hC.2.cell (i := 0) rfl, hC.2.cell (i := 1) rfl, hC.2.cell (i := 2) rfl, hC.2.cell (i := 3) rfl]) ?_
    simp only [put_lit, put_none, List.set_cons_succ, List.set_cons_zero]
    refine rt_quiet (.pointer (some ⟨g, b * 6, none⟩)) rfl rfl (fun W' hC => by simp [go_sem, hbs]) ?_
    simp only [put_lit, put_none, List.set_cons_succ, List.set_cons_zero]
    refine rt_quiet (.pointer (some ⟨g, b * 6 + 2, none⟩)) rfl rfl (fun W' hC => by simp [go_sem]) ?_
    simp only [put_lit, put_none, List.set_cons_succ, List.set_cons_zero]
    refine fin_eff0 (w' := set4 Wf.drew g b (1) (.slice none 0 0) (.slice A 1 c) (0)) rfl rfl (by simp [go_sem, set4, k2, k3, k4, k5, j2, j3, j4, j5]) ?_
    simp only [put_lit, put_none, List.set_cons_succ, List.set_cons_zero]
    go_end0
    exact HE.out
  · -- two
    obtain ⟨w0, hw0⟩ : ∃ x, x = w.alloc (.cells #[.int .i64 2, .slice none 0 0, .slice A 2 c, .int .i32 0] 41) := ⟨_, rfl⟩
    have HG0 : Hid (GP w w0 q vs vts b 0 K 0 F F a st st) := by rw [hw0]; exact (GP.refl Hh.out Hs.out).ext0 ((Ext.refl [] w).alloc _)
    have HL0 : Hid (Lo w w0 F w.heap.size 41 #[.int .i64 2, .slice none 0 0, .slice A 2 c, .int .i32 0]) := by rw [hw0]; exact ⟨Blk.new w #[.int .i64 2, .slice none 0 0, .slice A 2 c, .int .i32 0] 41, fun h => by have := Hh.out.lt _ h; omega, Nat.le_refl _⟩
    have m0 := HG0.out.mm
    have s0 := Lib.hid HG0.out.sm
    have b0 := HG0.out.hb hb
    have l0 : st.blocks.length ≤ 100000 := by rw [HG0.out.gr.len]; exact hbl
    go_wp2_with fail
    rw [← hw0]
    refine (someG m0 s0.out (by omega) b b0 l0).mono ?_
    rintro e w1 ⟨v, a1, F1, st1, rfl, hv, g1⟩
    have HG1 := Lib.hid (HG0.out.trans g1)
    have HL1 := Lib.hid (HL0.out.step g1.fp)
    have Lv1 := Lib.hid hv
    clear g1 HG0 HL0 m0 s0 b0 l0 hv hw0
    have m1 := HG1.out.mm
    have s1 := Lib.hid HG1.out.sm
    have b1 := HG1.out.hb hb
    have l1 : st1.blocks.length ≤ 100000 := by rw [HG1.out.gr.len]; exact hbl
    go_wp2_with fail
    refine (takeG m1 s1.out (by omega) b 2 (by omega) (by omega)).mono ?_
    rintro e w2 ⟨z, a2, hz, rfl, g2⟩
    have HG2 := Lib.hid (HG1.out.trans g2)
    have HL2 := Lib.hid (HL1.out.step g2.fp)
    have Lv2 := Lib.hid (Lv1.out)
    clear g2 HG1 HL1 m1 s1 b1 l1 Lv1
    by_cases hz0 : z = 0
    · skip
      subst hz0
      have HB2 : Hid (Lo w (w2.alloc (.cells #[.int .i64 11, .int .i64 12, .int .i64 13] 90)) F1 w2.heap.size 90 #[.int .i64 11, .int .i64 12, .int .i64 13]) := ⟨Blk.new w2 _ _, fun h => by have := HG2.out.mm.lt _ h; omega, HG2.out.fp.1.size⟩
      have HG2 := Lib.hid (HG2.out.ext0 ((Ext.refl [] w2).alloc (.cells #[.int .i64 11, .int .i64 12, .int .i64 13] 90)))
      have HL2 := Lib.hid (HL2.out.ext0 ((Ext.refl [] w2).alloc (.cells #[.int .i64 11, .int .i64 12, .int .i64 13] 90)))
      have m2 := HG2.out.mm
      have s2 := Lib.hid HG2.out.sm
      have b2 := HG2.out.hb hb
      have l2 : st1.blocks.length ≤ 100000 := by rw [HG2.out.gr.len]; exact hbl
      go_wp2_with fail
      refine (someG m2 s2.out (by omega) b b2 l2).mono ?_
      rintro e w3 ⟨u, a3, F3, st3, rfl, hu, g3⟩
      have HG3 := Lib.hid (HG2.out.trans g3)
      have HL3 := Lib.hid (HL2.out.step g3.fp)
      have HB3 := Lib.hid (HB2.out.step g3.fp)
      have Lv3 := Lib.hid (g3.gr.live Lv2.out)
      have Lu3 := Lib.hid hu
      clear g3 HG2 HL2 m2 s2 b2 l2 HB2 Lv2 hu
      obtain ⟨m3, s3⟩ := (⟨HG3.out.mm, HG3.out.sm⟩ : _ ∧ _)
      have s3 := Lib.hid s3
      have b3 := HG3.out.hb hb
      have l3 : st3.blocks.length ≤ 100000 := by rw [HG3.out.gr.len]; exact hbl
      have hnx := s3.out.2.1
      have hax := s3.out.1
      go_wp2_with fail
      refine (fresh_calls m3 (by omega) (by omega)).mono ?_
      rintro e wf ⟨rfl, mf, hxf⟩
      obtain ⟨df, hdf⟩ : ∃ d, d = st3.next := ⟨_, rfl⟩
      rw [← hdf]
      have Hdf := Lib.hid hdf
      clear hdf
      go_wp2_with fail
      refine (take_calls mf (by omega) 3 (by omega) (by omega)).mono ?_
      rintro e wg ⟨k, hk, rfl, mg, hxg⟩
      have hk : k < 3 := by omega
      have hxx := hxf.same hxg
      obtain ⟨o, ho1, ho2, hot⟩ : ∃ o : Int, 11 ≤ o ∧ o ≤ 13 ∧ (#[.int .i64 11, .int .i64 12, .int .i64 13] : Array Value)[k]? = some (.int .i64 o) := by
        rcases k with _ | _ | _ | k
        · exact ⟨11, by decide, by decide, rfl⟩
        · exact ⟨12, by decide, by decide, rfl⟩
        · exact ⟨13, by decide, by decide, rfl⟩
        · omega
      have hcell := (HB3.out.blk.ext hxx HB3.out.off).cell hot
      have hrow := lit_ints (w := wg) [v, u] (by simp) (by simp)
      have Hrow := Lib.hid hrow
      clear hrow hot
      go_wp2_with fail
      refine (addG (hxx.alloc _) m3.lt m3.rd (mg.ext0 ((Ext.refl _ _).alloc _)) (s3.out.at' (a' := a3 + 1) (K' := K + (0 + 10 + 1 + 10) + 1) (by omega) (by omega)) (by omega) (by omega) (by omega) b b3 l3 (S := [wg.heap.size]) ⟨o, df, 0, [v, u], 0⟩ Hrow.out (by intro z hz; have := hxx.size; simp at hz; omega) (by simp) (by simp [insOk, opers_mid (show 2 ≤ o by omega) (show o ≤ 14 by omega)]; omega) (by intro y hy; simp at hy; rcases hy with rfl | rfl; exact Lv3.out; exact Lu3.out) (by intro y hy; rw [makes_one (by show o ≠ 16; omega) (by show o ≠ 18; omega)] at hy; simp at hy; rw [hy, Hdf.out]; omega) (by rw [makes_one (by show o ≠ 16; omega) (by show o ≠ 18; omega)]; simp)).mono ?_
      rintro e w4 ⟨rfl, F4, gl⟩
      have hmem := addI_mem (st := st3) (k := 1) (b := b) (x := ⟨o, df, 0, [v, u], 0⟩) (v := df) (by rw [makes_one (by show o ≠ 16; omega) (by show o ≠ 18; omega)]; simp)
      obtain ⟨st4, hst⟩ : ∃ x, x = MSt.addI { st3 with next := st3.next + 1 } b ⟨o, df, 0, [v, u], 0⟩ := ⟨_, rfl⟩
      rw [← hst] at gl hmem
      have HG4 := Lib.hid ((HG3.out.mono (Nat.le_refl _) (Nat.le_succ _)).trans gl)
      have HL4 := Lib.hid (HL3.out.step gl.fp)
      have Ldf4 := Lib.hid hmem
      clear gl hst hmem hcell mg mf hxf hxg hxx
      have q0 := HL4.out.blk.cell (i := 0) rfl
      have q1 := HL4.out.blk.cell (i := 1) rfl
      have q2 := HL4.out.blk.cell (i := 2) rfl
      have q3 := HL4.out.blk.cell (i := 3) rfl
      have r0 := HL4.out.blk.frozen 0
      have r1 := HL4.out.blk.frozen 1
      have r3 := HL4.out.blk.frozen 3
      have lw5 := HL4.out.blk.lt
      have lg5 := HG4.out.fp.1.size
      have lm5 := HG4.out.mm.lt
      have hrow := lit_ints (w := w4) [df] (by simp) (by simp)
      have HG5 := Lib.hid (HG4.out.ext0 ((Ext.refl [] w4).alloc (.cells #[.int .i64 df] 3)))
      have HL5 := Lib.hid (HL4.out.ext0 ((Ext.refl [] w4).alloc (.cells #[.int .i64 df] 3)))
      obtain ⟨w6, hv6⟩ : ∃ x, x = ((w4.setCell ⟨w.heap.size, 1, none⟩ (.slice (some ⟨w4.heap.size, 0, none⟩) 1 1)).alloc (.cells #[.int .i64 df] 3)) := ⟨_, rfl⟩
      have hw6 : w6 = (w4.alloc (.cells #[.int .i64 df] 3)).setCell ⟨w.heap.size, 1, none⟩ (.slice (some ⟨w4.heap.size, 0, none⟩) 1 1) := by rw [hv6]; simp [go_sem, lw5]
      have HG6 := Lib.hid (HG5.out.lo H0.out HL5.out 1 (.slice (some ⟨w4.heap.size, 0, none⟩) 1 1))
      rw [← hw6] at HG6
      have HL6 : Hid (Lo w w6 F4 w.heap.size 41 #[.int .i64 2, .slice (some ⟨w4.heap.size, 0, none⟩) 1 1, .slice A 2 c, .int .i32 0]) := by rw [hw6]; exact (HL5.out.set 1 (.slice (some ⟨w4.heap.size, 0, none⟩) 1 1))
      have HR : Hid (SlR kInt 3 w6 [w4.heap.size] (.slice (some ⟨w4.heap.size, 0, none⟩) 1 1) [df]) := by rw [hw6]; exact slr_set hrow (by simp; omega)
      obtain ⟨g, cap, c3, hbs, hcl, hfz, hE⟩ := end_fin (kind := 2) (imm := 0) (va := .slice (some ⟨w4.heap.size, 0, none⟩) 1 1) (vt := .slice A 2 c) (args := [df]) (Sx := [w4.heap.size]) HG6.out H0.out (by omega) (by omega) hb (HR.out) (by intro k hk; simp at hk; subst hk; exact ⟨fun h => by have := lm5 _ h; omega, by omega⟩) (by simp) (by intro y hy; simp at hy; rw [hy]; exact Ldf4.out) Hto.out (.inl Hv.out) (by simp [termOk, shapeF, ← Hm.out])
      obtain ⟨Wf, hWf⟩ : ∃ x, x = w6 := ⟨_, rfl⟩
      have hblk : Blk Wf.drew w.heap.size 41 #[.int .i64 (2), .slice (some ⟨w4.heap.size, 0, none⟩) 1 1, .slice A 2 c, .int .i32 (0)] := by rw [hWf]; exact (HL6.out.blk).drew
      rw [← hWf] at c3 hcl hfz hE
      obtain ⟨u2, k2'⟩ := hcl 2 (by omega)
      have k2 : Wf.cell? ⟨g, b * 6 + 2, none⟩ = some u2 := k2'
      have j2 : Wf.frozen? ⟨g, b * 6 + 2, none⟩ = false := hfz (b * 6 + 2)
      clear k2'
      obtain ⟨u3, k3'⟩ := hcl 3 (by omega)
      have k3 : Wf.cell? ⟨g, b * 6 + 2 + 1, none⟩ = some u3 := k3'
      have j3 : Wf.frozen? ⟨g, b * 6 + 2 + 1, none⟩ = false := hfz (b * 6 + 2 + 1)
      clear k3'
      obtain ⟨u4, k4'⟩ := hcl 4 (by omega)
      have k4 : Wf.cell? ⟨g, b * 6 + 2 + 2, none⟩ = some u4 := k4'
      have j4 : Wf.frozen? ⟨g, b * 6 + 2 + 2, none⟩ = false := hfz (b * 6 + 2 + 2)
      clear k4'
      obtain ⟨u5, k5'⟩ := hcl 5 (by omega)
      have k5 : Wf.cell? ⟨g, b * 6 + 2 + 3, none⟩ = some u5 := k5'
      have j5 : Wf.frozen? ⟨g, b * 6 + 2 + 3, none⟩ = false := hfz (b * 6 + 2 + 3)
      clear k5'
      have HE := Lib.hid hE
      clear hcl hfz hE
      go_wp2
      rw [← hv6, ← hWf]
      clear hWf
      refine wp_region_rt (fun W => W.cell? ⟨q, 3, none⟩ = some (.slice (some ⟨g, 0, none⟩) st4.blocks.length cap) ∧ Blk W w.heap.size 41 #[.int .i64 (2), .slice (some ⟨w4.heap.size, 0, none⟩) 1 1, .slice A 2 c, .int .i32 (0)]) (.q 0 (.q 1 (.q 2 (.q 3 (.q 4 (.q 5 (.q 6 (.q 7 (.q 8 (.fin 9)))))))))) (by kernel_rfl) (by kernel_rfl) ⟨c3, hblk⟩ ?_
      refine rt_quiet (.pointer (some ⟨q, 0, none⟩)) rfl rfl (fun W' hC => by simp [go_sem]) ?_
      simp only [put_lit, put_none, List.set_cons_succ, List.set_cons_zero]
      refine rt_quiet (.pointer (some ⟨q, 0, none⟩)) rfl rfl (fun W' hC => by simp [go_sem]) ?_
      simp only [put_lit, put_none, List.set_cons_succ, List.set_cons_zero]
      refine rt_quiet (.pointer (some ⟨q, 2, none⟩)) rfl rfl (fun W' hC => by simp [go_sem]) ?_
      simp only [put_lit, put_none, List.set_cons_succ, List.set_cons_zero]
      refine rt_quiet (.pointer (some ⟨q, 3, none⟩)) rfl rfl (fun W' hC => by simp [go_sem]) ?_
      simp only [put_lit, put_none, List.set_cons_succ, List.set_cons_zero]
      refine rt_quiet (.slice (some ⟨g, 0, none⟩) st4.blocks.length cap) rfl rfl (fun W' hC => by simp [go_sem, hC.1]) ?_
      simp only [put_lit, put_none, List.set_cons_succ, List.set_cons_zero]
      refine rt_quiet (.int .i64 (b : Int)) rfl rfl (fun W' hC => by simp [go_sem]) ?_
      simp only [put_lit, put_none, List.set_cons_succ, List.set_cons_zero]
      refine rt_quiet (.agg #[.int .i64 (2), .slice (some ⟨w4.heap.size, 0, none⟩) 1 1, .slice A 2 c, .int .i32 (0)]) rfl rfl (fun W' hC => by simp [go_sem, hC.2.cell (i := 0) rfl, hC.2.cell (i := 1) rfl, hC.2.cell (i := 2) rfl, hC.2.cell (i := 3) rfl]) ?_
      simp only [put_lit, put_none, List.set_cons_succ, List.set_cons_zero]
      refine rt_quiet (.pointer (some ⟨g, b * 6, none⟩)) rfl rfl (fun W' hC => by simp [go_sem, hbs]) ?_
      simp only [put_lit, put_none, List.set_cons_succ, List.set_cons_zero]
      refine rt_quiet (.pointer (some ⟨g, b * 6 + 2, none⟩)) rfl rfl (fun W' hC => by simp [go_sem]) ?_
      simp only [put_lit, put_none, List.set_cons_succ, List.set_cons_zero]
      refine fin_eff0 (w' := set4 Wf.drew g b (2) (.slice (some ⟨w4.heap.size, 0, none⟩) 1 1) (.slice A 2 c) (0)) rfl rfl (by simp [go_sem, set4, k2, k3, k4, k5, j2, j3, j4, j5]) ?_
      simp only [put_lit, put_none, List.set_cons_succ, List.set_cons_zero]
      go_end0
      exact HE.out
    · skip
      have e0 : ((z : Int) == 0) = false := by simp; omega
      have q0 := HL2.out.blk.cell (i := 0) rfl
      have q1 := HL2.out.blk.cell (i := 1) rfl
      have q2 := HL2.out.blk.cell (i := 2) rfl
      have q3 := HL2.out.blk.cell (i := 3) rfl
      have r0 := HL2.out.blk.frozen 0
      have r1 := HL2.out.blk.frozen 1
      have r3 := HL2.out.blk.frozen 3
      have lw3 := HL2.out.blk.lt
      have lg3 := HG2.out.fp.1.size
      have lm3 := HG2.out.mm.lt
      have hrow := lit_ints (w := w2) [v] (by simp) (by simp)
      have HG3 := Lib.hid (HG2.out.ext0 ((Ext.refl [] w2).alloc (.cells #[.int .i64 v] 3)))
      have HL3 := Lib.hid (HL2.out.ext0 ((Ext.refl [] w2).alloc (.cells #[.int .i64 v] 3)))
      obtain ⟨w4, hv4⟩ : ∃ x, x = ((w2.setCell ⟨w.heap.size, 1, none⟩ (.slice (some ⟨w2.heap.size, 0, none⟩) 1 1)).alloc (.cells #[.int .i64 v] 3)) := ⟨_, rfl⟩
      have hw4 : w4 = (w2.alloc (.cells #[.int .i64 v] 3)).setCell ⟨w.heap.size, 1, none⟩ (.slice (some ⟨w2.heap.size, 0, none⟩) 1 1) := by rw [hv4]; simp [go_sem, lw3]
      have HG4 := Lib.hid (HG3.out.lo H0.out HL3.out 1 (.slice (some ⟨w2.heap.size, 0, none⟩) 1 1))
      rw [← hw4] at HG4
      have HL4 : Hid (Lo w w4 F1 w.heap.size 41 #[.int .i64 2, .slice (some ⟨w2.heap.size, 0, none⟩) 1 1, .slice A 2 c, .int .i32 0]) := by rw [hw4]; exact (HL3.out.set 1 (.slice (some ⟨w2.heap.size, 0, none⟩) 1 1))
      have HR : Hid (SlR kInt 3 w4 [w2.heap.size] (.slice (some ⟨w2.heap.size, 0, none⟩) 1 1) [v]) := by rw [hw4]; exact slr_set hrow (by simp; omega)
      obtain ⟨g, cap, c3, hbs, hcl, hfz, hE⟩ := end_fin (kind := 2) (imm := 0) (va := .slice (some ⟨w2.heap.size, 0, none⟩) 1 1) (vt := .slice A 2 c) (args := [v]) (Sx := [w2.heap.size]) HG4.out H0.out (by omega) (by omega) hb (HR.out) (by intro k hk; simp at hk; subst hk; exact ⟨fun h => by have := lm3 _ h; omega, by omega⟩) (by simp) (by intro y hy; simp at hy; rw [hy]; exact Lv2.out) Hto.out (.inl Hv.out) (by simp [termOk, shapeF, ← Hm.out])
      obtain ⟨Wf, hWf⟩ : ∃ x, x = w4 := ⟨_, rfl⟩
      have hblk : Blk Wf.drew w.heap.size 41 #[.int .i64 (2), .slice (some ⟨w2.heap.size, 0, none⟩) 1 1, .slice A 2 c, .int .i32 (0)] := by rw [hWf]; exact (HL4.out.blk).drew
      rw [← hWf] at c3 hcl hfz hE
      obtain ⟨u2, k2'⟩ := hcl 2 (by omega)
      have k2 : Wf.cell? ⟨g, b * 6 + 2, none⟩ = some u2 := k2'
      have j2 : Wf.frozen? ⟨g, b * 6 + 2, none⟩ = false := hfz (b * 6 + 2)
      clear k2'
      obtain ⟨u3, k3'⟩ := hcl 3 (by omega)
      have k3 : Wf.cell? ⟨g, b * 6 + 2 + 1, none⟩ = some u3 := k3'
      have j3 : Wf.frozen? ⟨g, b * 6 + 2 + 1, none⟩ = false := hfz (b * 6 + 2 + 1)
      clear k3'
      obtain ⟨u4, k4'⟩ := hcl 4 (by omega)
      have k4 : Wf.cell? ⟨g, b * 6 + 2 + 2, none⟩ = some u4 := k4'
      have j4 : Wf.frozen? ⟨g, b * 6 + 2 + 2, none⟩ = false := hfz (b * 6 + 2 + 2)
      clear k4'
      obtain ⟨u5, k5'⟩ := hcl 5 (by omega)
      have k5 : Wf.cell? ⟨g, b * 6 + 2 + 3, none⟩ = some u5 := k5'
      have j5 : Wf.frozen? ⟨g, b * 6 + 2 + 3, none⟩ = false := hfz (b * 6 + 2 + 3)
      clear k5'
      have HE := Lib.hid hE
      clear hcl hfz hE
      go_wp2
      rw [← hv4, ← hWf]
      clear hWf
      refine wp_region_rt (fun W => W.cell? ⟨q, 3, none⟩ = some (.slice (some ⟨g, 0, none⟩) st1.blocks.length cap) ∧ Blk W w.heap.size 41 #[.int .i64 (2), .slice (some ⟨w2.heap.size, 0, none⟩) 1 1, .slice A 2 c, .int .i32 (0)]) (.q 0 (.q 1 (.q 2 (.q 3 (.q 4 (.q 5 (.q 6 (.q 7 (.q 8 (.fin 9)))))))))) (by kernel_rfl) (by kernel_rfl) ⟨c3, hblk⟩ ?_
      refine rt_quiet (.pointer (some ⟨q, 0, none⟩)) rfl rfl (fun W' hC => by simp [go_sem]) ?_
      simp only [put_lit, put_none, List.set_cons_succ, List.set_cons_zero]
      refine rt_quiet (.pointer (some ⟨q, 0, none⟩)) rfl rfl (fun W' hC => by simp [go_sem]) ?_
      simp only [put_lit, put_none, List.set_cons_succ, List.set_cons_zero]
      refine rt_quiet (.pointer (some ⟨q, 2, none⟩)) rfl rfl (fun W' hC => by simp [go_sem]) ?_
      simp only [put_lit, put_none, List.set_cons_succ, List.set_cons_zero]
      refine rt_quiet (.pointer (some ⟨q, 3, none⟩)) rfl rfl (fun W' hC => by simp [go_sem]) ?_
      simp only [put_lit, put_none, List.set_cons_succ, List.set_cons_zero]
      refine rt_quiet (.slice (some ⟨g, 0, none⟩) st1.blocks.length cap) rfl rfl (fun W' hC => by simp [go_sem, hC.1]) ?_
      simp only [put_lit, put_none, List.set_cons_succ, List.set_cons_zero]
      refine rt_quiet (.int .i64 (b : Int)) rfl rfl (fun W' hC => by simp [go_sem]) ?_
      simp only [put_lit, put_none, List.set_cons_succ, List.set_cons_zero]
      refine rt_quiet (.agg #[.int .i64 (2), .slice (some ⟨w2.heap.size, 0, none⟩) 1 1, .slice A 2 c, .int .i32 (0)]) rfl rfl (fun W' hC => by simp [go_sem, hC.2.cell (i := 0) rfl, hC.2.cell (i := 1) rfl, hC.2.cell (i := 2) rfl, hC.2.cell (i := 3) rfl]) ?_
      simp only [put_lit, put_none, List.set_cons_succ, List.set_cons_zero]
      refine rt_quiet (.pointer (some ⟨g, b * 6, none⟩)) rfl rfl (fun W' hC => by simp [go_sem, hbs]) ?_
      simp only [put_lit, put_none, List.set_cons_succ, List.set_cons_zero]
      refine rt_quiet (.pointer (some ⟨g, b * 6 + 2, none⟩)) rfl rfl (fun W' hC => by simp [go_sem]) ?_
      simp only [put_lit, put_none, List.set_cons_succ, List.set_cons_zero]
      refine fin_eff0 (w' := set4 Wf.drew g b (2) (.slice (some ⟨w2.heap.size, 0, none⟩) 1 1) (.slice A 2 c) (0)) rfl rfl (by simp [go_sem, set4, k2, k3, k4, k5, j2, j3, j4, j5]) ?_
      simp only [put_lit, put_none, List.set_cons_succ, List.set_cons_zero]
      go_end0
      exact HE.out
  · -- more
    have e3 : decide (m = 0) = false := by simp; omega
    have f0 : ((m : Int) == 0) = false := by simp; omega
    have f1 : ((m : Int) == 1) = false := by simp; omega
    have f2 : ((m : Int) == 2) = false := by simp; omega
    obtain ⟨w0, hw0⟩ : ∃ x, x = w.alloc (.cells #[.int .i64 3, .slice none 0 0, .slice A m c, .int .i32 0] 41) := ⟨_, rfl⟩
    have HG0 : Hid (GP w w0 q vs vts b 0 K 0 F F a st st) := by rw [hw0]; exact (GP.refl Hh.out Hs.out).ext0 ((Ext.refl [] w).alloc _)
    have HL0 : Hid (Lo w w0 F w.heap.size 41 #[.int .i64 3, .slice none 0 0, .slice A m c, .int .i32 0]) := by rw [hw0]; exact ⟨Blk.new w #[.int .i64 3, .slice none 0 0, .slice A m c, .int .i32 0] 41, fun h => by have := Hh.out.lt _ h; omega, Nat.le_refl _⟩
    have m0 := HG0.out.mm
    have s0 := Lib.hid HG0.out.sm
    have b0 := HG0.out.hb hb
    have l0 : st.blocks.length ≤ 100000 := by rw [HG0.out.gr.len]; exact hbl
    go_wp2_with fail
    rw [← hw0]
    refine (someG m0 s0.out (by omega) b b0 l0).mono ?_
    rintro e w1 ⟨v, a1, F1, st1, rfl, hv, g1⟩
    have HG1 := Lib.hid (HG0.out.trans g1)
    have HL1 := Lib.hid (HL0.out.step g1.fp)
    have Lv1 := Lib.hid hv
    clear g1 HG0 HL0 m0 s0 b0 l0 hv hw0
    have m1 := HG1.out.mm
    have s1 := Lib.hid HG1.out.sm
    have b1 := HG1.out.hb hb
    have l1 : st1.blocks.length ≤ 100000 := by rw [HG1.out.gr.len]; exact hbl
    go_wp2_with fail
    refine (constE m1 s1.out (by omega) b b1 l1 7).mono ?_
    rintro e w2 ⟨u, a2, F2, st2, rfl, hu, g2⟩
    have HG2 := Lib.hid (HG1.out.trans g2)
    have HL2 := Lib.hid (HL1.out.step g2.fp)
    have Lv2 := Lib.hid (g2.gr.live Lv1.out)
    have Lu2 := Lib.hid hu
    clear g2 HG1 HL1 m1 s1 b1 l1 Lv1 hu
    have m2 := HG2.out.mm
    have s2 := Lib.hid HG2.out.sm
    have b2 := HG2.out.hb hb
    have l2 : st2.blocks.length ≤ 100000 := by rw [HG2.out.gr.len]; exact hbl
    have hnx := s2.out.2.1
    go_wp2_with fail
    refine (fresh_calls m2 (by omega) (by omega)).mono ?_
    rintro e wf ⟨rfl, mf, hxf⟩
    obtain ⟨df, hdf⟩ : ∃ d, d = st2.next := ⟨_, rfl⟩
    rw [← hdf]
    have Hdf := Lib.hid hdf
    clear hdf
    have hrow := lit_ints (w := wf) [v, u] (by simp) (by simp)
    have Hrow := Lib.hid hrow
    clear hrow
    go_wp2_with fail
    refine (addG (k := 1) (hxf.alloc _) m2.lt m2.rd (mf.ext0 ((Ext.refl _ _).alloc _)) s2.out (by omega) (by omega) (by omega) b b2 l2 (S := [wf.heap.size]) ⟨5, df, 0, [v, u], 0⟩ Hrow.out (by intro z hz; have := hxf.size; simp at hz; omega) (by simp) (by simp [insOk, opersF]) (by intro y hy; simp at hy; rcases hy with rfl | rfl; exact Lv2.out; exact Lu2.out) (by intro y hy; simp [makesF] at hy; rw [hy, Hdf.out]; omega) (by simp [makesF])).mono ?_
    rintro e w3 ⟨rfl, F3, gl⟩
    have hmem := addI_mem (st := st2) (k := 1) (b := b) (x := ⟨5, df, 0, [v, u], 0⟩) (v := df) (by simp [makesF])
    obtain ⟨st3, hst⟩ : ∃ x, x = MSt.addI { st2 with next := st2.next + 1 } b ⟨5, df, 0, [v, u], 0⟩ := ⟨_, rfl⟩
    rw [← hst] at gl hmem
    have HG3 := Lib.hid (HG2.out.trans gl)
    have HL3 := Lib.hid (HL2.out.step gl.fp)
    have Ldf3 := Lib.hid hmem
    clear gl hst hmem mf hxf
    have q0 := HL3.out.blk.cell (i := 0) rfl
    have q1 := HL3.out.blk.cell (i := 1) rfl
    have q2 := HL3.out.blk.cell (i := 2) rfl
    have q3 := HL3.out.blk.cell (i := 3) rfl
    have r0 := HL3.out.blk.frozen 0
    have r1 := HL3.out.blk.frozen 1
    have r3 := HL3.out.blk.frozen 3
    have lw4 := HL3.out.blk.lt
    have lg4 := HG3.out.fp.1.size
    have lm4 := HG3.out.mm.lt
    have hrow := lit_ints (w := w3) [df] (by simp) (by simp)
    have HG4 := Lib.hid (HG3.out.ext0 ((Ext.refl [] w3).alloc (.cells #[.int .i64 df] 3)))
    have HL4 := Lib.hid (HL3.out.ext0 ((Ext.refl [] w3).alloc (.cells #[.int .i64 df] 3)))
    obtain ⟨w5, hv5⟩ : ∃ x, x = ((w3.setCell ⟨w.heap.size, 1, none⟩ (.slice (some ⟨w3.heap.size, 0, none⟩) 1 1)).alloc (.cells #[.int .i64 df] 3)) := ⟨_, rfl⟩
    have hw5 : w5 = (w3.alloc (.cells #[.int .i64 df] 3)).setCell ⟨w.heap.size, 1, none⟩ (.slice (some ⟨w3.heap.size, 0, none⟩) 1 1) := by rw [hv5]; simp [go_sem, lw4]
    have HG5 := Lib.hid (HG4.out.lo H0.out HL4.out 1 (.slice (some ⟨w3.heap.size, 0, none⟩) 1 1))
    rw [← hw5] at HG5
    have HL5 : Hid (Lo w w5 F3 w.heap.size 41 #[.int .i64 3, .slice (some ⟨w3.heap.size, 0, none⟩) 1 1, .slice A m c, .int .i32 0]) := by rw [hw5]; exact (HL4.out.set 1 (.slice (some ⟨w3.heap.size, 0, none⟩) 1 1))
    have HR : Hid (SlR kInt 3 w5 [w3.heap.size] (.slice (some ⟨w3.heap.size, 0, none⟩) 1 1) [df]) := by rw [hw5]; exact slr_set hrow (by simp; omega)
    obtain ⟨g, cap, c3, hbs, hcl, hfz, hE⟩ := end_fin (kind := 3) (imm := 0) (va := .slice (some ⟨w3.heap.size, 0, none⟩) 1 1) (vt := .slice A m c) (args := [df]) (Sx := [w3.heap.size]) HG5.out H0.out (by omega) (by omega) hb (HR.out) (by intro k hk; simp at hk; subst hk; exact ⟨fun h => by have := lm4 _ h; omega, by omega⟩) (by simp) (by intro y hy; simp at hy; rw [hy]; exact Ldf3.out) Hto.out (.inl Hv.out) (by have := Hm.out; simp [termOk, shapeF]; omega)
    obtain ⟨Wf, hWf⟩ : ∃ x, x = w5 := ⟨_, rfl⟩
    have hblk : Blk Wf.drew w.heap.size 41 #[.int .i64 (3), .slice (some ⟨w3.heap.size, 0, none⟩) 1 1, .slice A m c, .int .i32 (0)] := by rw [hWf]; exact (HL5.out.blk).drew
    rw [← hWf] at c3 hcl hfz hE
    obtain ⟨u2, k2'⟩ := hcl 2 (by omega)
    have k2 : Wf.cell? ⟨g, b * 6 + 2, none⟩ = some u2 := k2'
    have j2 : Wf.frozen? ⟨g, b * 6 + 2, none⟩ = false := hfz (b * 6 + 2)
    clear k2'
    obtain ⟨u3, k3'⟩ := hcl 3 (by omega)
    have k3 : Wf.cell? ⟨g, b * 6 + 2 + 1, none⟩ = some u3 := k3'
    have j3 : Wf.frozen? ⟨g, b * 6 + 2 + 1, none⟩ = false := hfz (b * 6 + 2 + 1)
    clear k3'
    obtain ⟨u4, k4'⟩ := hcl 4 (by omega)
    have k4 : Wf.cell? ⟨g, b * 6 + 2 + 2, none⟩ = some u4 := k4'
    have j4 : Wf.frozen? ⟨g, b * 6 + 2 + 2, none⟩ = false := hfz (b * 6 + 2 + 2)
    clear k4'
    obtain ⟨u5, k5'⟩ := hcl 5 (by omega)
    have k5 : Wf.cell? ⟨g, b * 6 + 2 + 3, none⟩ = some u5 := k5'
    have j5 : Wf.frozen? ⟨g, b * 6 + 2 + 3, none⟩ = false := hfz (b * 6 + 2 + 3)
    clear k5'
    have HE := Lib.hid hE
    clear hcl hfz hE
    go_wp2
    rw [← hv5, ← hWf]
    clear hWf
    refine wp_region_rt (fun W => W.cell? ⟨q, 3, none⟩ = some (.slice (some ⟨g, 0, none⟩) st3.blocks.length cap) ∧ Blk W w.heap.size 41 #[.int .i64 (3), .slice (some ⟨w3.heap.size, 0, none⟩) 1 1, .slice A m c, .int .i32 (0)]) (.q 0 (.q 1 (.q 2 (.q 3 (.q 4 (.q 5 (.q 6 (.q 7 (.q 8 (.fin 9)))))))))) (by kernel_rfl) (by kernel_rfl) ⟨c3, hblk⟩ ?_
    refine rt_quiet (.pointer (some ⟨q, 0, none⟩)) rfl rfl (fun W' hC => by simp [go_sem]) ?_
    simp only [put_lit, put_none, List.set_cons_succ, List.set_cons_zero]
    refine rt_quiet (.pointer (some ⟨q, 0, none⟩)) rfl rfl (fun W' hC => by simp [go_sem]) ?_
    simp only [put_lit, put_none, List.set_cons_succ, List.set_cons_zero]
    refine rt_quiet (.pointer (some ⟨q, 2, none⟩)) rfl rfl (fun W' hC => by simp [go_sem]) ?_
    simp only [put_lit, put_none, List.set_cons_succ, List.set_cons_zero]
    refine rt_quiet (.pointer (some ⟨q, 3, none⟩)) rfl rfl (fun W' hC => by simp [go_sem]) ?_
    simp only [put_lit, put_none, List.set_cons_succ, List.set_cons_zero]
    refine rt_quiet (.slice (some ⟨g, 0, none⟩) st3.blocks.length cap) rfl rfl (fun W' hC => by simp [go_sem, hC.1]) ?_
    simp only [put_lit, put_none, List.set_cons_succ, List.set_cons_zero]
    refine rt_quiet (.int .i64 (b : Int)) rfl rfl (fun W' hC => by simp [go_sem]) ?_
    simp only [put_lit, put_none, List.set_cons_succ, List.set_cons_zero]
    refine rt_quiet (.agg #[.int .i64 (3), .slice (some ⟨w3.heap.size, 0, none⟩) 1 1, .slice A m c, .int .i32 (0)]) rfl rfl (fun W' hC => by simp [go_sem, hC.2.cell (i := 0) rfl, hC.2.cell (i := 1) rfl, hC.2.cell (i := 2) rfl, hC.2.cell (i := 3) rfl]) ?_
    simp only [put_lit, put_none, List.set_cons_succ, List.set_cons_zero]
    refine rt_quiet (.pointer (some ⟨g, b * 6, none⟩)) rfl rfl (fun W' hC => by simp [go_sem, hbs]) ?_
    simp only [put_lit, put_none, List.set_cons_succ, List.set_cons_zero]
    refine rt_quiet (.pointer (some ⟨g, b * 6 + 2, none⟩)) rfl rfl (fun W' hC => by simp [go_sem]) ?_
    simp only [put_lit, put_none, List.set_cons_succ, List.set_cons_zero]
    refine fin_eff0 (w' := set4 Wf.drew g b (3) (.slice (some ⟨w3.heap.size, 0, none⟩) 1 1) (.slice A m c) (0)) rfl rfl (by simp [go_sem, set4, k2, k3, k4, k5, j2, j3, j4, j5]) ?_
    simp only [put_lit, put_none, List.set_cons_succ, List.set_cons_zero]
    go_end0
    exact HE.out
end Go.Proofs.Ytkmgbejhbkbaoaa

/- The maker of functions: which blocks lead to a block. -/
namespace Go.Proofs.Ytkmgbejhbkbaoaa
set_option linter.unusedSimpArgs false
set_option linter.unusedVariables false
open Go.RowKit

def predsT (bs : List JBlock) (b : Int) : List Nat := (List.range bs.length).filter fun p => (bs.getD p default).term.to.contains b
theorem predsT_part (bs : List JBlock) (b : Int) (i : Nat) (x : JBlock) (hx : bs.getD i default = x) :
    (List.range (i + 1)).filter (fun p => (bs.getD p default).term.to.contains b) = (List.range i).filter (fun p => (bs.getD p default).term.to.contains b) ++ (if x.term.to.contains b then [i] else []) := by
  rw [List.range_succ, List.filter_append]
  subst hx
  congr 1
  by_cases h : (bs.getD i default).term.to.contains b <;> simp [h, List.filter_cons]
set_option maxRecDepth 20000 in
set_option maxHeartbeats 1600000 in
theorem mpreds_calls {w : World} {S : List Nat} {v : Value} {f : JFunc} (h : FnR w S v f) (hn : f.blocks.length ≤ 1073741824) (hl : ∀ x ∈ f.blocks, x.term.to.length ≤ 1073741824) (b : Int) :
    Calls Try.prog 21 #[v, .int .i64 b] w fun e w' => ∃ v' S', e = .returned v' ∧ SlR kNat 3 w' S' v' (predsT f.blocks b) ∧ New w w' S' := by
  obtain ⟨vb, rfl, hb⟩ := h
  obtain ⟨A, cap, rfl, hcap⟩ := hb.shape
  go_enter Try.func21, Try.ntmps21
  go_wp2
  go_loopg [5, 6] f.blocks.length (fun k vo vi wr => ∃ (i : Nat) (So : List Nat), vi = .int .i64 (i : Int) ∧ i ≤ f.blocks.length ∧ Hid (i + k = f.blocks.length) ∧
    SlR kNat 3 wr So vo ((List.range i).filter fun p => (f.blocks.getD p default).term.to.contains b) ∧ New w wr So ∧ Blk wr w.heap.size 26 #[.int .i64 f.params, .slice A f.blocks.length cap] ∧ w.heap.size ∉ So)
  case atStart => exact ⟨0, [], rfl, by omega, by simp [Hid], by simpa using (.inl ⟨_, rfl, rfl, rfl⟩), ⟨((Ext.refl _ _).alloc _).alloc _, by simp, by simp⟩, (Blk.new _ _ _).alloc _, by simp⟩
  case round =>
    obtain ⟨i, So, rfl, hi, HK, hso, hnew, hblk, hnin⟩ := hrel
    obtain ⟨q1, hq1⟩ : ∃ x, x = gk := ⟨_, rfl⟩
    subst hq1
    have hsz := hblk.lt
    by_cases hlt : i < f.blocks.length
    · obtain ⟨g, cap', Ap, cp, Ai, ci, Aa, ca, At, ct, Sb, Sp, Si, Sa, St, hv, hg, hsub, hbc, c0, c1, c2, c3, c4, c5⟩ := FnR.block (hb.ext0 hnew.ext) i hlt
      cases hv
      have d0 := hblk.cell (i := 0) rfl
      have d1 := hblk.cell (i := 1) rfl
      have Hpart := Lib.hid (predsT_part f.blocks b i f.blocks[i] (by simp [List.getD_eq_getElem?_getD, List.getElem?_eq_getElem hlt]))
      have hfl : ((List.range i).filter fun p => (f.blocks.getD p default).term.to.contains b).length ≤ 1073741824 := Nat.le_trans (List.length_filter_le _ _) (by rw [List.length_range]; omega)
      obtain ⟨A5, k5, hv5, _⟩ := hso.shape
      subst hv5
      obtain ⟨L5, hL5⟩ : ∃ l, l = ((List.range i).filter fun p => (f.blocks.getD p default).term.to.contains b) := ⟨_, rfl⟩
      rw [← hL5] at hso hfl
      have HL5 := Lib.hid hL5
      rw [← hL5] at Hpart
      rw [← hL5]
      clear hL5
      have hxl := hl _ (List.getElem_mem hlt)
      generalize hx : f.blocks[i] = x at *
      have ht := Lib.hid hbc.t
      have Hso := Lib.hid hso
      have Hnew := Lib.hid hnew
      clear hbc c0 c1 c2 c3 c5 hx hso
      obtain ⟨wr1, hwr1⟩ : ∃ x, x = wr := ⟨_, rfl⟩
      subst hwr1
      go_wp2
      go_loopg [5, 8] x.term.to.length (fun k v5 vi wr2 => ∃ (j : Nat), v5 = .slice A5 L5.length k5 ∧ vi = .int .i64 (j : Int) ∧ j ≤ x.term.to.length ∧ Hid (j + k = x.term.to.length) ∧ wr2 = wr1 ∧ Hid ((x.term.to.take j).contains b = false))
      case atStart => exact ⟨0, rfl, rfl, by omega, by simp [Hid], rfl, by simp [Hid]⟩
      case round =>
        obtain ⟨j, rfl, rfl, hj, HJ, rfl, hno⟩ := hrel
        by_cases hlj : j < x.term.to.length
        · obtain ⟨gt, ct', hvt, hSt, hct, hft⟩ := ht.out.cell j hlj
          cases hvt
          have Htk := Lib.hid (List.take_succ_eq_append_getElem hlj)
          generalize hgy : x.term.to[j] = y at *
          have Hmem : Hid (y ∈ x.term.to) := by rw [Hid, ← hgy]; exact List.getElem_mem hlj
          clear hgy
          by_cases hyb : y = b
          · subst hyb
            have hc : x.term.to.contains y = true := by simpa using Hmem.out
            go_wp2_with (at_builtin; refine wpList_append_sl (d := kNat) (ys := [i]) rfl (.tmp 36) (.tmp 38) 22 rfl ei_int rfl (Hso.out.ext0 ((Ext.refl _ _).alloc _)) rfl [.int .i64 (i : Int)] [[]] elems_one rfl (one_one rfl) (Src.one rfl) (by simp) (le_maxLen hfl) (le_bytes hfl (by decide)) ?_; intro v' w' S' hs' hx' hf' hn')
            go_roundg (q1 - 1)
            case measure => have := HK.out; omega
            case rel =>
              have hnew2 := Hnew.out.append ((Ext.refl _ _).alloc _) hx' hf' hn'
              have hxx := (((Ext.refl [] wr).alloc (.cells #[.int .i64 (i : Int)] 3)).mono (M' := So) (by simp)).same hx'
              refine ⟨i + 1, S', by go_num, by omega, by have := HK.out; simp only [Hid]; omega, ?_, hnew2, hblk.ext hxx hnin, fun hk => ?_⟩
              · rw [Hpart.out, if_pos hc]; exact hs'
              · rcases hf' _ hk with h1 | h1 | h1
                · exact hnin h1
                · simp at h1; omega
                · simp at h1
          · have ey : (y == b) = false := by simpa using hyb
            go_wp2
            go_roundg (gk - 1)
            case measure => have h9 : j + gk = x.term.to.length := HJ.out; omega
            case rel =>
              refine ⟨j + 1, rfl, by go_num, by omega, by have := HJ.out; simp only [Hid]; omega, rfl, ?_⟩
              rw [Hid, Htk.out, List.contains_eq_any_beq, List.any_append, ← List.contains_eq_any_beq, hno.out]
              simpa using fun e => hyb e.symm
        · have hje : j = x.term.to.length := by omega
          subst hje
          have hc : x.term.to.contains b = false := by have := hno.out; rwa [List.take_length] at this
          go_wp2
          go_roundg (q1 - 1)
          case measure => have := HK.out; omega
          case rel =>
            refine ⟨i + 1, So, by go_num, by omega, by have := HK.out; simp only [Hid]; omega, ?_, Hnew.out, hblk, hnin⟩
            rw [Hpart.out, if_neg (by rw [hc]; simp), List.append_nil]
            exact Hso.out
    · have hi' : i = f.blocks.length := by omega
      subst hi'
      have d0 := hblk.cell (i := 0) rfl
      have d1 := hblk.cell (i := 1) rfl
      go_wp2
      go_ret
      exact ⟨_, So, rfl, hso, hnew⟩
end Go.Proofs.Ytkmgbejhbkbaoaa

/- The maker of functions: what is come to with one block cut out. -/
namespace Go.Proofs.Ytkmgbejhbkbaoaa
set_option linter.unusedSimpArgs false
set_option linter.unusedVariables false
open Go.RowKit

/-! ### plain -/
def offN (rs : List Bool) : Nat := (rs.filter fun x => !x).length
theorem offN_set : ∀ (rs : List Bool) (j : Nat), rs[j]? = some false → offN (rs.set j true) + 1 = offN rs
  | [], j, h => by simp at h
  | x :: rs, 0, h => by simp at h; subst h; simp [offN]
  | x :: rs, j + 1, h => by
    have := offN_set rs j (by simpa using h)
    cases x
    · simp only [offN, List.set_cons_succ, List.filter_cons, Bool.not_false, if_true, List.length_cons] at this ⊢
      omega
    · simpa [offN, List.set_cons_succ, List.filter_cons] using this
structure RchI (bs : List JBlock) (off : Nat) (rs : List Bool) (L : List Nat) : Prop where
  len : rs.length = bs.length
  mem : ∀ x, rs[x]? = some true → x ∈ L
  mem' : ∀ x ∈ L, rs[x]? = some true
  cnt : L.length + offN rs = bs.length
  zero : off ≠ 0 → 0 < bs.length → rs[0]? = some true
theorem RchI.start1 (bs : List JBlock) : RchI bs 0 (List.replicate bs.length false) [] := by
  refine ⟨by simp, fun x hx => ?_, by simp, by simp [offN], fun h => absurd rfl h⟩
  rw [List.getElem?_replicate] at hx
  split at hx <;> simp at hx
/-- the blocks it goes to are come to -/
def DoneTo (off : Nat) (rs : List Bool) (to : List Int) : Prop := ∀ t ∈ to, ∀ n : Nat, t = (n : Int) → n ≠ off → rs[n]? = some true
theorem RchI.put {bs : List JBlock} {off : Nat} {rs : List Bool} {L : List Nat} (h : RchI bs off rs L) {j : Nat} (hj : rs[j]? = some false) : RchI bs off (rs.set j true) (L ++ [j]) := by
  have hlt : j < rs.length := (List.getElem?_eq_some_iff.1 hj).1
  refine ⟨by rw [List.length_set]; exact h.len, fun x hx => ?_, fun x hx => ?_, ?_, fun h1 h2 => ?_⟩
  · by_cases e : j = x
    · subst e; simp
    · rw [List.getElem?_set_ne e] at hx
      exact List.mem_append_left _ (h.mem x hx)
  · by_cases e : j = x
    · subst e; rw [List.getElem?_set_self hlt]
    · rw [List.getElem?_set_ne e]
      rcases List.mem_append.1 hx with hx | hx
      · exact h.mem' x hx
      · simp at hx; exact absurd hx.symm e
  · have := offN_set rs j hj
    have := h.cnt
    simp; omega
  · by_cases e : j = 0
    · subst e; rw [List.getElem?_set_self hlt]
    · rw [List.getElem?_set_ne e]; exact h.zero h1 h2
theorem RchI.start2 {bs : List JBlock} (h0 : 0 < bs.length) (off : Nat) : RchI bs off ((List.replicate bs.length false).set 0 true) ([] ++ [0]) := by
  have h := (RchI.start1 bs).put (j := 0) (by rw [List.getElem?_replicate, if_pos h0])
  exact ⟨h.len, h.mem, h.mem', h.cnt, fun _ _ => by rw [List.getElem?_set_self (by simpa using h0)]⟩
theorem DoneTo.put {off : Nat} {rs : List Bool} {to : List Int} (h : DoneTo off rs to) {j : Nat} (hj : j < rs.length) : DoneTo off (rs.set j true) to := fun t ht n hn ho => by
  by_cases e : j = n
  · subst e; rw [List.getElem?_set_self hj]
  · rw [List.getElem?_set_ne e]; exact h t ht n hn ho
theorem rwo_of {bs : List JBlock} {off : Nat} {rs : List Bool} {L : List Nat} (h : RchI bs off rs L) (hto : ∀ x ∈ L, DoneTo off rs (bs.getD x default).term.to) (hn : 0 < bs.length) {x : Nat} (hx : Rwo (ofF bs) off x) : rs[x]? = some true := by
  induction hx with
  | zero h0 => exact h.zero h0 hn
  | step h1 h2 h3 ih =>
    rename_i x z
    refine hto x (h.mem x ih) (z : Int) ?_ z rfl h3
    unfold Ed ofF at h2
    have hlt : x < bs.length := by rw [← h.len]; exact (List.getElem?_eq_some_iff.1 ih).1
    rw [List.getD_eq_getElem?_getD, List.getElem?_map, List.getElem?_eq_getElem hlt] at h2
    rw [List.getD_eq_getElem?_getD, List.getElem?_eq_getElem hlt]
    exact (mem_keptF.1 h2).2

/-- what the walk holds in memory -/
structure BI (w wr : World) (p : Int) (vb : Value) (n : Nat) (rs : List Bool) (L So : List Nat) (v6 : Value) : Prop where
  ext : Ext [] w wr
  box : Blk wr w.heap.size 26 #[.int .i64 p, vb]
  seen : SlR kBool 4 wr [w.heap.size + 1] (.slice (some ⟨w.heap.size + 1, 0, none⟩) n n) rs
  row : SlR kNat 3 wr So v6 L
  new : ∀ k ∈ So, w.heap.size + 1 < k
  nd : So.Nodup
section
variable {w wr w1 w' : World} {p : Int} {vb v6 v' : Value} {n : Nat} {rs : List Bool} {L So S' : List Nat}
theorem BI.ext0 (h : BI w wr p vb n rs L So v6) (hx : Ext [] wr w1) : BI w w1 p vb n rs L So v6 := ⟨h.ext.nil hx, h.box.ext hx (by simp), h.seen.ext0 hx, h.row.ext0 hx, h.new, h.nd⟩
theorem BI.app (h : BI w wr p vb n rs L So v6) (hx : Ext [] wr w1) (hx' : Ext So w1 w') {x : Nat} (hs : SlR kNat 3 w' S' v' (L ++ [x])) (hf : ∀ k ∈ S', k ∈ So ∨ k = w1.heap.size ∨ k ∈ ([] : List Nat)) (hn : So.Nodup → ([] : List Nat).Nodup → S'.Nodup) : BI w w' p vb n rs (L ++ [x]) S' v' := by
  have h1 := h.ext0 hx
  have hb := h1.seen.lt (w.heap.size + 1) (by simp)
  refine ⟨h1.ext.trans hx' fun k hk => .inr (by have := h.new k hk; omega), h1.box.ext hx' (fun hk => by have := h.new _ hk; omega), h1.seen.ext hx' (by intro k hk h2; simp at hk; subst hk; have := h.new _ h2; omega), hs, fun k hk => ?_, hn h.nd (by simp)⟩
  rcases hf k hk with h2 | h2 | h2
  · exact h.new k h2
  · omega
  · cases h2
theorem BI.at (h : BI w wr p vb n rs L So v6) (j : Nat) (hj : j < rs.length) : wr.cell? ⟨w.heap.size + 1, j, none⟩ = some (.bool rs[j]) ∧ wr.frozen? ⟨w.heap.size + 1, j, none⟩ = false := by
  obtain ⟨_, _, hv, _, hc, hf⟩ := h.seen.cell j hj
  injection hv with e1 e2 e3
  injection e1 with e1
  injection e1 with e1
  subst e1
  exact ⟨hc, hf⟩
theorem BI.set (h : BI w wr p vb n rs L So v6) {j : Nat} (hj : j < rs.length) : BI w (wr.setCell ⟨w.heap.size + 1, j, none⟩ (.bool true)) p vb n (rs.set j true) L So v6 := by
  have hx : Ext [w.heap.size + 1] wr (wr.setCell ⟨w.heap.size + 1, j, none⟩ (.bool true)) := (Ext.refl _ _).setCell (.inl (by simp)) _
  exact ⟨h.ext.trans hx fun k hk => .inr (by simp at hk; omega), h.box.ext hx (by simp), h.seen.set (enc := Value.bool) (h1 := fun _ => rfl) j hj true, h.row.ext hx (fun k hk h2 => by have := h.new k hk; simp at h2; omega), h.new, h.nd⟩
theorem made_bool {w : World} {n : Nat} (h0 : 0 < n) (hn : n ≤ 1073741824) : SlR kBool 4 (w.alloc (.cells (madeCells #[.bool false] n) 4)) [w.heap.size] (.slice (some ⟨w.heap.size, 0, none⟩) n n) (List.replicate n false) := by
  obtain ⟨St, h1, h2, _⟩ := slr_made (d := kBool) (e := 4) (w := w) (zc := #[.bool false]) (x := false) n n (by simp [kBool, kSc]) hn rfl (by decide) (fun w => ⟨rfl, rfl⟩)
  obtain ⟨g', _, _, hv, _, _, _, _, _, hS, _⟩ := slr_own h1 (by intro h; have := congrArg List.length h; rw [List.length_replicate, List.length_nil] at this; omega)
  rw [hS] at h2 h1
  rw [h2 g' (by simp)] at h1
  exact h1
theorem BI.start (h0 : 0 < n) (hn : n ≤ 100000) : BI w (((w.alloc (.cells #[.int .i64 p, vb] 26)).alloc (.cells (madeCells #[.bool false] n) 4)).alloc (.cells #[] 3)) p vb n (List.replicate n false) [] [] (.slice (some ⟨w.heap.size + 1 + 1, 0, none⟩) 0 0) := by
  have h1 := made_bool (w := w.alloc (.cells #[.int .i64 p, vb] 26)) h0 (by omega)
  simp only [World.size_alloc] at h1
  exact ⟨(((Ext.refl _ _).alloc _).alloc _).alloc _, ((Blk.new w _ _).alloc _).alloc _, h1.ext0 ((Ext.refl _ _).alloc _), .inl ⟨_, rfl, rfl, rfl⟩, by simp, by simp⟩
theorem BI.start2 (h0 : 0 < n) (hn : n ≤ 100000) : BI w (((w.alloc (.cells #[.int .i64 p, vb] 26)).alloc (.cells ((madeCells #[.bool false] n).setIfInBounds 0 (.bool true)) 4)).alloc (.cells #[] 3)) p vb n ((List.replicate n false).set 0 true) [] [] (.slice (some ⟨w.heap.size + 1 + 1, 0, none⟩) 0 0) := by
  have h := (BI.start (w := w) (p := p) (vb := vb) h0 hn).set (j := 0) (by simpa using h0)
  simpa [go_sem] using h
end

set_option maxRecDepth 20000 in
set_option maxHeartbeats 6400000 in
theorem reached_calls {w : World} {S : List Nat} {v : Value} {f : JFunc} (h : FnR w S v f) (h0 : 0 < f.blocks.length) (hn : f.blocks.length ≤ 100000) (hl : ∀ x ∈ f.blocks, x.term.to.length ≤ 100000) (ht : ∀ x ∈ f.blocks, ∀ t ∈ x.term.to, 0 ≤ t ∧ t < (f.blocks.length : Int)) (off : Nat) :
    Calls Try.prog 23 #[v, .int .i64 (off : Int)] w fun e w' => ∃ (rs : List Bool) (v' : Value) (S' : List Nat), e = .returned v' ∧ SlR kBool 4 w' S' v' rs ∧ New w w' S' ∧ rs.length = f.blocks.length ∧ ∀ x, Rwo (ofF f.blocks) off x → rs[x]? = some true := by
  obtain ⟨vb, rfl, hb⟩ := h
  obtain ⟨A, cap, rfl, hcap⟩ := hb.shape
  have hmk := run_make_eq Try.underlying63 Try.info4 rfl f.blocks.length f.blocks.length (by simp) (by omega) (by decide)
  go_enter Try.func23, Try.ntmps23
  by_cases ho : off = 0
  · skip
    have e0 : ((off : Int) != 0) = false := by simp; omega
    have Hoff := Lib.hid ho
    clear ho
    have hm0 : True := trivial
    have hBB := Lib.hid (BI.start (w := w) (p := f.params) (vb := .slice A f.blocks.length cap) h0 hn)
    have hR0 : Hid (RchI f.blocks off (List.replicate f.blocks.length false) []) := by rw [Hoff.out]; exact RchI.start1 _
    go_wp2
    go_loopg [6, 7] f.blocks.length (fun k v6 vi wr => ∃ (i : Nat) (rs : List Bool) (L : List Nat) (So : List Nat), vi = .int .i64 (i : Int) ∧ i ≤ L.length ∧ Hid (i + k = f.blocks.length) ∧
      Hid (RchI f.blocks off rs L) ∧ Hid (∀ y ∈ L.take i, DoneTo off rs (f.blocks.getD y default).term.to) ∧ Hid (BI w wr f.params (.slice A f.blocks.length cap) f.blocks.length rs L So v6))
    case atStart =>
      clear hm0
      exact ⟨0, _, _, [], rfl, by omega, by simp [Hid], hR0, by simp [Hid], hBB⟩
    case round =>
      obtain ⟨i, rs, L, So, rfl, hi, HK, hR, hD, hB⟩ := hrel
      obtain ⟨q1, hq1⟩ : ∃ x, x = gk := ⟨_, rfl⟩
      subst hq1
      have hcnt := hR.out.cnt
      have hLn : L.length ≤ f.blocks.length := by omega
      obtain ⟨A6, c6, hv6, _⟩ := hB.out.row.shape
      subst hv6
      have d0 := hB.out.box.cell (i := 0) rfl
      have d1 := hB.out.box.cell (i := 1) rfl
      by_cases hlt : i < L.length
      · obtain ⟨gl, cl, hvl, hSl, hcl, hfl⟩ := hB.out.row.cell i hlt
        cases hvl
        obtain ⟨x, hx⟩ : ∃ x, x = L[i] := ⟨_, rfl⟩
        have Hget : Hid (L[i]? = some x) := by rw [Hid, List.getElem?_eq_getElem hlt, hx]
        rw [← hx] at hcl
        have hxn : x < f.blocks.length := by
          have h1 := hR.out.mem' x (by rw [hx]; exact List.getElem_mem hlt)
          have h2 := (List.getElem?_eq_some_iff.1 h1).1
          rw [hR.out.len] at h2; exact h2
        clear hx
        obtain ⟨g, cap', Ap, cp, Ai, ci, Aa, ca, At, ct, Sb, Sp, Si, Sa, St, hv, hg, hsub, hbc, c0, c1, c2, c3, c4, c5⟩ := FnR.block hb x hxn
        cases hv
        have Hxb : Hid ((f.blocks.getD x default) = f.blocks[x]) := by rw [Hid, List.getD_eq_getElem?_getD, List.getElem?_eq_getElem hxn]; rfl
        have hxl := hl _ (List.getElem_mem hxn)
        have hxt := ht _ (List.getElem_mem hxn)
        generalize hbx : f.blocks[x] = bx at *
        have Ht := Lib.hid hbc.t
        have Hxt := Lib.hid hxt
        replace c4 := hB.out.ext.cell c4 (by simp)
        clear hbc c0 c1 c2 c3 c5 hbx hxt
        go_wp2
        go_quiet (fail)
        obtain ⟨wr1, hwr1⟩ : ∃ x, x = wr := ⟨_, rfl⟩
        subst hwr1
        have hD0 := hD
        go_wp2
        go_loopg [6, 9] bx.term.to.length (fun k v6 vi wr2 => ∃ (j : Nat) (rs : List Bool) (L : List Nat) (So : List Nat), vi = .int .i64 (j : Int) ∧ j ≤ bx.term.to.length ∧ Hid (j + k = bx.term.to.length) ∧ Hid (L[i]? = some x) ∧
          Hid (RchI f.blocks off rs L) ∧ Hid (∀ y ∈ L.take i, DoneTo off rs (f.blocks.getD y default).term.to) ∧ Hid (DoneTo off rs (bx.term.to.take j)) ∧ Hid (BI w wr2 f.params (.slice (some ⟨g, 0, none⟩) f.blocks.length cap) f.blocks.length rs L So v6))
        case atStart => exact ⟨0, rs, L, So, rfl, by omega, by simp [Hid], Hget, hR, hD, by simp [Hid, DoneTo], Lib.hid (hB.out.ext0 ((Ext.refl _ _).drewN _))⟩
        case round =>
          clear hR hD hB hD0 Hget hcnt hLn hcl hfl hlt hi d0 d1 hSl
          obtain ⟨j, rs, L, So, rfl, hj, HJ, Hget, hR, hD, hE, hB⟩ := hrel
          obtain ⟨A6, c6, hv6, _⟩ := hB.out.row.shape
          subst hv6
          have hiL : i < L.length := (List.getElem?_eq_some_iff.1 Hget.out).1
          have hcnt := hR.out.cnt
          have hLn : L.length ≤ 1073741824 := by omega
          by_cases hlj : j < bx.term.to.length
          · obtain ⟨gt, ct', hvt, hSt, hct, hft⟩ := (Ht.out.ext0 hB.out.ext).cell j hlj
            cases hvt
            have Htk := Lib.hid (List.take_succ_eq_append_getElem hlj)
            have hmem : bx.term.to[j] ∈ bx.term.to := List.getElem_mem hlj
            obtain ⟨ht0, ht1⟩ := Hxt.out _ hmem
            obtain ⟨t, htt⟩ := Int.eq_ofNat_of_zero_le ht0
            rw [htt] at hct ht1 Htk
            have Htt := Lib.hid htt
            have htn : t < f.blocks.length := by omega
            clear htt ht0 ht1 hmem
            have htr : t < rs.length := by rw [hR.out.len]; exact htn
            obtain ⟨hcs, hfs⟩ := hB.out.at t htr
            have Hrt : Hid (rs[t]? = some rs[t]) := List.getElem?_eq_getElem htr
            have next : ∀ rs', (t ≠ off → rs'[t]? = some true) → DoneTo off rs' (bx.term.to.take j) → DoneTo off rs' (bx.term.to.take (j + 1)) := fun rs' h1 h2 y hy n hn ho' => by
              rw [Htk.out] at hy
              rcases List.mem_append.1 hy with hy | hy
              · exact h2 y hy n hn ho'
              · simp at hy
                have : t = n := by omega
                subst this; exact h1 ho'
            have Next := Lib.hid next
            clear next Htk
            generalize hrt : rs[t] = r at *
            have HrsT := Lib.hid hrt
            clear hrt
            cases r
            · by_cases hto : t = off
              · subst hto
                go_wp2
                go_roundg (gk - 1)
                case measure => have := HJ.out; omega
                case rel => exact ⟨j + 1, rs, L, So, by go_num, by omega, by have := HJ.out; simp only [Hid]; omega, Hget, hR, hD, Next.out rs (fun h => absurd rfl h) hE.out, hB⟩
              · have eo : ((t : Int) != (off : Int)) = true := by simp; omega
                have HBs := Lib.hid (hB.out.set htr)
                have hl30 : L.length ≤ 1073741824 := by omega
                have hgl : gt < w.heap.size := by
                  have hq := Ht.out.lt gt (by rw [hSt]; simp)
                  exact hq
                have hg1 : gt ≠ w.heap.size + 1 := by omega
                have hg2 : ¬ w.heap.size + 1 = gt := by omega
                obtain ⟨w3, hw3⟩ : ∃ x, x = wr.setCell ⟨w.heap.size + 1, t, none⟩ (.bool true) := ⟨_, rfl⟩
                rw [← hw3] at HBs
                have HRow := Lib.hid (HBs.out.row.ext0 ((Ext.refl [] w3).alloc (.cells #[.int .i64 (t : Int)] 3)))
                have hsz3 : w3.heap.size = wr.heap.size := by rw [hw3]; simp
                have Hsrc : Hid (Src (w3.alloc (.cells #[.int .i64 (t : Int)] 3)) (.slice (some ⟨wr.heap.size, 0, none⟩) 1 1) 1 [.int .i64 (t : Int)]) := by rw [Hid, ← hsz3]; exact Src.one rfl
                clear hsz3
                go_wp2_with (at_builtin; rw [← hw3]; refine wpList_append_sl (d := kNat) (ys := [t]) rfl (.tmp 88) (.tmp 93) 22 rfl ei_int rfl HRow.out rfl [.int .i64 (t : Int)] [[]] elems_one rfl (one_one rfl) Hsrc.out (by simp) (le_maxLen hl30) (le_bytes hl30 (by decide)) ?_; intro v' w' S' hs' hx' hf' hn')
                have hB4 := Lib.hid (HBs.out.app ((Ext.refl _ _).alloc _) hx' hs' hf' hn')
                clear hs' hx' hf' hn' hw3
                go_roundg (gk - 1)
                case measure => have := HJ.out; omega
                case rel =>
                  refine ⟨j + 1, rs.set t true, L ++ [t], S', by go_num, by omega, by have := HJ.out; simp only [Hid]; omega, ?_, hR.out.put Hrt.out, fun y hy => ?_, Next.out _ (fun _ => by rw [List.getElem?_set_self htr]) (hE.out.put htr), hB4⟩
                  · rw [Hid, List.getElem?_append_left hiL]; exact Hget.out
                  · rw [List.take_append_of_le_length (by omega)] at hy
                    exact (hD.out y hy).put htr
            · go_wp2
              go_roundg (gk - 1)
              case measure => have := HJ.out; omega
              case rel => exact ⟨j + 1, rs, L, So, by go_num, by omega, by have := HJ.out; simp only [Hid]; omega, Hget, hR, hD, Next.out rs (fun _ => Hrt.out) hE.out, hB⟩
          · have hje : j = bx.term.to.length := by omega
            subst hje
            go_wp2
            go_roundg (q1 - 1)
            case measure => have := HK.out; omega
            case rel =>
              refine ⟨i + 1, rs, L, So, by go_num, by omega, by have := HK.out; simp only [Hid]; omega, hR, ?_, hB⟩
              intro y hy
              have e : L.take (i + 1) = L.take i ++ [x] := by rw [List.take_add_one, Hget.out]; rfl
              rw [e] at hy
              rcases List.mem_append.1 hy with hy | hy
              · exact hD.out y hy
              · simp at hy; subst hy
                have := hE.out
                rw [List.take_length] at this
                rw [Hxb.out]; exact this
      · have hie : i = L.length := by omega
        subst hie
        go_wp2
        go_ret
        have hD2 := hD.out
        rw [List.take_length] at hD2
        exact ⟨rs, _, _, rfl, hB.out.seen, ⟨hB.out.ext, by simp, by simp⟩, hR.out.len, fun y hy => rwo_of hR.out hD2 h0 hy⟩
  · have e0 : ((off : Int) != 0) = true := by simp; omega
    have hm0 : (madeCells #[.bool false] f.blocks.length)[0]? = some (.bool false) := by rw [Array.getElem?_eq_getElem (by rw [size_madeCells]; exact h0)]; simp [madeCells]
    obtain ⟨WA, hWA⟩ : ∃ x, x = ((w.alloc (.cells #[.int .i64 f.params, .slice A f.blocks.length cap] 26)).alloc (.cells ((madeCells #[.bool false] f.blocks.length).setIfInBounds 0 (.bool true)) 4)).alloc (.cells #[] 3) := ⟨_, rfl⟩
    have hBA : Hid (BI w WA f.params (.slice A f.blocks.length cap) f.blocks.length ((List.replicate f.blocks.length false).set 0 true) [] [] (.slice (some ⟨w.heap.size + 1 + 1, 0, none⟩) 0 0)) := by rw [hWA]; exact BI.start2 h0 hn
    have hsrc : Hid (Src (WA.alloc (.cells #[.int .i64 0] 3)) (.slice (some ⟨w.heap.size + 1 + 1 + 1, 0, none⟩) 1 1) 1 [.int .i64 0]) := by
      have h1 : WA.heap.size = w.heap.size + 1 + 1 + 1 := by rw [hWA]; simp
      have := Src.one (w := WA) (x := .int .i64 0) (T := 3) rfl
      rw [h1] at this; exact this
    go_wp2_with (at_builtin; rw [← hWA]; refine wpList_append_sl (d := kNat) (ys := [0]) rfl (.tmp 25) (.tmp 26) 22 rfl ei_int rfl (hBA.out.row.ext0 ((Ext.refl [] WA).alloc (.cells #[.int .i64 0] 3))) rfl [.int .i64 0] [[]] elems_one rfl (one_one rfl) hsrc.out (by simp) (by decide) (by decide) ?_; intro v' w' S' hs' hx' hf' hn')
    have hBB := Lib.hid (hBA.out.app ((Ext.refl _ _).alloc _) hx' hs' hf' hn')
    clear hs' hx' hf' hn' hWA
    go_loopg [6, 7] f.blocks.length (fun k v6 vi wr => ∃ (i : Nat) (rs : List Bool) (L : List Nat) (So : List Nat), vi = .int .i64 (i : Int) ∧ i ≤ L.length ∧ Hid (i + k = f.blocks.length) ∧
      Hid (RchI f.blocks off rs L) ∧ Hid (∀ y ∈ L.take i, DoneTo off rs (f.blocks.getD y default).term.to) ∧ Hid (BI w wr f.params (.slice A f.blocks.length cap) f.blocks.length rs L So v6))
    case atStart =>
      clear hm0
      exact ⟨0, _, _, S', rfl, by omega, by simp [Hid], RchI.start2 h0 off, by simp [Hid], hBB⟩
    case round =>
      obtain ⟨i, rs, L, So, rfl, hi, HK, hR, hD, hB⟩ := hrel
      obtain ⟨q1, hq1⟩ : ∃ x, x = gk := ⟨_, rfl⟩
      subst hq1
      have hcnt := hR.out.cnt
      have hLn : L.length ≤ f.blocks.length := by omega
      obtain ⟨A6, c6, hv6, _⟩ := hB.out.row.shape
      subst hv6
      have d0 := hB.out.box.cell (i := 0) rfl
      have d1 := hB.out.box.cell (i := 1) rfl
      by_cases hlt : i < L.length
      · obtain ⟨gl, cl, hvl, hSl, hcl, hfl⟩ := hB.out.row.cell i hlt
        cases hvl
        obtain ⟨x, hx⟩ : ∃ x, x = L[i] := ⟨_, rfl⟩
        have Hget : Hid (L[i]? = some x) := by rw [Hid, List.getElem?_eq_getElem hlt, hx]
        rw [← hx] at hcl
        have hxn : x < f.blocks.length := by
          have h1 := hR.out.mem' x (by rw [hx]; exact List.getElem_mem hlt)
          have h2 := (List.getElem?_eq_some_iff.1 h1).1
          rw [hR.out.len] at h2; exact h2
        clear hx
        obtain ⟨g, cap', Ap, cp, Ai, ci, Aa, ca, At, ct, Sb, Sp, Si, Sa, St, hv, hg, hsub, hbc, c0, c1, c2, c3, c4, c5⟩ := FnR.block hb x hxn
        cases hv
        have Hxb : Hid ((f.blocks.getD x default) = f.blocks[x]) := by rw [Hid, List.getD_eq_getElem?_getD, List.getElem?_eq_getElem hxn]; rfl
        have hxl := hl _ (List.getElem_mem hxn)
        have hxt := ht _ (List.getElem_mem hxn)
        generalize hbx : f.blocks[x] = bx at *
        have Ht := Lib.hid hbc.t
        have Hxt := Lib.hid hxt
        replace c4 := hB.out.ext.cell c4 (by simp)
        clear hbc c0 c1 c2 c3 c5 hbx hxt
        go_wp2
        go_quiet (fail)
        obtain ⟨wr1, hwr1⟩ : ∃ x, x = wr := ⟨_, rfl⟩
        subst hwr1
        have hD0 := hD
        go_wp2
        go_loopg [6, 9] bx.term.to.length (fun k v6 vi wr2 => ∃ (j : Nat) (rs : List Bool) (L : List Nat) (So : List Nat), vi = .int .i64 (j : Int) ∧ j ≤ bx.term.to.length ∧ Hid (j + k = bx.term.to.length) ∧ Hid (L[i]? = some x) ∧
          Hid (RchI f.blocks off rs L) ∧ Hid (∀ y ∈ L.take i, DoneTo off rs (f.blocks.getD y default).term.to) ∧ Hid (DoneTo off rs (bx.term.to.take j)) ∧ Hid (BI w wr2 f.params (.slice (some ⟨g, 0, none⟩) f.blocks.length cap) f.blocks.length rs L So v6))
        case atStart => exact ⟨0, rs, L, So, rfl, by omega, by simp [Hid], Hget, hR, hD, by simp [Hid, DoneTo], Lib.hid (hB.out.ext0 ((Ext.refl _ _).drewN _))⟩
        case round =>
          clear hR hD hB hD0 Hget hcnt hLn hcl hfl hlt hi d0 d1 hSl
          obtain ⟨j, rs, L, So, rfl, hj, HJ, Hget, hR, hD, hE, hB⟩ := hrel
          obtain ⟨A6, c6, hv6, _⟩ := hB.out.row.shape
          subst hv6
          have hiL : i < L.length := (List.getElem?_eq_some_iff.1 Hget.out).1
          have hcnt := hR.out.cnt
          have hLn : L.length ≤ 1073741824 := by omega
          by_cases hlj : j < bx.term.to.length
          · obtain ⟨gt, ct', hvt, hSt, hct, hft⟩ := (Ht.out.ext0 hB.out.ext).cell j hlj
            cases hvt
            have Htk := Lib.hid (List.take_succ_eq_append_getElem hlj)
            have hmem : bx.term.to[j] ∈ bx.term.to := List.getElem_mem hlj
            obtain ⟨ht0, ht1⟩ := Hxt.out _ hmem
            obtain ⟨t, htt⟩ := Int.eq_ofNat_of_zero_le ht0
            rw [htt] at hct ht1 Htk
            have Htt := Lib.hid htt
            have htn : t < f.blocks.length := by omega
            clear htt ht0 ht1 hmem
            have htr : t < rs.length := by rw [hR.out.len]; exact htn
            obtain ⟨hcs, hfs⟩ := hB.out.at t htr
            have Hrt : Hid (rs[t]? = some rs[t]) := List.getElem?_eq_getElem htr
            have next : ∀ rs', (t ≠ off → rs'[t]? = some true) → DoneTo off rs' (bx.term.to.take j) → DoneTo off rs' (bx.term.to.take (j + 1)) := fun rs' h1 h2 y hy n hn ho' => by
              rw [Htk.out] at hy
              rcases List.mem_append.1 hy with hy | hy
              · exact h2 y hy n hn ho'
              · simp at hy
                have : t = n := by omega
                subst this; exact h1 ho'
            have Next := Lib.hid next
            clear next Htk
            generalize hrt : rs[t] = r at *
            have HrsT := Lib.hid hrt
            clear hrt
            cases r
            · by_cases hto : t = off
              · subst hto
                go_wp2
                go_roundg (gk - 1)
                case measure => have := HJ.out; omega
                case rel => exact ⟨j + 1, rs, L, So, by go_num, by omega, by have := HJ.out; simp only [Hid]; omega, Hget, hR, hD, Next.out rs (fun h => absurd rfl h) hE.out, hB⟩
              · have eo : ((t : Int) != (off : Int)) = true := by simp; omega
                have HBs := Lib.hid (hB.out.set htr)
                have hl30 : L.length ≤ 1073741824 := by omega
                have hgl : gt < w.heap.size := by
                  have hq := Ht.out.lt gt (by rw [hSt]; simp)
                  exact hq
                have hg1 : gt ≠ w.heap.size + 1 := by omega
                have hg2 : ¬ w.heap.size + 1 = gt := by omega
                obtain ⟨w3, hw3⟩ : ∃ x, x = wr.setCell ⟨w.heap.size + 1, t, none⟩ (.bool true) := ⟨_, rfl⟩
                rw [← hw3] at HBs
                have HRow := Lib.hid (HBs.out.row.ext0 ((Ext.refl [] w3).alloc (.cells #[.int .i64 (t : Int)] 3)))
                have hsz3 : w3.heap.size = wr.heap.size := by rw [hw3]; simp
                have Hsrc : Hid (Src (w3.alloc (.cells #[.int .i64 (t : Int)] 3)) (.slice (some ⟨wr.heap.size, 0, none⟩) 1 1) 1 [.int .i64 (t : Int)]) := by rw [Hid, ← hsz3]; exact Src.one rfl
                clear hsz3
                go_wp2_with (at_builtin; rw [← hw3]; refine wpList_append_sl (d := kNat) (ys := [t]) rfl (.tmp 88) (.tmp 93) 22 rfl ei_int rfl HRow.out rfl [.int .i64 (t : Int)] [[]] elems_one rfl (one_one rfl) Hsrc.out (by simp) (le_maxLen hl30) (le_bytes hl30 (by decide)) ?_; intro v' w' S' hs' hx' hf' hn')
                have hB4 := Lib.hid (HBs.out.app ((Ext.refl _ _).alloc _) hx' hs' hf' hn')
                clear hs' hx' hf' hn' hw3
                go_roundg (gk - 1)
                case measure => have := HJ.out; omega
                case rel =>
                  refine ⟨j + 1, rs.set t true, L ++ [t], S', by go_num, by omega, by have := HJ.out; simp only [Hid]; omega, ?_, hR.out.put Hrt.out, fun y hy => ?_, Next.out _ (fun _ => by rw [List.getElem?_set_self htr]) (hE.out.put htr), hB4⟩
                  · rw [Hid, List.getElem?_append_left hiL]; exact Hget.out
                  · rw [List.take_append_of_le_length (by omega)] at hy
                    exact (hD.out y hy).put htr
            · go_wp2
              go_roundg (gk - 1)
              case measure => have := HJ.out; omega
              case rel => exact ⟨j + 1, rs, L, So, by go_num, by omega, by have := HJ.out; simp only [Hid]; omega, Hget, hR, hD, Next.out rs (fun _ => Hrt.out) hE.out, hB⟩
          · have hje : j = bx.term.to.length := by omega
            subst hje
            go_wp2
            go_roundg (q1 - 1)
            case measure => have := HK.out; omega
            case rel =>
              refine ⟨i + 1, rs, L, So, by go_num, by omega, by have := HK.out; simp only [Hid]; omega, hR, ?_, hB⟩
              intro y hy
              have e : L.take (i + 1) = L.take i ++ [x] := by rw [List.take_add_one, Hget.out]; rfl
              rw [e] at hy
              rcases List.mem_append.1 hy with hy | hy
              · exact hD.out y hy
              · simp at hy; subst hy
                have := hE.out
                rw [List.take_length] at this
                rw [Hxb.out]; exact this
      · have hie : i = L.length := by omega
        subst hie
        go_wp2
        go_ret
        have hD2 := hD.out
        rw [List.take_length] at hD2
        exact ⟨rs, _, _, rfl, hB.out.seen, ⟨hB.out.ext, by simp, by simp⟩, hR.out.len, fun y hy => rwo_of hR.out hD2 h0 hy⟩
end Go.Proofs.Ytkmgbejhbkbaoaa

/- The maker of functions: a function's things, one after another. -/
namespace Go.Proofs.Ytkmgbejhbkbaoaa
set_option linter.unusedSimpArgs false
set_option linter.unusedVariables false
open Go.RowKit

/-- what makes values, at its place -/
structure JThg where
  block : Int
  pos : Int
  made : List Int
def kThing : Kd JThg := {
  sz := 4
  rep := fun w S x cs => ∃ vm vu, cs = [.int .i64 x.block, .int .i64 x.pos, vm, vu] ∧ vu.oneCell' = true ∧ SlR kInt 3 w S vm x.made
  len := by rintro _ _ _ _ ⟨_, _, rfl, _⟩; rfl
  one := by rintro _ _ x _ ⟨_, _, rfl, h1, h⟩ u hu; simp only [List.mem_cons, List.not_mem_nil, or_false] at hu; rcases hu with rfl | rfl | rfl | rfl; rfl; rfl; exact slice_one h; exact h1
  lt := by rintro _ _ _ _ ⟨_, _, _, _, h⟩; exact h.lt
  move := by rintro _ _ _ _ _ ⟨vm, vu, rfl, h1, h⟩ hm; exact ⟨vm, vu, rfl, h1, h.move hm⟩ }
theorem Try.info94 : (Try.prog.info? 94).map (fun i => (i.zero, i.size, i.bytes)) = some (some (.agg #[.int .i64 0, .int .i64 0, .slice none 0 0, .slice none 0 0]), 4, 64) := by kernel_rfl
theorem ei_thing : EI Try.prog 91 94 4 64 := ei_of Try.underlying91 Try.info94 rfl (by decide)

/-! ### plain -/
def phT (i : Nat) (x : JBlock) (k : Nat) : List JThg := (List.range k).map fun j : Nat => ⟨i, -1 - (j : Int), [(x.phis.getD j default).dst]⟩
def inT (i : Nat) (x : JBlock) (k : Nat) : List JThg := (List.range k).map fun j : Nat => ⟨i, (j : Int), makesF (x.ins.getD j default)⟩
def blT (i : Nat) (x : JBlock) : List JThg := phT i x x.phis.length ++ (inT i x x.ins.length ++ [⟨i, x.ins.length, []⟩])
def thT (bs : List JBlock) (n : Nat) : List JThg := (List.range n).flatMap fun i => blT i (bs.getD i default)
theorem phT_succ (i : Nat) (x : JBlock) (k : Nat) : phT i x (k + 1) = phT i x k ++ [⟨i, -1 - (k : Int), [(x.phis.getD k default).dst]⟩] := by simp [phT, List.range_succ]
theorem inT_succ (i : Nat) (x : JBlock) (k : Nat) : inT i x (k + 1) = inT i x k ++ [⟨i, k, makesF (x.ins.getD k default)⟩] := by simp [inT, List.range_succ]
theorem thT_succ (bs : List JBlock) (n : Nat) : thT bs (n + 1) = thT bs n ++ blT n (bs.getD n default) := by simp [thT, List.range_succ]
theorem thT_len {bs : List JBlock} (h : ∀ x ∈ bs, x.phis.length ≤ 1000 ∧ x.ins.length ≤ 1000000) : ∀ i, i ≤ bs.length → (thT bs i).length ≤ i * 1002000
  | 0, _ => by simp [thT]
  | i + 1, hi => by
    have h1 := thT_len h i (by omega)
    have h2 := h _ (List.getElem_mem (show i < bs.length by omega))
    rw [thT_succ, List.length_append, List.getD_eq_getElem?_getD, List.getElem?_eq_getElem (show i < bs.length by omega)]
    simp [blT, phT, inT]
    omega

/-- what the walk holds in memory -/
structure TBI (w wr : World) (p : Int) (vb : Value) (L : List JThg) (So : List Nat) (v3 : Value) : Prop where
  ext : Ext [] w wr
  box : Blk wr w.heap.size 26 #[.int .i64 p, vb]
  row : SlR kThing 94 wr So v3 L
  new : ∀ k ∈ So, w.heap.size < k
  nd : So.Nodup
section
variable {w wr w1 w' : World} {p : Int} {vb v3 v' : Value} {L : List JThg} {So S' : List Nat}
theorem TBI.ext0 (h : TBI w wr p vb L So v3) (hx : Ext [] wr w1) : TBI w w1 p vb L So v3 := ⟨h.ext.nil hx, h.box.ext hx (by simp), h.row.ext0 hx, h.new, h.nd⟩
theorem TBI.app (h : TBI w wr p vb L So v3) (hx : Ext [] wr w1) (hx' : Ext So w1 w') {x : JThg} {Sn : List Nat} (hs : SlR kThing 94 w' S' v' (L ++ [x])) (hSn : ∀ k ∈ Sn, wr.heap.size ≤ k) (hnn : Sn.Nodup) (hf : ∀ k ∈ S', k ∈ So ∨ k = w1.heap.size ∨ k ∈ [Sn].flatten) (hn : So.Nodup → [Sn].flatten.Nodup → S'.Nodup) :
    TBI w w' p vb (L ++ [x]) S' v' ∧ ∀ k ∈ S', k ∈ So ∨ wr.heap.size ≤ k := by
  have h1 := h.ext0 hx
  have hb := h.box.lt
  have hsz := hx.size
  have hff : ∀ k ∈ S', k ∈ So ∨ wr.heap.size ≤ k := fun k hk => by
    rcases hf k hk with h2 | h2 | h2
    · exact .inl h2
    · exact .inr (by omega)
    · exact .inr (hSn k (by simpa using h2))
  refine ⟨⟨h1.ext.trans hx' fun k hk => .inr (by have := h.new k hk; omega), h1.box.ext hx' (fun hk => by have := h.new _ hk; omega), hs, fun k hk => ?_, hn h.nd (by simpa using hnn)⟩, hff⟩
  rcases hff k hk with h2 | h2
  · exact h.new k h2
  · omega
end
/-- a thing in the making -/
structure UI (wr w3 : World) (m1 : Nat) (i jp dst : Int) (us : List Int) (Su : List Nat) (vu : Value) : Prop where
  ext : Ext [] wr w3
  blk : Blk w3 (m1 + 1) 94 #[.int .i64 i, .int .i64 jp, .slice (some ⟨m1, 0, none⟩) 1 1, vu]
  made : SlR kInt 3 w3 [m1] (.slice (some ⟨m1, 0, none⟩) 1 1) [dst]
  used : SlR kInt 3 w3 Su vu us
  new : ∀ k ∈ Su, m1 + 1 < k
  nd : Su.Nodup
theorem UI.app {wr w3 w4 w' : World} {m1 : Nat} {i jp dst y : Int} {us : List Int} {Su S' : List Nat} {vu v' : Value} (h : UI wr w3 m1 i jp dst us Su vu) (hm : wr.heap.size ≤ m1) (hx : Ext [] w3 w4) (hx' : Ext Su w4 w') (hs : SlR kInt 3 w' S' v' (us ++ [y]))
    (hf : ∀ k ∈ S', k ∈ Su ∨ k = w4.heap.size ∨ k ∈ ([] : List Nat)) (hn : Su.Nodup → ([] : List Nat).Nodup → S'.Nodup) : UI wr (w'.setCell ⟨m1 + 1, 3, none⟩ v') m1 i jp dst (us ++ [y]) S' v' := by
  have hb := h.blk.lt
  have hsz := hx.size
  have hnew : ∀ k ∈ S', m1 + 1 < k := fun k hk => by
    rcases hf k hk with h2 | h2 | h2
    · exact h.new k h2
    · omega
    · cases h2
  have h7 : m1 + 1 ∉ Su := fun hk => by have := h.new _ hk; omega
  have hxx : Ext Su w3 w' := (hx.mono (by simp)).same hx'
  have hxs : Ext [m1 + 1] w' (w'.setCell ⟨m1 + 1, 3, none⟩ v') := (Ext.refl _ _).setCell (.inl (by simp)) _
  refine ⟨(h.ext.trans hxx fun k hk => .inr (by have := h.new k hk; omega)).trans hxs fun k hk => .inr (by simp at hk; omega), ?_, ?_, ?_, hnew, hn h.nd (by simp)⟩
  · exact (h.blk.ext hxx h7).set 3 v'
  · exact (h.made.ext hxx (by intro k hk h2; simp at hk; subst hk; have := h.new _ h2; omega)).ext hxs (by simp)
  · exact hs.ext hxs (by intro k hk h2; simp at h2; subst h2; have := hnew _ hk; omega)
set_option maxRecDepth 20000 in
set_option maxHeartbeats 12800000 in
theorem things_calls {w : World} {S : List Nat} {v : Value} {f : JFunc} (h : FnR w S v f) (hn : f.blocks.length ≤ 1000) (hl : ∀ x ∈ f.blocks, x.phis.length ≤ 1000 ∧ x.ins.length ≤ 1000000) (hp : ∀ x ∈ f.blocks, ∀ y ∈ x.phis, y.ins.length ≤ 1000000) :
    Calls Try.prog 46 #[v] w fun e w' => ∃ v' S', e = .returned v' ∧ SlR kThing 94 w' S' v' (thT f.blocks f.blocks.length) ∧ New w w' S' := by
  obtain ⟨vb, rfl, hb⟩ := h
  obtain ⟨A, cap, rfl, hcap⟩ := hb.shape
  go_enter Try.func46, Try.ntmps46
  go_wp2
  go_loopg [3, 4] f.blocks.length (fun k v3 vi wr => ∃ (i : Nat) (So : List Nat), vi = .int .i64 (i : Int) ∧ i ≤ f.blocks.length ∧ Hid (i + k = f.blocks.length) ∧ Hid (TBI w wr f.params (.slice A f.blocks.length cap) (thT f.blocks i) So v3))
  case atStart => exact ⟨0, [], rfl, by omega, by simp [Hid], Lib.hid ⟨((Ext.refl _ _).alloc _).alloc _, (Blk.new _ _ _).alloc _, .inl ⟨_, rfl, rfl, rfl⟩, by simp, by simp⟩⟩
  case round =>
    obtain ⟨i, So, rfl, hi, HK, hT⟩ := hrel
    obtain ⟨q1, hq1⟩ : ∃ x, x = gk := ⟨_, rfl⟩
    subst hq1
    have d0 := hT.out.box.cell (i := 0) rfl
    have d1 := hT.out.box.cell (i := 1) rfl
    by_cases hlt : i < f.blocks.length
    · obtain ⟨g, cap', Ap, cp, Ai, ci, Aa, ca, At, ct, Sb, Sp, Si, Sa, St, hv, hg, hsub, hbc, c0, c1, c2, c3, c4, c5⟩ := FnR.block hb i hlt
      cases hv
      have hxl := hl _ (List.getElem_mem hlt)
      have hxp := Lib.hid (hp _ (List.getElem_mem hlt))
      have hlen := thT_len hl i hi
      have Hsucc := Lib.hid (thT_succ f.blocks i)
      rw [List.getD_eq_getElem?_getD, List.getElem?_eq_getElem hlt] at Hsucc
      replace c0 := hT.out.ext.cell c0 (by simp)
      replace c1 := hT.out.ext.cell c1 (by simp)
      replace c2 := hT.out.ext.cell c2 (by simp)
      replace c3 := hT.out.ext.cell c3 (by simp)
      replace c4 := hT.out.ext.cell c4 (by simp)
      replace c5 := hT.out.ext.cell c5 (by simp)
      generalize hbx : f.blocks[i] = x at *
      simp only [Option.getD_some] at Hsucc
      have Hbc := Lib.hid hbc
      clear hbc hbx
      obtain ⟨A3, k3, hv3, _⟩ := hT.out.row.shape
      subst hv3
      obtain ⟨L0, hL0⟩ : ∃ l, l = thT f.blocks i := ⟨_, rfl⟩
      have HL0 := Lib.hid hL0
      rw [← hL0] at hT hlen Hsucc
      rw [← hL0]
      clear hL0
      have hszr := hT.out.box.lt
      obtain ⟨b5, hb5⟩ : ∃ b, b = wr.heap.size := ⟨_, rfl⟩
      obtain ⟨wb, hwb⟩ : ∃ y, y = wr.alloc (.cells #[.slice Ap x.phis.length cp, .slice Ai x.ins.length ci, .int .i64 x.term.kind, .slice Aa x.term.args.length ca, .slice At x.term.to.length ct, .int .i32 x.term.imm] 43) := ⟨_, rfl⟩
      have hTb : Hid (TBI w wb f.params (.slice (some ⟨g, 0, none⟩) f.blocks.length cap) (L0 ++ phT i x 0) So (.slice A3 L0.length k3)) := by rw [hwb]; simpa [Hid, phT] using hT.out.ext0 ((Ext.refl _ _).alloc _)
      have h5b : Hid (Blk wb b5 43 #[.slice Ap x.phis.length cp, .slice Ai x.ins.length ci, .int .i64 x.term.kind, .slice Aa x.term.args.length ca, .slice At x.term.to.length ct, .int .i32 x.term.imm] ∧ b5 ∉ So) := by
        rw [hwb, hb5]; exact ⟨Blk.new _ _ _, fun hk => by have := hT.out.row.lt _ hk; omega⟩
      go_wp2
      rw [← hwb, ← hb5]
      clear hwb hb5 c0 c1 c2 c3 c4 c5 hT hszr
      go_loopg [3, 6] x.phis.length (fun k v3 vi wr2 => ∃ (j : Nat) (So : List Nat), vi = .int .i64 (j : Int) ∧ j ≤ x.phis.length ∧ Hid (j + k = x.phis.length) ∧ Hid (TBI w wr2 f.params (.slice (some ⟨g, 0, none⟩) f.blocks.length cap) (L0 ++ phT i x j) So v3) ∧
        Hid (Blk wr2 b5 43 #[.slice Ap x.phis.length cp, .slice Ai x.ins.length ci, .int .i64 x.term.kind, .slice Aa x.term.args.length ca, .slice At x.term.to.length ct, .int .i32 x.term.imm] ∧ b5 ∉ So))
      case atStart => exact ⟨0, So, rfl, by omega, by simp [Hid], hTb, h5b⟩
      case round =>
        clear hTb h5b
        obtain ⟨j, So, rfl, hj, HJ, hT, h5⟩ := hrel
        obtain ⟨q2, hq2⟩ : ∃ x, x = gk := ⟨_, rfl⟩
        subst hq2
        have s0 := h5.out.1.cell (i := 0) rfl
        have s1 := h5.out.1.cell (i := 1) rfl
        have s2 := h5.out.1.cell (i := 5) rfl
        by_cases hlt2 : j < x.phis.length
        · obtain ⟨gp, Sj, cs, hAp, hgp, _, ⟨vj, hcs, hvj⟩, hcj⟩ := (Hbc.out.p.ext0 hT.out.ext).cells j hlt2
          subst hAp hcs
          have e0 := hcj 0 _ rfl
          have e1' := hcj 1 _ rfl
          simp only [kPhi, Nat.add_zero] at e0 e1'
          have hpil := hxp.out _ (List.getElem_mem hlt2)
          have Hph := Lib.hid (phT_succ i x j)
          rw [List.getD_eq_getElem?_getD, List.getElem?_eq_getElem hlt2] at Hph
          simp only [Option.getD_some] at Hph
          generalize hpp : x.phis[j] = p at *
          clear hcj hpp
          obtain ⟨Av, cv, rfl, _⟩ := hvj.shape
          have hszr : b5 < wr.heap.size := h5.out.1.lt
          have hgpl : gp < wr.heap.size := lt_of_cell e0
          obtain ⟨m1, hm1⟩ : ∃ b, b = wr.heap.size := ⟨_, rfl⟩
          obtain ⟨wq, hwq⟩ : ∃ z, z = ((wr.alloc (.cells #[.int .i64 p.dst] 3)).alloc (.cells #[.int .i64 (i : Int), .int .i64 (-1 - (j : Int)), .slice (some ⟨wr.heap.size, 0, none⟩) 1 1, .slice none 0 0] 94)) := ⟨_, rfl⟩
          have hU0 : Hid (UI wr wq m1 i (-1 - (j : Int)) p.dst [] [] (.slice none 0 0)) := by
            rw [hwq, hm1]
            have h1 := Blk.new (wr.alloc (.cells #[.int .i64 p.dst] 3)) #[.int .i64 (i : Int), .int .i64 (-1 - (j : Int)), .slice (some ⟨wr.heap.size, 0, none⟩) 1 1, .slice none 0 0] 94
            simp only [World.size_alloc] at h1
            have h2 := lit_ints (w := wr) [p.dst] (by simp) (by simp)
            exact ⟨((Ext.refl _ _).alloc _).alloc _, h1, h2.ext0 ((Ext.refl _ _).alloc _), SlR.nil _ _ _, by simp, by simp⟩
          go_wp2
          rw [← hwq, ← hm1]
          clear hwq
          obtain ⟨wr0, hwr0⟩ : ∃ z, z = wr := ⟨_, rfl⟩
          rw [← hwr0] at hm1 hU0 hT h5 e0 e1' hvj hszr hgpl
          have Hm1 := Lib.hid hm1
          have Hvj := Lib.hid hvj
          clear hm1 hvj s0 s1 s2 hwr0
          go_loopg [8] p.ins.length (fun r vi w3 => ∃ (k : Nat) (us : List Int) (Su : List Nat) (vu : Value), vi = .int .i64 (k : Int) ∧ k ≤ p.ins.length ∧ Hid (k + r = p.ins.length) ∧ us.length = k ∧ Hid (UI wr0 w3 m1 i (-1 - (j : Int)) p.dst us Su vu))
          case atStart => exact ⟨0, [], [], _, rfl, by omega, by simp [Hid], rfl, hU0⟩
          case round =>
            clear hU0
            obtain ⟨k, us, Su, vu, rfl, hk, HR, hus, hU⟩ := hrel
            have Hus := Lib.hid hus
            have husl : us.length ≤ 1073741824 := by omega
            clear hus
            have s0 := hU.out.ext.cell (h5.out.1.cell (i := 0) rfl) (by simp)
            have f0 := hU.out.ext.cell e0 (by simp)
            have f1 := hU.out.ext.cell e1' (by simp)
            by_cases hlt3 : k < p.ins.length
            · obtain ⟨gi, Sk, cs2, hAv, hgi, _, ⟨_, hcs2⟩, hck⟩ := (Hvj.out.ext0 hU.out.ext).cells k hlt3
              subst hAv hcs2
              have y1 := hck 1 _ rfl
              simp only [kIn] at y1
              generalize p.ins[k] = pin at *
              obtain ⟨y, hy⟩ : ∃ y, y = pin.val := ⟨_, rfl⟩
              rw [← hy] at y1
              clear hck hy
              obtain ⟨Au, cu, hvu, _⟩ := hU.out.used.shape
              subst hvu
              have t3 := hU.out.blk.cell (i := 3) rfl
              have tf := hU.out.blk.frozen 3
              have hC0 : wr.cell? ⟨m1 + 1, 3, none⟩ = some (.slice Au us.length cu) ∧ wr.cell? ⟨b5, 0, none⟩ = some (.slice (some ⟨gp, 0, none⟩) x.phis.length cp) ∧ wr.cell? ⟨gp, j * 2 + 1, none⟩ = some (.slice (some ⟨gi, 0, none⟩) p.ins.length cv) ∧ wr.cell? ⟨gi, k * 2 + 1, none⟩ = some (.int .i64 y) := ⟨t3, s0, f1, y1⟩
              have hgil : gi < wr0.heap.size := Hvj.out.lt gi hgi
              obtain ⟨wz, hwz⟩ : ∃ z, z = wr.drew.alloc (.cells #[.int .i64 y] 3) := ⟨_, rfl⟩
              have hxz : Ext [] wr wz := by rw [hwz]; exact (Ext.refl _ _).drew.alloc _
              have hsrc : Src wz (.slice (some ⟨wr.heap.size, 0, none⟩) 1 1) 1 [.int .i64 y] := by rw [hwz]; exact Src.one (w := wr.drew) rfl
              obtain ⟨v', w', S', hrun, hs', hx', hf', hn'⟩ := run_append_sl (ty := 22) (d := kInt) (ys := [y]) ei_int (hU.out.used.ext0 hxz) (.slice (some ⟨wr.heap.size, 0, none⟩) 1 1) [.int .i64 y] [[]] elems_one rfl (one_one rfl) hsrc (by simp) (le_maxLen husl) (le_bytes husl (by decide))
              obtain ⟨A', c', hv', _⟩ := hs'.shape
              subst hv'
              have hC1 : wz.cell? ⟨m1 + 1, 3, none⟩ = some (.slice Au us.length cu) ∧ wz.cell? ⟨b5, 0, none⟩ = some (.slice (some ⟨gp, 0, none⟩) x.phis.length cp) ∧ wz.cell? ⟨gp, j * 2 + 1, none⟩ = some (.slice (some ⟨gi, 0, none⟩) p.ins.length cv) ∧ wz.cell? ⟨gi, k * 2 + 1, none⟩ = some (.int .i64 y) :=
                ⟨hxz.cell hC0.1 (by simp), hxz.cell hC0.2.1 (by simp), hxz.cell hC0.2.2.1 (by simp), hxz.cell hC0.2.2.2 (by simp)⟩
              have hSu : ∀ z, z ≤ m1 + 1 → z ∉ Su := fun z hz hk => by have := hU.out.new z hk; omega
              have hm10 : wr0.heap.size = m1 := Hm1.out.symm
              have hC2 : w'.cell? ⟨m1 + 1, 3, none⟩ = some (.slice Au us.length cu) ∧ w'.cell? ⟨b5, 0, none⟩ = some (.slice (some ⟨gp, 0, none⟩) x.phis.length cp) ∧ w'.cell? ⟨gp, j * 2 + 1, none⟩ = some (.slice (some ⟨gi, 0, none⟩) p.ins.length cv) ∧ w'.cell? ⟨gi, k * 2 + 1, none⟩ = some (.int .i64 y) :=
                ⟨hx'.cell hC1.1 (hSu _ (by show m1 + 1 ≤ m1 + 1; omega)), hx'.cell hC1.2.1 (hSu _ (by show b5 ≤ m1 + 1; omega)), hx'.cell hC1.2.2.1 (hSu _ (by show gp ≤ m1 + 1; omega)), hx'.cell hC1.2.2.2 (hSu _ (by show gi ≤ m1 + 1; omega))⟩
              have hfz : w'.frozen? ⟨m1 + 1, 3, none⟩ = false := by
                rw [hx'.frozen (p := ⟨m1 + 1, 3, none⟩) (by have := hU.out.blk.lt; have := hxz.size; show m1 + 1 < _; omega) (hSu _ (by show m1 + 1 ≤ m1 + 1; omega)), hxz.frozen (p := ⟨m1 + 1, 3, none⟩) (by show m1 + 1 < _; exact hU.out.blk.lt) (by simp)]
                exact tf
              have hU2 := Lib.hid (hU.out.app (by omega) hxz hx' hs' (by simpa using hf') (by simpa using hn'))
              simp only [List.length_append, List.length_cons, List.length_nil, Nat.zero_add] at hU2
              have hU0 := hU
              clear hm10 t3 tf s0 f0 f1 y1 hs' hx' hf' hn' hsrc hSu hU hk
              go_wp2
              refine wp_region_rt (fun W => W.cell? ⟨m1 + 1, 3, none⟩ = some (.slice Au us.length cu) ∧ W.cell? ⟨b5, 0, none⟩ = some (.slice (some ⟨gp, 0, none⟩) x.phis.length cp) ∧ W.cell? ⟨gp, j * 2 + 1, none⟩ = some (.slice (some ⟨gi, 0, none⟩) p.ins.length cv) ∧ W.cell? ⟨gi, k * 2 + 1, none⟩ = some (.int .i64 y)) (.q 0 (.q 1 (.q 2 (.q 3 (.q 4 (.q 5 (.q 6 (.q 7 (.q 8 (.q 9 (.q 10 (.q 11 (.e 12 (.e 13 (.q 14 (.fin 15)))))))))))))))) (by kernel_rfl) (by kernel_rfl) hC0 ?_
              refine rt_quiet (.pointer (some ⟨m1 + 1, 3, none⟩)) rfl rfl (fun W' hC => by simp [go_sem]) ?_
              simp only [put_lit, put_none, List.set_cons_succ, List.set_cons_zero]
              refine rt_quiet (.slice Au us.length cu) rfl rfl (fun W' hC => by simp [go_sem, hC.1]) ?_
              simp only [put_lit, put_none, List.set_cons_succ, List.set_cons_zero]
              refine rt_quiet (.pointer (some ⟨b5, 0, none⟩)) rfl rfl (fun W' hC => by simp [go_sem]) ?_
              simp only [put_lit, put_none, List.set_cons_succ, List.set_cons_zero]
              refine rt_quiet (.slice (some ⟨gp, 0, none⟩) x.phis.length cp) rfl rfl (fun W' hC => by simp [go_sem, hC.2.1]) ?_
              simp only [put_lit, put_none, List.set_cons_succ, List.set_cons_zero]
              refine rt_quiet (.int .i64 (j : Int)) rfl rfl (fun W' hC => by simp [go_sem]) ?_
              simp only [put_lit, put_none, List.set_cons_succ, List.set_cons_zero]
              refine rt_quiet (.pointer (some ⟨gp, j * 2, none⟩)) rfl rfl (fun W' hC => by simp [go_sem, hlt2]) ?_
              simp only [put_lit, put_none, List.set_cons_succ, List.set_cons_zero]
              refine rt_quiet (.pointer (some ⟨gp, j * 2 + 1, none⟩)) rfl rfl (fun W' hC => by simp [go_sem]) ?_
              simp only [put_lit, put_none, List.set_cons_succ, List.set_cons_zero]
              refine rt_quiet (.slice (some ⟨gi, 0, none⟩) p.ins.length cv) rfl rfl (fun W' hC => by simp [go_sem, hC.2.2.1]) ?_
              simp only [put_lit, put_none, List.set_cons_succ, List.set_cons_zero]
              refine rt_quiet (.int .i64 (k : Int)) rfl rfl (fun W' hC => by simp [go_sem]) ?_
              simp only [put_lit, put_none, List.set_cons_succ, List.set_cons_zero]
              refine rt_quiet (.pointer (some ⟨gi, k * 2, none⟩)) rfl rfl (fun W' hC => by simp [go_sem, hlt3]) ?_
              simp only [put_lit, put_none, List.set_cons_succ, List.set_cons_zero]
              refine rt_quiet (.pointer (some ⟨gi, k * 2 + 1, none⟩)) rfl rfl (fun W' hC => by simp [go_sem]) ?_
              simp only [put_lit, put_none, List.set_cons_succ, List.set_cons_zero]
              refine rt_quiet (.int .i64 y) rfl rfl (fun W' hC => by simp [go_sem, hC.2.2.2]) ?_
              simp only [put_lit, put_none, List.set_cons_succ, List.set_cons_zero]
              refine s_eff (.slice (some ⟨wr.heap.size, 0, none⟩) 1 1) (w' := wz) rfl rfl (by rw [hwz]; simp [go_sem]) ⟨hC1, ?_⟩
              simp only [put_lit, put_none, List.set_cons_succ, List.set_cons_zero]
              refine s_eff (.slice A' (us ++ [y]).length c') (w' := w') rfl rfl (exec_append rfl rfl rfl hrun) ⟨hC2, ?_⟩
              simp only [put_lit, put_none, List.set_cons_succ, List.set_cons_zero]
              refine rt_quiet (.pointer (some ⟨m1 + 1, 3, none⟩)) rfl rfl (fun W' hC => by simp [go_sem]) ?_
              simp only [put_lit, put_none, List.set_cons_succ, List.set_cons_zero]
              refine fin_eff0 (w' := w'.setCell ⟨m1 + 1, 3, none⟩ (.slice A' (us ++ [y]).length c')) rfl rfl (by simp [go_sem, hC2.1, hfz]) ?_
              simp only [put_lit, put_none, List.set_cons_succ, List.set_cons_zero]
              clear hC0 hC1 hC2 hfz hrun hwz hxz
              go_wp2
              go_roundg (gk - 1)
              case measure => have := HR.out; omega
              case rel => exact ⟨k + 1, us ++ [y], S', _, by go_num, by omega, by have := HR.out; simp only [Hid]; omega, by have := Hus.out; simp; exact this, hU2⟩
            · obtain ⟨Au, cu, hvu, _⟩ := hU.out.used.shape
              subst hvu
              have t0 := hU.out.blk.cell (i := 0) rfl
              have t1 := hU.out.blk.cell (i := 1) rfl
              have t2 := hU.out.blk.cell (i := 2) rfl
              have t3 := hU.out.blk.cell (i := 3) rfl
              have hT3 := hT.out.ext0 hU.out.ext
              obtain ⟨A4, k4, hv4, _⟩ := hT3.row.shape
              have hll : (L0 ++ phT i x j).length ≤ 1073741824 := by simp [phT]; omega
              subst hv4
              have hm10 : wr0.heap.size = m1 := Hm1.out.symm
              have hxa : Ext [] wr (wr.alloc (.cells #[.int .i64 (i : Int), .int .i64 (-1 - (j : Int)), .slice (some ⟨m1, 0, none⟩) 1 1, .slice Au us.length cu] 94)) := (Ext.refl _ _).alloc _
              have hrp : kThing.rep (wr.alloc (.cells #[.int .i64 (i : Int), .int .i64 (-1 - (j : Int)), .slice (some ⟨m1, 0, none⟩) 1 1, .slice Au us.length cu] 94)) [m1] ⟨(i : Int), -1 - (j : Int), [p.dst]⟩ [.int .i64 (i : Int), .int .i64 (-1 - (j : Int)), .slice (some ⟨m1, 0, none⟩) 1 1, .slice Au us.length cu] := ⟨_, _, rfl, rfl, hU.out.made.ext0 hxa⟩
              have hone := Kd.one kThing hrp
              have HRow := Lib.hid (hT3.row.ext0 hxa)
              have hdis : ∀ k ∈ [[m1]].flatten, k ∉ So := fun k hk h2 => by have := hT.out.row.lt k h2; simp at hk; omega
              have HT3 := Lib.hid hT.out
              have hel := elems_single hrp
              have Hel := Lib.hid hel
              obtain ⟨Ll, hLl⟩ : ∃ l, l = L0 ++ phT i x j := ⟨_, rfl⟩
              rw [← hLl] at HRow hll HT3
              rw [← hLl]
              have HLl := Lib.hid hLl
              have hUe := hU.out.ext
              clear hrp hel hT3 hLl hU hT
              go_wp2_with (at_builtin; refine wpList_append_sl (d := kThing) (ys := [⟨(i : Int), -1 - (j : Int), [p.dst]⟩]) rfl (.tmp 67) (.tmp 69) 91 rfl ei_thing rfl HRow.out rfl [.int .i64 (i : Int), .int .i64 (-1 - (j : Int)), .slice (some ⟨m1, 0, none⟩) 1 1, .slice Au us.length cu] [[m1]] Hel.out rfl hone (Src.blk 1) hdis (le_maxLen hll) (le_bytesB hll (by decide)) ?_; intro v' w' S' hs' hx' hf' hn')
              obtain ⟨hT5, hS5⟩ := HT3.out.app (hUe.nil hxa) hx' hs' (Sn := [m1]) (by intro k hk; simp at hk; omega) (by simp) hf' hn'
              have h55 : Blk w' b5 43 #[.slice (some ⟨gp, 0, none⟩) x.phis.length cp, .slice Ai x.ins.length ci, .int .i64 x.term.kind, .slice Aa x.term.args.length ca, .slice At x.term.to.length ct, .int .i32 x.term.imm] ∧ b5 ∉ S' :=
                ⟨(h5.out.1.ext (hUe.nil hxa) (by simp)).ext hx' h5.out.2, fun hk => (hS5 b5 hk).elim h5.out.2 fun h => by omega⟩
              have H55 := Lib.hid h55
              have HT5 := Lib.hid hT5
              clear h55 hT5 hS5 hs' hx' hf' hn'
              go_roundg (q2 - 1)
              case measure => have := HJ.out; omega
              case rel =>
                refine ⟨j + 1, S', by go_num, by omega, by have := HJ.out; simp only [Hid]; omega, ?_, H55⟩
                rw [Hph.out, ← List.append_assoc, ← HLl.out]
                exact HT5
        · have hje : j = x.phis.length := by omega
          subst hje
          obtain ⟨L1, hL1⟩ : ∃ l, l = L0 ++ phT i x x.phis.length := ⟨_, rfl⟩
          have HL1 := Lib.hid hL1
          rw [← hL1] at hT
          have hl1 : L1.length ≤ i * 1002000 + 1000 := by rw [hL1]; simp [phT]; omega
          have hTi : Hid (TBI w wr f.params (.slice (some ⟨g, 0, none⟩) f.blocks.length cap) (L1 ++ inT i x 0) So u3) := by simpa [Hid, inT] using hT.out
          obtain ⟨wr0, hwr0⟩ : ∃ z, z = wr := ⟨_, rfl⟩
          clear hL1 hT hwr0 HJ
          go_wp2
          go_loopg [3, 9] x.ins.length (fun k v3 vi wr2 => ∃ (j : Nat) (So : List Nat), vi = .int .i64 (j : Int) ∧ j ≤ x.ins.length ∧ Hid (j + k = x.ins.length) ∧ Hid (TBI w wr2 f.params (.slice (some ⟨g, 0, none⟩) f.blocks.length cap) (L1 ++ inT i x j) So v3) ∧
            Hid (Blk wr2 b5 43 #[.slice Ap x.phis.length cp, .slice Ai x.ins.length ci, .int .i64 x.term.kind, .slice Aa x.term.args.length ca, .slice At x.term.to.length ct, .int .i32 x.term.imm] ∧ b5 ∉ So))
          case atStart => exact ⟨0, So, rfl, by omega, by simp [Hid], hTi, h5⟩
          case round =>
            clear hTi h5
            obtain ⟨j, So, rfl, hj, HJ, hT, h5⟩ := hrel
            have s1 := h5.out.1.cell (i := 1) rfl
            have s2 := h5.out.1.cell (i := 3) rfl
            obtain ⟨A4, k4, hv4, _⟩ := hT.out.row.shape
            subst hv4
            have hll : (L1 ++ inT i x j).length ≤ 1073741824 := by simp [inT]; omega
            obtain ⟨Ll, hLl⟩ : ∃ l, l = L1 ++ inT i x j := ⟨_, rfl⟩
            rw [← hLl] at hll hT
            rw [← hLl]
            have HLl := Lib.hid hLl
            clear hLl
            by_cases hlt2 : j < x.ins.length
            · obtain ⟨gi, Sj, cs, hAi, hgi, _, ⟨vj, hcs, hvj⟩, hcj⟩ := (Hbc.out.i.ext0 hT.out.ext).cells j hlt2
              subst hAi hcs
              have hgil : gi < w.heap.size := Hbc.out.i.lt gi hgi
              have e0 := hcj 0 _ rfl
              have e1' := hcj 1 _ rfl
              have e2 := hcj 2 _ rfl
              have e3 := hcj 3 _ rfl
              have e4 := hcj 4 _ rfl
              simp only [kIns, Nat.add_zero] at e0 e1' e2 e3 e4
              have Hph := Lib.hid (inT_succ i x j)
              rw [List.getD_eq_getElem?_getD, List.getElem?_eq_getElem hlt2] at Hph
              simp only [Option.getD_some] at Hph
              generalize x.ins[j] = s at *
              clear hcj
              obtain ⟨Av, cv, hvv, _⟩ := hvj.shape
              subst hvv
              have hC0 : wr.cell? ⟨b5, 1, none⟩ = some (.slice (some ⟨gi, 0, none⟩) x.ins.length ci) ∧ wr.cell? ⟨gi, j * 5, none⟩ = some (.int .i64 s.op) ∧ wr.cell? ⟨gi, j * 5 + 1, none⟩ = some (.int .i64 s.dst) ∧ wr.cell? ⟨gi, j * 5 + 2, none⟩ = some (.int .i64 s.two) ∧ wr.cell? ⟨gi, j * 5 + 3, none⟩ = some (.slice Av s.args.length cv) ∧ wr.cell? ⟨gi, j * 5 + 4, none⟩ = some (.int .i32 s.imm) := ⟨s1, e0, e1', e2, e3, e4⟩
              have Hvj := Lib.hid hvj
              clear s1 s2 e0 e1' e2 e3 e4 hvj
              go_wp2
              refine wp_region_rt (fun W => W.cell? ⟨b5, 1, none⟩ = some (.slice (some ⟨gi, 0, none⟩) x.ins.length ci) ∧ W.cell? ⟨gi, j * 5, none⟩ = some (.int .i64 s.op) ∧ W.cell? ⟨gi, j * 5 + 1, none⟩ = some (.int .i64 s.dst) ∧ W.cell? ⟨gi, j * 5 + 2, none⟩ = some (.int .i64 s.two) ∧ W.cell? ⟨gi, j * 5 + 3, none⟩ = some (.slice Av s.args.length cv) ∧ W.cell? ⟨gi, j * 5 + 4, none⟩ = some (.int .i32 s.imm)) (.q 0 (.q 1 (.q 2 (.q 3 (.q 4 (.q 5 (.q 6 (.q 7 (.q 9 (.q 10 (.q 11 (.q 12 (.q 13 (.q 14 (.e 8 (.q 15 (.e 16 (.e 17 (.fin 18))))))))))))))))))) (by kernel_rfl) (by kernel_rfl) hC0 ?_
              refine rt_quiet (.slice A4 Ll.length k4) rfl rfl (fun W' hC => by simp [go_sem]) ?_
              simp only [put_lit, put_none, List.set_cons_succ, List.set_cons_zero]
              refine rt_quiet (.int .i64 (i : Int)) rfl rfl (fun W' hC => by simp [go_sem]) ?_
              simp only [put_lit, put_none, List.set_cons_succ, List.set_cons_zero]
              refine rt_quiet (.int .i64 (j : Int)) rfl rfl (fun W' hC => by simp [go_sem]) ?_
              simp only [put_lit, put_none, List.set_cons_succ, List.set_cons_zero]
              refine rt_quiet (.pointer (some ⟨b5, 1, none⟩)) rfl rfl (fun W' hC => by simp [go_sem]) ?_
              simp only [put_lit, put_none, List.set_cons_succ, List.set_cons_zero]
              refine rt_quiet (.slice (some ⟨gi, 0, none⟩) x.ins.length ci) rfl rfl (fun W' hC => by simp [go_sem, hC.1]) ?_
              simp only [put_lit, put_none, List.set_cons_succ, List.set_cons_zero]
              refine rt_quiet (.int .i64 (j : Int)) rfl rfl (fun W' hC => by simp [go_sem]) ?_
              simp only [put_lit, put_none, List.set_cons_succ, List.set_cons_zero]
              refine rt_quiet (.pointer (some ⟨gi, j * 5, none⟩)) rfl rfl (fun W' hC => by simp [go_sem, hlt2]) ?_
              simp only [put_lit, put_none, List.set_cons_succ, List.set_cons_zero]
              refine rt_quiet (.agg #[.int .i64 s.op, .int .i64 s.dst, .int .i64 s.two, .slice Av s.args.length cv, .int .i32 s.imm]) rfl rfl (fun W' hC => by simp [go_sem, hC.2.1, hC.2.2.1, hC.2.2.2.1, hC.2.2.2.2.1, hC.2.2.2.2.2]) ?_
              simp only [put_lit, put_none, List.set_cons_succ, List.set_cons_zero]
              refine rt_quiet (.pointer (some ⟨b5, 1, none⟩)) rfl rfl (fun W' hC => by simp [go_sem]) ?_
              simp only [put_lit, put_none, List.set_cons_succ, List.set_cons_zero]
              refine rt_quiet (.slice (some ⟨gi, 0, none⟩) x.ins.length ci) rfl rfl (fun W' hC => by simp [go_sem, hC.1]) ?_
              simp only [put_lit, put_none, List.set_cons_succ, List.set_cons_zero]
              refine rt_quiet (.int .i64 (j : Int)) rfl rfl (fun W' hC => by simp [go_sem]) ?_
              simp only [put_lit, put_none, List.set_cons_succ, List.set_cons_zero]
              refine rt_quiet (.pointer (some ⟨gi, j * 5, none⟩)) rfl rfl (fun W' hC => by simp [go_sem, hlt2]) ?_
              simp only [put_lit, put_none, List.set_cons_succ, List.set_cons_zero]
              refine rt_quiet (.pointer (some ⟨gi, j * 5 + 3, none⟩)) rfl rfl (fun W' hC => by simp [go_sem]) ?_
              simp only [put_lit, put_none, List.set_cons_succ, List.set_cons_zero]
              refine rt_quiet (.slice Av s.args.length cv) rfl rfl (fun W' hC => by simp [go_sem, hC.2.2.2.2.1]) ?_
              simp only [put_lit, put_none, List.set_cons_succ, List.set_cons_zero]
              refine s_call (w' := wr.drew) rfl rfl (by simp [go_sem]) ((makes3_calls (x := s) (S := Sj) (cs := [.int .i64 s.op, .int .i64 s.dst, .int .i64 s.two, .slice Av s.args.length cv, .int .i32 s.imm]) ⟨_, rfl, Hvj.out.ext0 (Ext.refl _ _).drew⟩).mono ?_)
              rintro e w1 ⟨v1, S1, rfl, hm1, hnew1⟩
              obtain ⟨A1, c1, hv1, _⟩ := hm1.shape
              subst hv1
              have hx1 : Ext [] wr w1 := ((Ext.refl _ _).drew).nil hnew1.ext
              have hC1 : w1.cell? ⟨b5, 1, none⟩ = some (.slice (some ⟨gi, 0, none⟩) x.ins.length ci) ∧ w1.cell? ⟨gi, j * 5, none⟩ = some (.int .i64 s.op) ∧ w1.cell? ⟨gi, j * 5 + 1, none⟩ = some (.int .i64 s.dst) ∧ w1.cell? ⟨gi, j * 5 + 2, none⟩ = some (.int .i64 s.two) ∧ w1.cell? ⟨gi, j * 5 + 3, none⟩ = some (.slice Av s.args.length cv) ∧ w1.cell? ⟨gi, j * 5 + 4, none⟩ = some (.int .i32 s.imm) := ⟨hx1.cell hC0.1 (by simp), hx1.cell hC0.2.1 (by simp), hx1.cell hC0.2.2.1 (by simp), hx1.cell hC0.2.2.2.1 (by simp), hx1.cell hC0.2.2.2.2.1 (by simp), hx1.cell hC0.2.2.2.2.2 (by simp)⟩
              refine ⟨_, rfl, hC1, ?_⟩
              simp only [put_lit, put_none, List.set_cons_succ, List.set_cons_zero]
              refine rt_quiet (.agg #[.int .i64 (i : Int), .int .i64 (j : Int), .slice A1 (makesF s).length c1, .slice Av s.args.length cv]) rfl rfl (fun W' hC => by simp [go_sem]) ?_
              simp only [put_lit, put_none, List.set_cons_succ, List.set_cons_zero]
              obtain ⟨w2, hw2⟩ : ∃ z, z = w1.alloc (.cells #[.int .i64 (i : Int), .int .i64 (j : Int), .slice A1 (makesF s).length c1, .slice Av s.args.length cv] 94) := ⟨_, rfl⟩
              have hx2 : Ext [] w1 w2 := by rw [hw2]; exact (Ext.refl _ _).alloc _
              have hC2 : w2.cell? ⟨b5, 1, none⟩ = some (.slice (some ⟨gi, 0, none⟩) x.ins.length ci) ∧ w2.cell? ⟨gi, j * 5, none⟩ = some (.int .i64 s.op) ∧ w2.cell? ⟨gi, j * 5 + 1, none⟩ = some (.int .i64 s.dst) ∧ w2.cell? ⟨gi, j * 5 + 2, none⟩ = some (.int .i64 s.two) ∧ w2.cell? ⟨gi, j * 5 + 3, none⟩ = some (.slice Av s.args.length cv) ∧ w2.cell? ⟨gi, j * 5 + 4, none⟩ = some (.int .i32 s.imm) := ⟨hx2.cell hC1.1 (by simp), hx2.cell hC1.2.1 (by simp), hx2.cell hC1.2.2.1 (by simp), hx2.cell hC1.2.2.2.1 (by simp), hx2.cell hC1.2.2.2.2.1 (by simp), hx2.cell hC1.2.2.2.2.2 (by simp)⟩
              refine s_eff (.slice (some ⟨w1.heap.size, 0, none⟩) 1 1) (w' := w2) rfl rfl (by rw [hw2]; simp [go_sem]) ⟨hC2, ?_⟩
              simp only [put_lit, put_none, List.set_cons_succ, List.set_cons_zero]
              have hrp : kThing.rep w2 S1 ⟨(i : Int), (j : Int), makesF s⟩ [.int .i64 (i : Int), .int .i64 (j : Int), .slice A1 (makesF s).length c1, .slice Av s.args.length cv] := ⟨_, _, rfl, rfl, hm1.ext0 hx2⟩
              have hone := Kd.one kThing hrp
              have hsrc : Src w2 (.slice (some ⟨w1.heap.size, 0, none⟩) 1 1) 1 [.int .i64 (i : Int), .int .i64 (j : Int), .slice A1 (makesF s).length c1, .slice Av s.args.length cv] := by rw [hw2]; exact Src.blk (w := w1) (cs := [.int .i64 (i : Int), .int .i64 (j : Int), .slice A1 (makesF s).length c1, .slice Av s.args.length cv]) 1
              have hfr : ∀ k ∈ S1, wr.heap.size ≤ k := fun k hk => by have := hnew1.fresh k hk; simpa using this
              have hdis : ∀ k ∈ [S1].flatten, k ∉ So := fun k hk h2 => by have := hT.out.row.lt k h2; have := hfr k (by simpa using hk); omega
              obtain ⟨v', w', S', hrun, hs', hx', hf', hn'⟩ := run_append_sl (ty := 91) (d := kThing) (ys := [⟨(i : Int), (j : Int), makesF s⟩]) ei_thing (hT.out.row.ext0 (hx1.nil hx2)) (.slice (some ⟨w1.heap.size, 0, none⟩) 1 1) _ [S1] (elems_single hrp) rfl hone hsrc hdis (le_maxLen hll) (le_bytesB hll (by decide))
              obtain ⟨hT5, hS5⟩ := hT.out.app (hx1.nil hx2) hx' hs' (Sn := S1) hfr hnew1.nodup hf' hn'
              have hgS : gi ∉ So := fun hk => by have := hT.out.new gi hk; omega
              have hC3 : w'.cell? ⟨b5, 1, none⟩ = some (.slice (some ⟨gi, 0, none⟩) x.ins.length ci) ∧ w'.cell? ⟨gi, j * 5, none⟩ = some (.int .i64 s.op) ∧ w'.cell? ⟨gi, j * 5 + 1, none⟩ = some (.int .i64 s.dst) ∧ w'.cell? ⟨gi, j * 5 + 2, none⟩ = some (.int .i64 s.two) ∧ w'.cell? ⟨gi, j * 5 + 3, none⟩ = some (.slice Av s.args.length cv) ∧ w'.cell? ⟨gi, j * 5 + 4, none⟩ = some (.int .i32 s.imm) := ⟨hx'.cell hC2.1 h5.out.2, hx'.cell hC2.2.1 hgS, hx'.cell hC2.2.2.1 hgS, hx'.cell hC2.2.2.2.1 hgS, hx'.cell hC2.2.2.2.2.1 hgS, hx'.cell hC2.2.2.2.2.2 hgS⟩
              refine s_eff v' (w' := w') rfl rfl (exec_append rfl rfl rfl hrun) ⟨hC3, ?_⟩
              simp only [put_lit, put_none, List.set_cons_succ, List.set_cons_zero]
              refine fin_eff (w' := w') v' rfl rfl (by simp [go_sem]) ?_
              simp only [put_lit, put_none, List.set_cons_succ, List.set_cons_zero]
              have hsz5 := h5.out.1.lt
              have h55 : Blk w' b5 43 #[.slice Ap x.phis.length cp, .slice (some ⟨gi, 0, none⟩) x.ins.length ci, .int .i64 x.term.kind, .slice Aa x.term.args.length ca, .slice At x.term.to.length ct, .int .i32 x.term.imm] ∧ b5 ∉ S' :=
                ⟨(h5.out.1.ext (hx1.nil hx2) (by simp)).ext hx' h5.out.2, fun hk => (hS5 b5 hk).elim h5.out.2 fun h => by omega⟩
              have H55 := Lib.hid h55
              have HT5 := Lib.hid hT5
              clear h55 hT5 hS5 hs' hx' hf' hn' hC0 hC1 hC2 hC3 hrun hsrc hrp hone hw2 hT h5
              go_wp2
              go_roundg (gk - 1)
              case measure => have := HJ.out; omega
              case rel =>
                refine ⟨j + 1, S', by go_num, by omega, by have := HJ.out; simp only [Hid]; omega, ?_, H55⟩
                rw [Hph.out, ← List.append_assoc, ← HLl.out]
                exact HT5
            · have hje : j = x.ins.length := by omega
              subst hje
              have hrp : kThing.rep (wr.alloc (.cells #[.int .i64 (i : Int), .int .i64 (x.ins.length : Int), .slice none 0 0, .slice Aa x.term.args.length ca] 94)) [] ⟨(i : Int), (x.ins.length : Int), []⟩ [.int .i64 (i : Int), .int .i64 (x.ins.length : Int), .slice none 0 0, .slice Aa x.term.args.length ca] := ⟨_, _, rfl, rfl, SlR.nil _ _ _⟩
              have hone := Kd.one kThing hrp
              have hxa : Ext [] wr (wr.alloc (.cells #[.int .i64 (i : Int), .int .i64 (x.ins.length : Int), .slice none 0 0, .slice Aa x.term.args.length ca] 94)) := (Ext.refl _ _).alloc _
              have HRow := Lib.hid (hT.out.row.ext0 hxa)
              have Hel := Lib.hid (elems_single hrp)
              clear hrp
              go_wp2_with (at_builtin; refine wpList_append_sl (d := kThing) (ys := [⟨(i : Int), (x.ins.length : Int), []⟩]) rfl (.tmp 96) (.tmp 105) 91 rfl ei_thing rfl HRow.out rfl [.int .i64 (i : Int), .int .i64 (x.ins.length : Int), .slice none 0 0, .slice Aa x.term.args.length ca] [[]] Hel.out rfl hone (Src.blk 1) (by simp) (le_maxLen hll) (le_bytesB hll (by decide)) ?_; intro v' w' S' hs' hx' hf' hn')
              obtain ⟨hT5, hS5⟩ := hT.out.app hxa hx' hs' (Sn := []) (by simp) (by simp) hf' hn'
              have HT5 := Lib.hid hT5
              clear hT5 hS5 hs' hx' hf' hn'
              go_roundg (q1 - 1)
              case measure => have := HK.out; omega
              case rel =>
                refine ⟨i + 1, S', by go_num, by omega, by have := HK.out; simp only [Hid]; omega, ?_⟩
                rw [Hsucc.out, blT, ← List.append_assoc, ← HL1.out, ← List.append_assoc, ← HLl.out]
                exact HT5
    · have hie : i = f.blocks.length := by omega
      subst hie
      go_wp2
      go_ret
      exact ⟨_, So, rfl, hT.out.row, hT.out.ext, fun k hk => Nat.le_of_lt (hT.out.new k hk), hT.out.nd⟩
end Go.Proofs.Ytkmgbejhbkbaoaa

/- The maker of functions: the values that stand at a block's end. -/
namespace Go.Proofs.Ytkmgbejhbkbaoaa
set_option linter.unusedSimpArgs false
set_option linter.unusedVariables false
open Go.RowKit

/-! ### plain -/
def StandV (params : Int) (bs : List JBlock) (b : Nat) (v : Int) : Prop :=
  (0 ≤ v ∧ v < params) ∨ ∃ t ∈ thT bs bs.length, v ∈ t.made ∧ ∃ a : Nat, t.block = (a : Int) ∧ a < bs.length ∧ (a = b ∨ ¬ Rwo (ofF bs) a b)
theorem thT_made {bs : List JBlock} {n : Nat} {t : JThg} (h : t ∈ thT bs n) : t.made.length ≤ 2 ∧ ∃ a : Nat, t.block = (a : Int) ∧ a < n := by
  simp only [thT, List.mem_flatMap, List.mem_range] at h
  obtain ⟨i, hi, h⟩ := h
  simp only [blT, phT, inT, List.mem_append, List.mem_map, List.mem_range, List.mem_singleton] at h
  rcases h with ⟨j, _, rfl⟩ | ⟨j, _, rfl⟩ | rfl
  · exact ⟨by simp, i, rfl, hi⟩
  · exact ⟨makesF_len _, i, rfl, hi⟩
  · exact ⟨by simp, i, rfl, hi⟩

/-- what the walk holds in memory -/
structure SBI (w wr : World) (p : Int) (vb : Value) (T : List JThg) (St : List Nat) (vT : Value) (l : List Int) (So : List Nat) (v5 : Value) : Prop where
  ext : Ext [] w wr
  box : Blk wr w.heap.size 26 #[.int .i64 p, vb]
  things : SlR kThing 94 wr St vT T
  row : SlR kInt 3 wr So v5 l
  off : ∀ k ∈ So, k ∉ St
  new : ∀ k ∈ So, w.heap.size < k
  nd : So.Nodup
section
variable {w wr w1 w' : World} {p : Int} {vb vT v5 v' : Value} {T : List JThg} {l l2 : List Int} {St So S' : List Nat}
theorem SBI.ext0 (h : SBI w wr p vb T St vT l So v5) (hx : Ext [] wr w1) : SBI w w1 p vb T St vT l So v5 := ⟨h.ext.nil hx, h.box.ext hx (by simp), h.things.ext0 hx, h.row.ext0 hx, h.off, h.new, h.nd⟩
theorem SBI.app (h : SBI w wr p vb T St vT l So v5) (hx' : Ext So wr w') (hs : SlR kInt 3 w' S' v' l2) (hf : ∀ k ∈ S', k ∈ So ∨ k = wr.heap.size ∨ k ∈ ([] : List Nat)) (hn : So.Nodup → ([] : List Nat).Nodup → S'.Nodup) : SBI w w' p vb T St vT l2 S' v' := by
  have hb := h.box.lt
  refine ⟨h.ext.trans hx' fun k hk => .inr (by have := h.new k hk; omega), h.box.ext hx' (fun hk => by have := h.new _ hk; omega), h.things.ext hx' (fun k hk h2 => h.off k h2 hk), hs, fun k hk h2 => ?_, fun k hk => ?_, hn h.nd (by simp)⟩
  · rcases hf k hk with h3 | h3 | h3
    · exact h.off k h3 h2
    · have := h.things.lt k h2; omega
    · cases h3
  · rcases hf k hk with h3 | h3 | h3
    · exact h.new k h3
    · omega
    · cases h3
end
set_option maxRecDepth 20000 in
set_option maxHeartbeats 12800000 in
theorem standing_calls {w : World} {S : List Nat} {v : Value} {f : JFunc} (h : FnR w S v f) (h0 : 0 < f.blocks.length) (hn : f.blocks.length ≤ 100) (hl : ∀ x ∈ f.blocks, x.phis.length ≤ 1000 ∧ x.ins.length ≤ 1000000) (hp : ∀ x ∈ f.blocks, ∀ y ∈ x.phis, y.ins.length ≤ 1000000)
    (htl : ∀ x ∈ f.blocks, x.term.to.length ≤ 100000) (ht : ∀ x ∈ f.blocks, ∀ t ∈ x.term.to, 0 ≤ t ∧ t < (f.blocks.length : Int)) (P : Nat) (hP : f.params = (P : Int)) (hP2 : P ≤ 1000) (b : Nat) (hb1 : b < f.blocks.length) :
    Calls Try.prog 27 #[v, .int .i64 (b : Int)] w fun e w' => ∃ v' S' l, e = .returned v' ∧ SlR kInt 3 w' S' v' l ∧ New w w' S' ∧ l.length ≤ 1000 + 2 * (thT f.blocks f.blocks.length).length ∧ ∀ y ∈ l, StandV f.params f.blocks b y := by
  have Hh := Lib.hid h
  obtain ⟨vb, rfl, hb⟩ := h
  obtain ⟨A, cap, rfl, hcap⟩ := hb.shape
  have HP := Lib.hid hP
  rw [hP]
  go_enter Try.func27, Try.ntmps27
  clear hP
  go_wp2
  go_loopg [5, 6] P (fun k v5 vi wr => ∃ (i : Nat) (So : List Nat), vi = .int .i64 (i : Int) ∧ i ≤ P ∧ Hid (i + k = P) ∧ Hid (SlR kNat 3 wr So v5 (List.range i)) ∧ Hid (Blk wr w.heap.size 26 #[.int .i64 (P : Int), .slice A f.blocks.length cap]) ∧ Hid (Ext [] w wr) ∧ Hid ((∀ k ∈ So, w.heap.size < k) ∧ So.Nodup))
  case atStart => exact ⟨0, [], rfl, by omega, by simp [Hid], Lib.hid (.inl ⟨_, rfl, rfl, rfl⟩), Lib.hid ((Blk.new _ _ _).alloc _), Lib.hid (((Ext.refl _ _).alloc _).alloc _), Lib.hid ⟨by simp, by simp⟩⟩
  case round =>
    obtain ⟨i, So, rfl, hi, HK, hso, hblk, hext, hnew⟩ := hrel
    have d0 := hblk.out.cell (i := 0) rfl
    have d1 := hblk.out.cell (i := 1) rfl
    have hszb := hblk.out.lt
    by_cases hlt : i < P
    · have hrl : (List.range i).length ≤ 1073741824 := by rw [List.length_range]; omega
      have HS := Lib.hid (hso.out.ext0 ((Ext.refl [] wr).alloc (.cells #[.int .i64 (i : Int)] 3)))
      go_wp2_with (at_builtin; refine wpList_append_sl (d := kNat) (ys := [i]) rfl (.tmp 18) (.tmp 20) 22 rfl ei_int rfl HS.out rfl [.int .i64 (i : Int)] [[]] elems_one rfl (one_one rfl) (Src.one rfl) (by simp) (le_maxLen hrl) (le_bytes hrl (by decide)) ?_; intro v' w' S' hs' hx' hf' hn')
      go_roundg (gk - 1)
      case measure => have := HK.out; omega
      case rel =>
        have hbs : w.heap.size ∉ So := fun hk => by have := hnew.out.1 _ hk; omega
        refine ⟨i + 1, S', by go_num, by omega, by have := HK.out; simp only [Hid]; omega, ?_, Lib.hid ((hblk.out.ext ((Ext.refl [] wr).alloc _) (by simp)).ext hx' hbs), Lib.hid ((hext.out.alloc _).trans hx' fun k hk => .inr (by have := hnew.out.1 k hk; omega)), fun k hk => ?_, hn' hnew.out.2 (by simp)⟩
        · rw [Hid, List.range_succ]; exact hs'
        · rcases hf' k hk with h3 | h3 | h3
          · exact hnew.out.1 k h3
          · simp at h3; omega
          · simp at h3
    · have hie : i = P := by omega
      subst hie
      have HF : FnR wr S (.agg #[.int .i64 ((i : Nat) : Int), .slice A f.blocks.length cap]) f := by
        have h1 := Hh.out.ext hext.out (by simp)
        rw [HP.out] at h1; exact h1
      have HF0 := Lib.hid HF
      have hso1 := Lib.hid (slr_nat_int.1 hso.out)
      have hrl : ((List.range i).map Int.ofNat).length = i := by simp
      have Hrl := Lib.hid hrl
      obtain ⟨l0, hl0⟩ : ∃ l, l = (List.range i).map Int.ofNat := ⟨_, rfl⟩
      have hst0 : Hid (∀ y ∈ l0, StandV f.params f.blocks b y) := fun y hy => by
        rw [hl0] at hy
        obtain ⟨n, hn', rfl⟩ := List.mem_map.1 hy
        have := List.mem_range.1 hn'
        refine .inl ⟨by simp, ?_⟩
        rw [HP.out]; simp; omega
      rw [← hl0] at hso1 Hrl
      have hll0 : Hid (l0.length ≤ 1000 + 2 * 0) := by have := Hrl.out; simp only [Hid]; omega
      clear hl0 hrl hso
      go_wp2_with fail
      refine (things_calls HF (by omega) hl hp).mono ?_
      rintro e w1 ⟨vT, St, rfl, hT, hnewT⟩
      have hB0 : Hid (SBI w w1 ((i : Nat) : Int) (.slice A f.blocks.length cap) (thT f.blocks f.blocks.length) St vT l0 So u5) :=
        ⟨hext.out.nil hnewT.ext, hblk.out.ext hnewT.ext (by simp), hT, hso1.out.ext0 hnewT.ext, fun k hk h2 => by have := hso1.out.lt k hk; have := hnewT.fresh k h2; omega, hnew.out.1, hnew.out.2⟩
      have hTl := thT_len hl f.blocks.length (Nat.le_refl _)
      obtain ⟨T, hTT⟩ : ∃ T, T = thT f.blocks f.blocks.length := ⟨_, rfl⟩
      have HTT := Lib.hid hTT
      rw [← hTT] at hB0 hTl
      obtain ⟨AT, kT, hvT, _⟩ := hB0.out.things.shape
      subst hvT
      clear hTT hT hnewT hext hblk hnew hso1 d0 d1 HK HF hszb
      go_wp2
      go_loopg [5, 8] T.length (fun k v5 vi wr => ∃ (j : Nat) (So : List Nat) (l : List Int), vi = .int .i64 (j : Int) ∧ j ≤ T.length ∧ Hid (j + k = T.length) ∧ Hid (SBI w wr ((i : Nat) : Int) (.slice A f.blocks.length cap) T St (.slice AT T.length kT) l So v5) ∧ Hid (l.length ≤ 1000 + 2 * j) ∧ Hid (∀ y ∈ l, StandV f.params f.blocks b y))
      case atStart => exact ⟨0, So, l0, rfl, by omega, by simp [Hid], hB0, hll0, hst0⟩
      case round =>
        clear hB0 hll0 hst0
        obtain ⟨j, So, l, rfl, hj, HJ, hB, hll, hst⟩ := hrel
        have d0 := hB.out.box.cell (i := 0) rfl
        have d1 := hB.out.box.cell (i := 1) rfl
        by_cases hlt2 : j < T.length
        · obtain ⟨gT, Sj, cs, hAT, hgT, _, ⟨vm, vu, hcs, _, hmd⟩, hcj⟩ := hB.out.things.cells j hlt2
          subst hAT hcs
          have e0 := hcj 0 _ rfl
          have e2 := hcj 2 _ rfl
          simp only [kThing, Nat.add_zero] at e0 e2
          have Hmem : Hid (T[j] ∈ thT f.blocks f.blocks.length) := by rw [Hid, ← HTT.out]; exact List.getElem_mem hlt2
          generalize T[j] = t at *
          obtain ⟨hmade, a, hblk, han⟩ := thT_made Hmem.out
          have Hblk := Lib.hid hblk
          rw [hblk] at e0
          obtain ⟨vmA, vmc, hvm, _⟩ := hmd.shape
          subst hvm
          have Hmd := Lib.hid hmd
          clear hcj hblk hmd
          have hll9 := hll.out
          by_cases hab : a = b
          · subst hab
            have hab : True := trivial
            obtain ⟨news, Sy, hE, hl5, h15, hsrc5, _, _⟩ := (Hmd.out).src (by decide)
            have hSy : Sy.flatten = [] := by rw [(elems_sc.1 hE).1, flatten_nils]
            have hfl : l.length + t.made.length ≤ maxLen := by have := hll.out; simp only [maxLen]; omega
            have hflb : (l.length + t.made.length) * 8 ≤ 140737488355328 := by have := hll.out; omega
            have hdis5 : ∀ k ∈ Sy.flatten, k ∉ So := by rw [hSy]; simp
            obtain ⟨A5, k5, hv5, _⟩ := (hB.out).row.shape
            subst hv5
            have Hfl := Lib.hid hfl
            have Hflb := Lib.hid hflb
            have Hdis5 := Lib.hid hdis5
            have HSy := Lib.hid hSy
            have HhE := Lib.hid hE
            have Hh15 := Lib.hid h15
            have Hl5 := Lib.hid hl5
            have HRow := Lib.hid (hB.out).row
            clear hfl hflb hdis5 hSy hE h15 hl5
            go_wp2_with (at_builtin; refine wpList_append_sl (d := kInt) (ys := t.made) rfl (.tmp 50) (.tmp 55) 22 rfl ei_int rfl HRow.out rfl news Sy HhE.out Hl5.out Hh15.out hsrc5 Hdis5.out Hfl.out Hflb.out ?_; intro v' w' S' hs' hx' hf' hn')
            rw [HSy.out] at hf' hn'
            have HB9 := Lib.hid ((hB.out).app hx' hs' hf' hn')
            clear hs' hx' hf' hn'
            go_roundg (gk - 1)
            case measure => have := HJ.out; omega
            case rel =>
              refine ⟨j + 1, S', l ++ t.made, by go_num, by omega, by have := HJ.out; simp only [Hid]; omega, HB9, by have := hll.out; simp only [Hid, List.length_append]; omega, fun y hy => ?_⟩
              rcases List.mem_append.1 hy with hy | hy
              · exact hst.out y hy
              · exact .inr ⟨t, Hmem.out, hy, a, Hblk.out, han, .inl rfl⟩
          · have eab : ((a : Int) != (b : Int)) = true := by simp; omega
            have hC0 : wr.cell? ⟨w.heap.size, 0, none⟩ = some (.int .i64 ((i : Nat) : Int)) ∧ wr.cell? ⟨w.heap.size, 1, none⟩ = some (.slice A f.blocks.length cap) ∧ wr.cell? ⟨gT, j * 4, none⟩ = some (.int .i64 (a : Int)) := ⟨d0, d1, e0⟩
            go_wp2
            refine wp_region_rt (fun W => W.cell? ⟨w.heap.size, 0, none⟩ = some (.int .i64 ((i : Nat) : Int)) ∧ W.cell? ⟨w.heap.size, 1, none⟩ = some (.slice A f.blocks.length cap) ∧ W.cell? ⟨gT, j * 4, none⟩ = some (.int .i64 (a : Int))) (.q 0 (.q 1 (.q 2 (.q 3 (.q 4 (.q 5 (.e 6 (.fin 7)))))))) (by kernel_rfl) (by kernel_rfl) hC0 ?_
            refine rt_quiet (.agg #[.int .i64 ((i : Nat) : Int), .slice A f.blocks.length cap]) rfl rfl (fun W' hC => by simp [go_sem, hC.1, hC.2.1]) ?_
            simp only [put_lit, put_none, List.set_cons_succ, List.set_cons_zero]
            refine rt_quiet (.slice (some ⟨gT, 0, none⟩) T.length kT) rfl rfl (fun W' hC => by simp [go_sem]) ?_
            simp only [put_lit, put_none, List.set_cons_succ, List.set_cons_zero]
            refine rt_quiet (.int .i64 (j : Int)) rfl rfl (fun W' hC => by simp [go_sem]) ?_
            simp only [put_lit, put_none, List.set_cons_succ, List.set_cons_zero]
            refine rt_quiet (.pointer (some ⟨gT, j * 4, none⟩)) rfl rfl (fun W' hC => by simp [go_sem, hlt2]) ?_
            simp only [put_lit, put_none, List.set_cons_succ, List.set_cons_zero]
            refine rt_quiet (.pointer (some ⟨gT, j * 4, none⟩)) rfl rfl (fun W' hC => by simp [go_sem]) ?_
            simp only [put_lit, put_none, List.set_cons_succ, List.set_cons_zero]
            refine rt_quiet (.int .i64 (a : Int)) rfl rfl (fun W' hC => by simp [go_sem, hC.2.2]) ?_
            simp only [put_lit, put_none, List.set_cons_succ, List.set_cons_zero]
            have HF2 : FnR wr.drew S (.agg #[.int .i64 ((i : Nat) : Int), .slice A f.blocks.length cap]) f := by
              have h1 := Hh.out.ext (hB.out.ext.nil ((Ext.refl _ _).drew)) (by simp)
              rw [HP.out] at h1; exact h1
            refine s_call (w' := wr.drew) rfl rfl (by simp [go_sem]) ((reached_calls HF2 h0 (by omega) htl ht a).mono ?_)
            rintro e w2 ⟨rs, vr, Sr, rfl, hrs, hnewR, hrl, hrwo⟩
            have hx2 : Ext [] wr w2 := ((Ext.refl _ _).drew).nil hnewR.ext
            have hC2 : w2.cell? ⟨w.heap.size, 0, none⟩ = some (.int .i64 ((i : Nat) : Int)) ∧ w2.cell? ⟨w.heap.size, 1, none⟩ = some (.slice A f.blocks.length cap) ∧ w2.cell? ⟨gT, j * 4, none⟩ = some (.int .i64 (a : Int)) := ⟨hx2.cell d0 (by simp), hx2.cell d1 (by simp), hx2.cell e0 (by simp)⟩
            refine ⟨_, rfl, hC2, ?_⟩
            simp only [put_lit, put_none, List.set_cons_succ, List.set_cons_zero]
            refine fin_eff (w' := w2) vr rfl rfl (by simp [go_sem]) ?_
            simp only [put_lit, put_none, List.set_cons_succ, List.set_cons_zero]
            have hbr : b < rs.length := by rw [hrl]; exact hb1
            obtain ⟨gr, cr, hvr, _, hcr, _⟩ := hrs.cell b hbr
            subst hvr
            have hrb : rs[b]? = some rs[b] := List.getElem?_eq_getElem hbr
            have Hrw := Lib.hid (hrwo b)
            have Hrb := Lib.hid hrb
            have HB2 := Lib.hid (hB.out.ext0 hx2)
            have d2 := hx2.cell e2 (by simp)
            have Hmd2 := Lib.hid (Hmd.out.ext0 hx2)
            generalize rs[b] = r at *
            clear hrb hrwo d0 d1 e0 e2 hrs hnewR hC0 hC2 hB HF2
            cases r
            · have hnr : Hid (¬ Rwo (ofF f.blocks) a b) := fun h => by
                have := Hrw.out h
                rw [Hrb.out] at this; simp at this
              obtain ⟨news, Sy, hE, hl5, h15, hsrc5, _, _⟩ := (Hmd2.out).src (by decide)
              have hSy : Sy.flatten = [] := by rw [(elems_sc.1 hE).1, flatten_nils]
              have hfl : l.length + t.made.length ≤ maxLen := by have := hll.out; simp only [maxLen]; omega
              have hflb : (l.length + t.made.length) * 8 ≤ 140737488355328 := by have := hll.out; omega
              have hdis5 : ∀ k ∈ Sy.flatten, k ∉ So := by rw [hSy]; simp
              obtain ⟨A5, k5, hv5, _⟩ := (HB2.out).row.shape
              subst hv5
              have Hfl := Lib.hid hfl
              have Hflb := Lib.hid hflb
              have Hdis5 := Lib.hid hdis5
              have HSy := Lib.hid hSy
              have HhE := Lib.hid hE
              have Hh15 := Lib.hid h15
              have Hl5 := Lib.hid hl5
              have HRow := Lib.hid (HB2.out).row
              clear hfl hflb hdis5 hSy hE h15 hl5
              go_wp2_with (at_builtin; refine wpList_append_sl (d := kInt) (ys := t.made) rfl (.tmp 50) (.tmp 55) 22 rfl ei_int rfl HRow.out rfl news Sy HhE.out Hl5.out Hh15.out hsrc5 Hdis5.out Hfl.out Hflb.out ?_; intro v' w' S' hs' hx' hf' hn')
              rw [HSy.out] at hf' hn'
              have HB9 := Lib.hid ((HB2.out).app hx' hs' hf' hn')
              clear hs' hx' hf' hn'
              go_roundg (gk - 1)
              case measure => have := HJ.out; omega
              case rel =>
                refine ⟨j + 1, S', l ++ t.made, by go_num, by omega, by have := HJ.out; simp only [Hid]; omega, HB9, by have := hll.out; simp only [Hid, List.length_append]; omega, fun y hy => ?_⟩
                rcases List.mem_append.1 hy with hy | hy
                · exact hst.out y hy
                · exact .inr ⟨t, Hmem.out, hy, a, Hblk.out, han, .inr hnr.out⟩
            · go_wp2
              go_roundg (gk - 1)
              case measure => have := HJ.out; omega
              case rel => exact ⟨j + 1, So, l, by go_num, by omega, by have := HJ.out; simp only [Hid]; omega, HB2, by simp only [Hid]; omega, hst⟩
        · have hje : j = T.length := by omega
          subst hje
          go_wp2
          go_ret
          exact ⟨_, So, l, rfl, hB.out.row, ⟨hB.out.ext, fun k hk => Nat.le_of_lt (hB.out.new k hk), hB.out.nd⟩, by rw [← HTT.out]; exact hll.out, by have := hst.out; rw [HP.out] at this; exact this⟩
end Go.Proofs.Ytkmgbejhbkbaoaa

/- The maker of functions: its start; where a block leads, stored. -/
namespace Go.Proofs.Ytkmgbejhbkbaoaa
set_option linter.unusedSimpArgs false
set_option linter.unusedVariables false
open Go.RowKit

def zeroB : JBlock := ⟨[], [], ⟨0, [], [], 0⟩⟩
/-- a maker just made -/
theorem MkE.start {W : World} {vs : Value} (hrd : RdS W [] vs) :
    MkE (W.alloc (.cells #[vs, .int .i64 0, .int .i64 0, .slice none 0 0, .int .i64 0, .slice none 0 0] 58)) W.heap.size vs [W.heap.size] 0 ⟨0, [], 0, []⟩ [] := by
  refine ⟨.slice none 0 0, .slice none 0 0, [], [], Blk.new _ _ _, SlR.nil _ _ _, rfl, SlR.nil _ _ _, rfl, by simp, ?_⟩
  exact hrd.step ⟨(Ext.refl _ _).alloc _, fun k hk => .inr (by simp at hk; omega)⟩
/-- its numbers stored -/
theorem MkE.num {w : World} {q : Nat} {vs : Value} {F : List Nat} {a : Nat} {st : MSt} {vts : List Value} (h : MkE w q vs F a st vts) (p : Int) :
    MkE (w.setCell ⟨q, 2, none⟩ (.int .i64 p)) q vs F a { st with params := p } vts ∧ MkE (w.setCell ⟨q, 4, none⟩ (.int .i64 p)) q vs F a { st with next := p } vts ∧ q ∈ F := by
  obtain ⟨vb, vl, Sb, Sl, H⟩ := h
  exact ⟨⟨vb, vl, Sb, Sl, (H.num 2 (.int .i64 p) (a' := a) (st' := { st with params := p }) rfl rfl (by simp)).1⟩, ⟨vb, vl, Sb, Sl, (H.num 4 (.int .i64 p) (a' := a) (st' := { st with next := p }) rfl rfl (by simp)).1⟩, by rw [H.fp]; simp⟩
theorem MkE.cells {w : World} {q : Nat} {vs : Value} {F : List Nat} {a : Nat} {st : MSt} {vts : List Value} (h : MkE w q vs F a st vts) :
    w.cell? ⟨q, 2, none⟩ = some (.int .i64 st.params) ∧ w.cell? ⟨q, 4, none⟩ = some (.int .i64 st.next) ∧ (∀ i, w.frozen? ⟨q, i, none⟩ = false) ∧ (∃ g cap, w.cell? ⟨q, 3, none⟩ = some (.slice g st.blocks.length cap)) ∧ ∃ g cap, w.cell? ⟨q, 5, none⟩ = some (.slice g st.live.length cap) := by
  obtain ⟨vb, vl, Sb, Sl, H⟩ := h
  obtain ⟨g, cap, hv, _⟩ := H.bs.shape
  obtain ⟨g2, cap2, hv2, _⟩ := H.lv.shape
  have hzl : (st.blocks.zip vts).length = st.blocks.length := by rw [List.length_zip, H.vlen]; omega
  refine ⟨H.blk.cell (i := 2) rfl, H.blk.cell (i := 4) rfl, H.blk.frozen, ⟨g, cap, ?_⟩, g2, cap2, ?_⟩
  · have := H.blk.cell (i := 3) rfl
    rw [← hzl, ← hv]; exact this
  · have := H.blk.cell (i := 5) rfl
    rw [← hv2]; exact this
/-- where a block leads is stored: the row is the block's from now on -/
theorem MkE.setTo {W : World} {q : Nat} {vs : Value} {F : List Nat} {a : Nat} {st : MSt} {vts : List Value} (h : MkE W q vs F a st vts) (b : Nat) (hb : b < st.blocks.length) {Sx : List Nat} {vt : Value} {to : List Int} (hx : SlR kInt 3 W Sx vt to) (hoff : ∀ k ∈ Sx, k ∉ F) (hnx : Sx.Nodup)
    (hrd : RdS W (F ++ Sx) vs) :
    ∃ g cap, W.cell? ⟨q, 3, none⟩ = some (.slice (some ⟨g, 0, none⟩) st.blocks.length cap) ∧ (∃ u0, W.cell? ⟨g, b * 6 + 4, none⟩ = some u0) ∧ (∀ i, W.frozen? ⟨g, i, none⟩ = false) ∧ g ≠ q ∧ g ∈ F ∧
      ∃ F', MkE (W.setCell ⟨g, b * 6 + 4, none⟩ vt) q vs F' a { st with blocks := st.blocks.modify b fun x => { x with term := { x.term with to := to } } } (vts.set b vt) ∧ (∀ k ∈ F', k ∈ F ∨ k ∈ Sx) ∧ Ext [g] W (W.setCell ⟨g, b * 6 + 4, none⟩ vt) := by
  obtain ⟨vb, vl, Sb, Sl, H⟩ := h
  have hzl : (st.blocks.zip vts).length = st.blocks.length := by rw [List.length_zip, H.vlen]; omega
  have hbz : b < (st.blocks.zip vts).length := by rw [hzl]; exact hb
  have hnd := H.nd
  have hfp := H.fp
  rw [hfp] at hnd
  obtain ⟨hq, hnd2⟩ := List.nodup_cons.1 hnd
  obtain ⟨n1, n2, n3⟩ := List.nodup_append.1 hnd2
  obtain ⟨g, cap, S', hv, hg, hc, hf, hr, hm, hn⟩ := bv_one (Sn := Sx) H.bs n1 b hbz 4 (by decide) vt ({ (st.blocks.zip vts)[b].1 with term := { (st.blocks.zip vts)[b].1.term with to := to } }, vt) (fun k hk h2 => hoff k hk (by rw [hfp]; simp [h2]))
    (fun vp vi va Sp Si Sa St hc hnd hin => by
      have hd : ∀ k ∈ Sx, k ∉ Sp ++ (Si ++ (Sa ++ St)) := fun k hk h2 => hoff k hk (by rw [hfp]; simp [hin k h2])
      refine ⟨Sp ++ (Si ++ (Sa ++ Sx)), ⟨vp, vi, va, Sp, Si, Sa, Sx, rfl, ⟨hc.p, hc.i, hc.a, hx, rfl⟩⟩, fun k hk => ?_, ?_⟩
      · simp only [List.mem_append] at hk ⊢
        rcases hk with hk | hk | hk | hk
        · exact .inl (.inl hk)
        · exact .inl (.inr (.inl hk))
        · exact .inl (.inr (.inr (.inl hk)))
        · exact .inr hk
      · obtain ⟨q1, q2, q3⟩ := List.nodup_append.1 hnd
        obtain ⟨q4, q5, q6⟩ := List.nodup_append.1 q2
        obtain ⟨q7, q8, q9⟩ := List.nodup_append.1 q5
        refine List.nodup_append.2 ⟨q1, List.nodup_append.2 ⟨q4, List.nodup_append.2 ⟨q7, hnx, ?_⟩, ?_⟩, ?_⟩
        · rintro k hk k' hk' rfl; exact hd k hk' (by simp [hk])
        · rintro k hk k' hk' rfl
          rcases List.mem_append.1 hk' with h4 | h4
          · exact q6 k hk k (by simp [h4]) rfl
          · exact hd k h4 (by simp [hk])
        · rintro k hk k' hk' rfl
          rcases List.mem_append.1 hk' with h4 | h4
          · exact q3 k hk k (by simp [h4]) rfl
          · rcases List.mem_append.1 h4 with h5 | h5
            · exact q3 k hk k (by simp [h5]) rfl
            · exact hd k h5 (by simp [hk]))
  have hgF : g ∈ F := by rw [hfp]; simp [hg]
  have hgq : g ≠ q := by rintro rfl; exact hq (by simp [hg])
  have hgl : g ∉ Sl := fun h2 => n3 g hg g h2 rfl
  have hx5 : Ext [g] W (W.setCell ⟨g, b * 6 + 4, none⟩ vt) := (Ext.refl _ _).setCell (.inl (by simp)) _
  subst hv
  have c3 := H.blk.cell (i := 3) rfl
  rw [hzl] at c3
  have hF' : ∀ k ∈ q :: (S' ++ Sl), k ∈ F ∨ k ∈ Sx := fun k hk => by
    rw [hfp]
    simp only [List.mem_cons, List.mem_append] at hk ⊢
    rcases hk with hk | hk | hk
    · exact .inl (.inl hk)
    · exact (hm k hk).imp (fun h2 => .inr (.inl h2)) id
    · exact .inl (.inr (.inr hk))
  refine ⟨g, cap, c3, hc, hf, hgq, hgF, q :: (S' ++ Sl), ⟨.slice (some ⟨g, 0, none⟩) (st.blocks.zip vts).length cap, vl, S', Sl, ⟨?_, ?_, ?_, ?_, rfl, ?_, ?_⟩⟩, hF', hx5⟩
  · exact H.blk.ext hx5 (by simp; exact fun e => hgq e.symm)
  · rw [show ((st.blocks.modify b fun x : JBlock => { x with term := { x.term with to := to } }).zip (vts.set b vt)) = (st.blocks.zip vts).set b ({ (st.blocks.zip vts)[b].1 with term := { (st.blocks.zip vts)[b].1.term with to := to } }, vt) from ?_]
    · exact hr
    · refine List.ext_getElem (by simp) fun i h1 h2 => ?_
      simp only [List.getElem_zip, List.getElem_modify, List.getElem_set]
      split
      · rename_i he; subst he; rfl
      · rfl
  · simp [H.vlen]
  · exact H.lv.ext hx5 (by intro k hk; simp; rintro rfl; exact hgl hk)
  · refine List.nodup_cons.2 ⟨fun hk => ?_, List.nodup_append.2 ⟨hn, n2, ?_⟩⟩
    · rcases List.mem_append.1 hk with hk | hk
      · rcases hm q hk with h1 | h1
        · exact hq (by simp [h1])
        · exact hoff q h1 (by rw [hfp]; simp)
      · exact hq (by simp [hk])
    · rintro k hk k' hk' rfl
      rcases hm k hk with h1 | h1
      · exact n3 k h1 k hk' rfl
      · exact hoff k h1 (by rw [hfp]; simp [hk'])
  · exact hrd.step ⟨hx5.mono fun k hk => .inl (by simp at hk; subst hk; simp [hgF]), fun k hk => .inl (by simpa using hF' k hk)⟩
end Go.Proofs.Ytkmgbejhbkbaoaa

/- The maker of functions: its blocks made; what is at hand, changed. -/
namespace Go.Proofs.Ytkmgbejhbkbaoaa
set_option linter.unusedSimpArgs false
set_option linter.unusedVariables false
open Go.RowKit

/-- fresh blocks are the maker's from now on -/
theorem MkE.rows {W : World} {q : Nat} {vs : Value} {F : List Nat} {a : Nat} {st : MSt} {vts : List Value} (h : MkE W q vs F a st vts) {Sn : List Nat} {vb : Value} {bs : List JBlock} {vts2 : List Value} (hr : SlR kBV 43 W Sn vb (bs.zip vts2)) (hl : vts2.length = bs.length)
    (hoff : ∀ k ∈ Sn, k ∉ F) (hn : Sn.Nodup) (hrd : RdS W (F ++ Sn) vs) : ∃ F', MkE (W.setCell ⟨q, 3, none⟩ vb) q vs F' a { st with blocks := bs } vts2 ∧ (∀ k ∈ F', k ∈ F ∨ k ∈ Sn) ∧ Ext [q] W (W.setCell ⟨q, 3, none⟩ vb) := by
  obtain ⟨vb0, vl, Sb, Sl, H⟩ := h
  have hnd := H.nd
  have hfp := H.fp
  rw [hfp] at hnd
  obtain ⟨hq, hnd2⟩ := List.nodup_cons.1 hnd
  obtain ⟨n1, n2, n3⟩ := List.nodup_append.1 hnd2
  have hx : Ext [q] W (W.setCell ⟨q, 3, none⟩ vb) := (Ext.refl _ _).setCell (.inl (by simp)) _
  have hqn : q ∉ Sn := fun hk => hoff q hk (by rw [hfp]; simp)
  have hql : q ∉ Sl := fun hk => hq (by simp [hk])
  have hF' : ∀ k ∈ q :: (Sn ++ Sl), k ∈ F ∨ k ∈ Sn := fun k hk => by
    rw [hfp]
    simp only [List.mem_cons, List.mem_append] at hk ⊢
    rcases hk with hk | hk | hk
    · exact .inl (.inl hk)
    · exact .inr hk
    · exact .inl (.inr (.inr hk))
  refine ⟨q :: (Sn ++ Sl), ⟨vb, vl, Sn, Sl, ?_, ?_, hl, ?_, rfl, ?_, ?_⟩, hF', hx⟩
  · exact H.blk.set 3 vb
  · exact hr.ext hx (by intro k hk; simp; rintro rfl; exact hqn hk)
  · exact H.lv.ext hx (by intro k hk; simp; rintro rfl; exact hql hk)
  · refine List.nodup_cons.2 ⟨fun hk => ?_, List.nodup_append.2 ⟨hn, n2, ?_⟩⟩
    · rcases List.mem_append.1 hk with hk | hk
      · exact hqn hk
      · exact hql hk
    · rintro k hk k' hk' rfl
      exact hoff k hk (by rw [hfp]; simp [hk'])
  · exact hrd.step ⟨hx.mono fun k hk => .inl (by simp at hk; subst hk; rw [hfp]; simp), fun k hk => .inl (by simpa using hF' k hk)⟩
theorem zero_rows {w : World} (n : Nat) (hn : n ≤ 100000) : ∃ S, SlR kBV 43 (w.alloc (.cells (madeCells #[.slice none 0 0, .slice none 0 0, .int .i64 0, .slice none 0 0, .slice none 0 0, .int .i32 0] (n * 6)) 43)) S (.slice (some ⟨w.heap.size, 0, none⟩) n n) ((List.replicate n zeroB).zip (List.replicate n (Value.slice none 0 0))) ∧
    (∀ k ∈ S, k = w.heap.size) ∧ S.Nodup := by
  obtain ⟨S, h1, h2, h3⟩ := slr_made (d := kBV) (e := 43) (w := w) (zc := #[.slice none 0 0, .slice none 0 0, .int .i64 0, .slice none 0 0, .slice none 0 0, .int .i32 0]) (x := (zeroB, .slice none 0 0)) n (n * 6) (by simp [kBV]) (by omega) rfl (by decide)
    (fun w => ⟨.slice none 0 0, .slice none 0 0, .slice none 0 0, [], [], [], [], rfl, ⟨SlR.nil _ _ _, SlR.nil _ _ _, SlR.nil _ _ _, SlR.nil _ _ _, rfl⟩⟩)
  exact ⟨S, by rw [List.zip_replicate, Nat.min_self]; exact h1, h2, h3⟩

/-- the row of what is at hand -/
theorem MkE.liveAt {W : World} {q : Nat} {vs : Value} {F : List Nat} {a : Nat} {st : MSt} {vts : List Value} (h : MkE W q vs F a st vts) :
    ∃ vl Sl, W.cell? ⟨q, 5, none⟩ = some vl ∧ SlR kInt 3 W Sl vl st.live ∧ (∀ k ∈ Sl, k ∈ F) ∧ q ∉ Sl ∧ Sl.Nodup ∧
      ∀ (w1 w' : World) (S' : List Nat) (v' : Value) (l : List Int), Ext [] W w1 → Ext Sl w1 w' → SlR kInt 3 w' S' v' l → (∀ k ∈ S', k ∈ Sl ∨ W.heap.size ≤ k) → S'.Nodup →
        ∃ F', MkE (w'.setCell ⟨q, 5, none⟩ v') q vs F' a { st with live := l } vts ∧ FpStep F W (w'.setCell ⟨q, 5, none⟩ v') F' := by
  obtain ⟨vb, vl, Sb, Sl, H⟩ := h
  have hnd := H.nd
  have hfp := H.fp
  rw [hfp] at hnd
  obtain ⟨hq, hnd2⟩ := List.nodup_cons.1 hnd
  obtain ⟨n1, n2, n3⟩ := List.nodup_append.1 hnd2
  have hql : q ∉ Sl := fun hk => hq (by simp [hk])
  have hqb : q ∉ Sb := fun hk => hq (by simp [hk])
  have hlF : ∀ k ∈ Sl, k ∈ F := fun k hk => by rw [hfp]; simp [hk]
  refine ⟨vl, Sl, H.blk.cell (i := 5) rfl, H.lv, hlF, hql, n2, fun w1 w' S' v' l hx1 hx' hs hS hn => ?_⟩
  have hxx : Ext Sl W w' := (hx1.mono (by simp)).same hx'
  have hqlt := H.blk.lt
  have hxs : Ext [q] w' (w'.setCell ⟨q, 5, none⟩ v') := (Ext.refl _ _).setCell (.inl (by simp)) _
  have hqS : q ∉ S' := fun hk => (hS q hk).elim hql fun h2 => by omega
  have hX : Ext F W (w'.setCell ⟨q, 5, none⟩ v') := (hxx.mono fun k hk => .inl (hlF k hk)).trans hxs fun k hk => .inl (by simp at hk; subst hk; rw [hfp]; simp)
  have hF' : ∀ k ∈ q :: (Sb ++ S'), k ∈ F ∨ W.heap.size ≤ k := fun k hk => by
    simp only [List.mem_cons, List.mem_append] at hk
    rcases hk with rfl | hk | hk
    · exact .inl (by rw [hfp]; simp)
    · exact .inl (by rw [hfp]; simp [hk])
    · exact (hS k hk).imp (hlF k) id
  refine ⟨q :: (Sb ++ S'), ⟨vb, v', Sb, S', ?_, ?_, H.vlen, ?_, rfl, ?_, H.rd.step ⟨hX, hF'⟩⟩, hX, hF'⟩
  · exact (H.blk.ext hxx hql).set 5 v'
  · exact (H.bs.ext hxx (fun k hk h2 => n3 k hk k h2 rfl)).ext hxs (by intro k hk; simp; rintro rfl; exact hqb hk)
  · exact hs.ext hxs (by intro k hk; simp; rintro rfl; exact hqS hk)
  · refine List.nodup_cons.2 ⟨fun hk => ?_, List.nodup_append.2 ⟨n1, hn, ?_⟩⟩
    · rcases List.mem_append.1 hk with hk | hk
      · exact hqb hk
      · exact hqS hk
    · rintro k hk k' hk' rfl
      rcases hS k hk' with h2 | h2
      · exact n3 k hk k h2 rfl
      · have := H.bs.lt k hk; omega

/-- rows of numbers, opened -/
theorem rows_open {W : World} {S : List Nat} {g n cap : Nat} {R : List (List Int)} (h : SlR kRowI 22 W S (.slice (some ⟨g, 0, none⟩) n cap) R) (hn : S.Nodup) (h0 : 0 < R.length) :
    g ∈ S ∧ ∃ (val : Nat → Value) (Sk : Nat → List Nat), ∀ k (hk : k < R.length), SlR kInt 3 W (Sk k) (val k) R[k] ∧ W.cell? ⟨g, k, none⟩ = some (val k) ∧ (∀ x ∈ Sk k, x ∈ S ∧ x ≠ g) ∧ (Sk k).Nodup ∧ ∀ k', k' < R.length → k' ≠ k → ∀ x ∈ Sk k, x ∉ Sk k' := by
  rcases h with ⟨A, _, rfl, _⟩ | ⟨g', cap', C, Ss, hv, h1, h2, h3, hb, hC, hgn, rfl, hE⟩
  · simp at h0
  · injection hv with e1 e2 e3
    injection e1 with e1
    injection e1 with e1
    subst e1
    have hnf := (List.nodup_cons.1 hn).2
    refine ⟨by simp, fun k => (C.toList[k]?).getD (.slice none 0 0), fun k => Ss.getD k [], fun k hk => ?_⟩
    obtain ⟨Si, hSi, vv, hcs, hr⟩ := hE.2 k R[k] (List.getElem?_eq_getElem hk)
    simp only [kRowI, kSl, Nat.mul_one] at hcs
    have hck : C.toList[k]? = some vv := by
      have := congrArg (fun l : List Value => l[0]?) hcs
      simpa [List.getElem?_take, List.getElem?_drop] using this
    have hSk : Ss.getD k [] = Si := by rw [List.getD_eq_getElem?_getD, hSi]; rfl
    simp only [hck, hSk, Option.getD_some]
    refine ⟨hr, hb.cell (by rw [← Array.getElem?_toList]; exact hck), fun x hx => ⟨?_, ?_⟩, ?_, fun k' hk' hne x hx hx' => ?_⟩
    · exact List.mem_cons_of_mem _ (List.mem_flatten.2 ⟨Si, List.mem_of_getElem? hSi, hx⟩)
    · rintro rfl; exact hgn (List.mem_flatten.2 ⟨Si, List.mem_of_getElem? hSi, hx⟩)
    · exact nodup_flatten_mem hnf (List.mem_of_getElem? hSi)
    · obtain ⟨Sj, hSj, _⟩ := hE.2 k' R[k'] (List.getElem?_eq_getElem hk')
      have e : Ss.getD k' [] = Sj := by rw [List.getD_eq_getElem?_getD, hSj]; rfl
      rw [e] at hx'
      exact flatten_disj hnf hSi hSj (fun e => hne e.symm) x hx hx'

/-! ### plain: the blocks, the first i of them told where they lead -/
def toB (R : List (List Int)) (n i : Nat) : List JBlock := (List.range n).map fun k => if k < i then { zeroB with term := { zeroB.term with to := R.getD k [] } } else zeroB
def toV (val : Nat → Value) (n i : Nat) : List Value := (List.range n).map fun k => if k < i then val k else .slice none 0 0
theorem toB_zero (R : List (List Int)) (n : Nat) : toB R n 0 = List.replicate n zeroB := by
  refine List.ext_getElem (by simp [toB]) fun k h1 h2 => ?_
  simp [toB]
theorem toV_zero (val : Nat → Value) (n : Nat) : toV val n 0 = List.replicate n (.slice none 0 0) := by
  refine List.ext_getElem (by simp [toV]) fun k h1 h2 => ?_
  simp [toV]
theorem toB_succ (R : List (List Int)) {n i : Nat} (hi : i < n) : (toB R n i).modify i (fun x => { x with term := { x.term with to := R.getD i [] } }) = toB R n (i + 1) := by
  refine List.ext_getElem (by simp [toB]) fun k h1 h2 => ?_
  rw [List.getElem_modify]
  simp only [toB, List.getElem_map, List.getElem_range]
  by_cases e : i = k
  · subst e
    simp
  · rw [if_neg e]
    by_cases h : k < i
    · rw [if_pos h, if_pos (by omega)]
    · rw [if_neg h, if_neg (by omega)]
theorem toV_succ (val : Nat → Value) {n i : Nat} (hi : i < n) : (toV val n i).set i (val i) = toV val n (i + 1) := by
  refine List.ext_getElem (by simp [toV]) fun k h1 h2 => ?_
  rw [List.getElem_set]
  simp only [toV, List.getElem_map, List.getElem_range]
  by_cases e : i = k
  · subst e
    simp
  · rw [if_neg e]
    by_cases h : k < i
    · rw [if_pos h, if_pos (by omega)]
    · rw [if_neg h, if_neg (by omega)]
theorem toB_len (R : List (List Int)) (n i : Nat) : (toB R n i).length = n := by simp [toB]
end Go.Proofs.Ytkmgbejhbkbaoaa

/- Plain: a function in the making: which block is next, its phis, its turns, and the end. -/
namespace Go.Proofs.Ytkmgbejhbkbaoaa
set_option linter.unusedSimpArgs false
set_option linter.unusedVariables false

/-! ### which block is next -/
/-- it is not done, and come to without any other that is not done -/
def Rdy (g : List (List Nat)) (D : List Bool) (x : Nat) : Prop := D[x]? = some false ∧ ∀ a, a ≠ x → D[a]? = some false → Rwo g a x
theorem rdy_ex {g : List (List Nat)} {D : List Bool} {u : Nat} (h : Rch g 0 u) (hd : ∀ x y, Ed g x y → y < D.length) (h0 : 0 < D.length) : (∃ x, Rdy g D x) ∨ (D[u]? = some true ∧ ∀ a, D[a]? = some false → Rwo g a u) := by
  induction h with
  | refl =>
    cases hD : D[0] with
    | false => exact .inl ⟨0, by rw [List.getElem?_eq_getElem h0, hD], fun a ha _ => .zero ha⟩
    | true => exact .inr ⟨by rw [List.getElem?_eq_getElem h0, hD], fun a ha => .zero (by rintro rfl; rw [List.getElem?_eq_getElem h0, hD] at ha; simp at ha)⟩
  | step hx e ih =>
    rename_i x z
    rcases ih with ih | ⟨h1, h2⟩
    · exact .inl ih
    · have hz := hd x z e
      cases hD : D[z] with
      | false => exact .inl ⟨z, by rw [List.getElem?_eq_getElem hz, hD], fun a ha h3 => (h2 a h3).step e (fun e => ha e.symm)⟩
      | true => exact .inr ⟨by rw [List.getElem?_eq_getElem hz, hD], fun a ha => (h2 a ha).step e (by rintro rfl; rw [List.getElem?_eq_getElem hz, hD] at ha; simp at ha)⟩
theorem offN_zero : ∀ {D : List Bool}, (∀ x : Nat, D[x]? ≠ some false) → offN D = 0
  | [], _ => rfl
  | b :: D, h => by
    have h1 := h 0
    have h2 : offN D = 0 := offN_zero fun x => by simpa using h (x + 1)
    cases b
    · simp at h1
    · simpa [offN] using h2
theorem offN_all : ∀ {D : List Bool}, offN D = 0 → ∀ x, x < D.length → D[x]? = some true
  | [], _, x, hx => by simp at hx
  | b :: D, h, x, hx => by
    cases b
    · simp [offN] at h
    · cases x with
      | zero => rfl
      | succ x => simpa using offN_all (D := D) (by simpa [offN] using h) x (by simpa using hx)
theorem offN_le (D : List Bool) : offN D ≤ D.length := List.length_filter_le _ _
theorem offN_rep (n : Nat) : offN (List.replicate n false) = n := by simp [offN]
/-- how far the turns are -/
def TuI (g : List (List Nat)) (n t i : Nat) (D : List Bool) : Prop := offN D + t ≤ n ∧ (offN D + t + 1 ≤ n ∨ ∀ x, x < i → ¬ Rdy g D x)
theorem TuI.start {g : List (List Nat)} {n t : Nat} {D : List Bool} (h : offN D + t ≤ n) : TuI g n t 0 D := ⟨h, .inr fun x hx => by omega⟩
theorem TuI.skip {g : List (List Nat)} {n t i : Nat} {D : List Bool} (h : TuI g n t i D) (hn : ¬ Rdy g D i) : TuI g n t (i + 1) D := by
  refine ⟨h.1, h.2.imp id fun h2 x hx => ?_⟩
  by_cases e : x = i
  · subst e; exact hn
  · exact h2 x (by omega)
theorem TuI.put {g : List (List Nat)} {n t i : Nat} {D : List Bool} (h : TuI g n t i D) (hd : D[i]? = some false) : TuI g n t (i + 1) (D.set i true) := by
  have := offN_set D i hd
  have := h.1
  exact ⟨by omega, .inl (by omega)⟩
theorem TuI.fin {g : List (List Nat)} {n t : Nat} {D : List Bool} (h : TuI g n t n D) (ht : t < n) (hD : D.length = n) (ha : AllR g) (hg : Good g) (hl : g.length = n) : offN D + (t + 1) ≤ n := by
  rcases h.2 with h2 | h2
  · omega
  · have : offN D = 0 := offN_zero fun x hx => by
      have hxl : x < D.length := (List.getElem?_eq_some_iff.1 hx).1
      rcases rdy_ex (D := D) (ha.2 x (by omega)) (fun x y e => by have := (Ed.lt hg e).2; omega) (by omega) with ⟨y, hy⟩ | ⟨h3, _⟩
      · exact h2 y (by have := (List.getElem?_eq_some_iff.1 hy.1).1; omega) hy
      · rw [h3] at hx; simp at hx
    omega

/-! ### graphs of blocks -/
theorem ofF_to {bs cs : List JBlock} (h : bs.map (·.term.to) = cs.map (·.term.to)) : ofF bs = ofF cs := by
  have hl : bs.length = cs.length := by have := congrArg List.length h; simpa using this
  have : ∀ l : List JBlock, ofF l = (l.map (·.term.to)).map fun t => keptF t l.length := fun l => by simp [ofF, List.map_map, Function.comp_def]
  rw [this, this, h, hl]
theorem ed_ofF {bs : List JBlock} {x y : Nat} : Ed (ofF bs) x y ↔ ∃ hx : x < bs.length, y < bs.length ∧ (y : Int) ∈ bs[x].term.to := by
  unfold Ed ofF
  rw [List.getD_eq_getElem?_getD, List.getElem?_map]
  by_cases hx : x < bs.length
  · rw [List.getElem?_eq_getElem hx]
    simp only [Option.map_some, Option.getD_some, mem_keptF]
    exact ⟨fun h => ⟨hx, h⟩, fun ⟨_, h⟩ => h⟩
  · rw [List.getElem?_eq_none (by omega)]
    simp [hx]
theorem prd_preds (bs : List JBlock) (b : Nat) (hb : b < bs.length) : prd (ofF bs) b = predsT bs b := by
  have h1 := prd_sorted (ofF_good bs) b
  have h2 : (predsT bs (b : Int)).Pairwise (· < ·) := List.Pairwise.filter _ List.pairwise_lt_range
  refine List.Perm.eq_of_pairwise (le := (· < ·)) (fun a b _ _ h1 h2 => by omega) h1 h2 ?_
  refine (List.perm_ext_iff_of_nodup (h1.imp fun h => by omega) (h2.imp fun h => by omega)).2 fun x => ?_
  rw [mem_prd (by simpa [ofF] using hb), ed_ofF]
  simp only [predsT, List.mem_filter, List.mem_range, List.contains_iff_mem]
  constructor
  · rintro ⟨hx, _, h⟩
    refine ⟨hx, ?_⟩
    rwa [List.getD_eq_getElem?_getD, List.getElem?_eq_getElem hx]
  · rintro ⟨hx, h⟩
    rw [List.getD_eq_getElem?_getD, List.getElem?_eq_getElem hx] at h
    exact ⟨hx, hb, h⟩
theorem reach_of {bs : List JBlock} {n m : Nat} {R : List (List Int)} (hR : TR n m n R) (h0 : 0 < n) (hb : bs.map (·.term.to) = R) : AllR (ofF bs) := by
  have hl : bs.length = n := by rw [← hR.1, ← hb]; simp
  refine ⟨by simpa [ofF] using (by omega), fun x => ?_⟩
  rw [show (ofF bs).length = n by simp [ofF, hl]]
  induction x using Nat.strongRecOn with
  | _ x ih =>
    intro hx
    by_cases hx0 : x = 0
    · subst hx0; exact .refl
    · obtain ⟨p, hp, hpx, hm⟩ := hR.2.2.2 x (by omega) hx
      refine (ih p hpx (by omega)).step (ed_ofF.2 ⟨by rw [hl, ← hR.1]; exact hp, by omega, ?_⟩)
      subst hb
      simpa using hm

/-! ### a value stands, through changes -/
theorem Stand.same {params : Int} {bs cs : List JBlock} (hof : ofF cs = ofF bs) (hl : bs.length = cs.length) (hm : ∀ v a p, MadeAt bs v a p → MadeAt cs v a p) {v : Int} {b : Nat} {at_ at2 : Int} (h : Stand params bs v b at_) (hat : at_ ≤ at2) : Stand params cs v b at2 := by
  rcases h with h | ⟨a, p, h1, h2⟩
  · exact .inl h
  · refine .inr ⟨a, p, hm v a p h1, ?_⟩
    rw [hof]
    rcases h2 with ⟨h2, h3⟩ | h2
    · exact .inl ⟨h2, by omega⟩
    · exact .inr h2
theorem made_map {bs cs : List JBlock} (hl : bs.length = cs.length) (h : ∀ i (hi : i < bs.length), (cs[i]'(by omega)).phis.map (·.dst) = bs[i].phis.map (·.dst) ∧ (cs[i]'(by omega)).ins = bs[i].ins) {v : Int} {a : Nat} {p : Int} (hm : MadeAt bs v a p) : MadeAt cs v a p := by
  obtain ⟨ha, hm⟩ := hm
  obtain ⟨h1, h2⟩ := h a ha
  refine ⟨by omega, ?_⟩
  rcases hm with ⟨i, hi, rfl, rfl⟩ | ⟨i, hi, rfl, hv⟩
  · have hlen : (cs[a]'(by omega)).phis.length = bs[a].phis.length := by have := congrArg List.length h1; simpa using this
    refine .inl ⟨i, by omega, rfl, ?_⟩
    have := congrArg (fun l : List Int => l[i]?) h1
    simp only [List.getElem?_map] at this
    rw [List.getElem?_eq_getElem (by omega), List.getElem?_eq_getElem hi] at this
    simpa using this.symm
  · refine .inr ⟨i, by rw [h2]; exact hi, rfl, ?_⟩
    simp only [h2]; exact hv
theorem stand_of_vals {params : Int} {bs : List JBlock} {v : Int} {a b : Nat} (ha : a < bs.length) (hb : b < bs.length) (hv : v ∈ valsB bs[a]) (h : a = b ∨ ¬ Rwo (ofF bs) a b) : Stand params bs v b bs[b].ins.length := by
  have hne : a ≠ b → ¬ Rwo (ofF bs) a b := fun e => h.resolve_left e
  simp only [valsB, List.mem_append, List.mem_map, List.mem_flatMap] at hv
  rcases hv with ⟨y, hy, rfl⟩ | ⟨s, hs, hv⟩
  · obtain ⟨i, hi, rfl⟩ := List.getElem_of_mem hy
    refine .inr ⟨a, -1 - (i : Int), ⟨ha, .inl ⟨i, hi, rfl, rfl⟩⟩, ?_⟩
    by_cases e : a = b
    · exact .inl ⟨e, .inr (by omega)⟩
    · exact .inr ⟨e, hne e⟩
  · obtain ⟨i, hi, rfl⟩ := List.getElem_of_mem hs
    refine .inr ⟨a, (i : Int), ⟨ha, .inr ⟨i, hi, rfl, hv⟩⟩, ?_⟩
    by_cases e : a = b
    · subst e; exact .inl ⟨rfl, .inl (by omega)⟩
    · exact .inr ⟨e, hne e⟩
/-- what block b may have at hand -/
def AtHand (P : Int) (bs : List JBlock) (b : Nat) (l : List Int) : Prop := ∀ v ∈ l, (0 ≤ v ∧ v < P) ∨ ∃ a, ∃ ha : a < bs.length, (a = b ∨ ¬ Rwo (ofF bs) a b) ∧ v ∈ valsB bs[a]
theorem AtHand.live {P : Int} {bs : List JBlock} {b : Nat} {l : List Int} (h : AtHand P bs b l) (hb : b < bs.length) : LiveOk P bs b l := by
  refine ⟨hb, fun v hv => ?_⟩
  rcases h v hv with h1 | ⟨a, ha, h1, h2⟩
  · exact .inl h1
  · exact stand_of_vals ha hb h2 h1
theorem valsF_same {bs cs : List JBlock} (h : bs.map valsB = cs.map valsB) : valsF bs = valsF cs := by
  rw [valsF, valsF, List.flatMap_def, List.flatMap_def, h]
theorem PInv.same {P : Int} {bs cs : List JBlock} {next : Int} (h : PInv P bs next) (hl : bs.length = cs.length) (hto : cs.map (·.term.to) = bs.map (·.term.to))
    (hb : ∀ i (hi : i < bs.length), (cs[i]'(by omega)).phis.map (·.dst) = bs[i].phis.map (·.dst) ∧ (cs[i]'(by omega)).ins = bs[i].ins) : PInv P cs next := by
  have hv : valsF cs = valsF bs := valsF_same (List.ext_getElem (by simp [hl]) fun i h1 h2 => by
    have hi : i < bs.length := by simpa using h2
    simp only [List.getElem_map, valsB]
    rw [(hb i hi).1, (hb i hi).2])
  refine ⟨fun x hx s hs => ?_, by rw [hv]; exact h.vals, by rw [hv]; exact h.once, fun b hb' i hi v hv => ?_⟩
  · obtain ⟨i, hi, rfl⟩ := List.getElem_of_mem hx
    rw [(hb i (by omega)).2] at hs
    exact h.ins _ (List.getElem_mem (by omega)) s hs
  · have e := (hb b (by omega)).2
    simp only [e] at hi hv
    exact (h.useI b (by omega) i hi v hv).same (ofF_to hto) hl (fun v a p => made_map hl hb) (Int.le_refl _)
end Go.Proofs.Ytkmgbejhbkbaoaa
