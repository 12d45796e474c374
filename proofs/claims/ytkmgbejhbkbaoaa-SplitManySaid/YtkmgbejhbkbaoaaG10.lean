/- The program's graph: Idom. -/
import Derived.Test.YtkmgbejhbkbaoaaG9
namespace Go.Proofs.Ytkmgbejhbkbaoaa
set_option linter.unusedSimpArgs false
set_option linter.unusedVariables false
open Go.RowKit

theorem made_int {w : World} {n : Nat} (h0 : 0 < n) (hn : n ≤ 1073741824) : SlR kInt 3 (w.alloc (.cells (madeCells #[.int .i64 0] n) 3)) [w.heap.size] (.slice (some ⟨w.heap.size, 0, none⟩) n n) (List.replicate n 0) := by
  obtain ⟨St, h1, h2, _⟩ := slr_made (d := kInt) (e := 3) (w := w) (zc := #[.int .i64 0]) (x := 0) n n (by simp [kInt, kSc]) hn rfl (by decide) (fun w => ⟨rfl, rfl⟩)
  obtain ⟨g', _, _, hv, _, _, _, _, _, hS, _⟩ := slr_own h1 (by intro h; have := congrArg List.length h; rw [List.length_replicate, List.length_nil] at this; omega)
  rw [hS] at h2 h1
  rw [h2 g' (by simp)] at h1
  exact h1
theorem sl_at {w : World} {S : List Nat} {b n cap : Nat} {l : List Int} (h : SlR kInt 3 w S (.slice (some ⟨b, 0, none⟩) n cap) l) (i : Nat) (hi : i < l.length) : w.cell? ⟨b, i, none⟩ = some (.int .i64 l[i]) ∧ w.frozen? ⟨b, i, none⟩ = false := by
  obtain ⟨_, _, hv, _, hc, hf⟩ := h.cell i hi
  injection hv with e1 e2 e3
  injection e1 with e1
  injection e1 with e1
  subst e1
  exact ⟨hc, hf⟩

/-! ### passes, as the walk wants them -/
section
variable {n : Nat} {P : Nat → List Nat} {num par : Nat → Nat}
theorem pass_at (hn : Net n P num par) {k : Nat} (hk : ∀ a b, a < n → b < n → num a + num b < k) {l : List Nat} (hl : Line n num l) (hnd : l.Nodup) {D : Nat → Option Nat} (h : D = (fun _ => none) ∨ Mid n P num par 1 D) (j : Nat) (hj : j < l.length) :
    Tr n P num par (passC P num k D (l.take j)).1 ∧ ∃ c, bestN (passC P num k D (l.take j)).1 num k (P l[j]) none = some (some c) := by
  obtain ⟨b1, b2⟩ := hl.lt _ (List.getElem_mem hj)
  rcases h with rfl | h
  · have h1 := pass_one hn hk hl j (by omega)
    obtain ⟨c, c1, _⟩ := h1.step hn hk b1 b2 (hl.place j hj)
    exact ⟨h1.tr, c, c1⟩
  · have h1 := (pass_mid hn hk hl hnd h j (by omega)).1
    obtain ⟨c, _, c1, _⟩ := h1.step hn hk b1 b2 (hl.place j hj)
    exact ⟨h1.tr, c, c1⟩
/-- the outer loop's state -/
def PSt (n : Nat) (P : Nat → List Nat) (num par : Nat → Nat) (k : Nat) (l : List Nat) (q : Nat) (D : Nat → Option Nat) (ch : Bool) : Prop :=
  (ch = true ∧ D = (fun _ => none) ∧ n * n + 2 ≤ q) ∨ (ch = true ∧ Mid n P num par 1 D ∧ mu num D l + 1 ≤ q) ∨ (ch = false ∧ Mid n P num par 1 D ∧ Fix n P num k D)
theorem PSt.next (hn : Net n P num par) {k : Nat} (hk : ∀ a b, a < n → b < n → num a + num b < k) {l : List Nat} (hl : Line n num l) (hnd : l.Nodup) (hln : l.length + 1 = n) {D : Nat → Option Nat} {q : Nat} (h : PSt n P num par k l q D true) :
    1 ≤ q ∧ PSt n P num par k l (q - 1) (passC P num k D l).1 (passC P num k D l).2 := by
  have hlt := hl.num_lt hn
  rcases h with ⟨_, rfl, hq⟩ | ⟨_, h, hq⟩ | ⟨h, _⟩
  · refine ⟨by omega, ?_⟩
    have h1 := pass_one hn hk hl l.length (Nat.le_refl _)
    rw [List.take_length] at h1
    have h2 := h1.mid hlt
    have h3 := mu_le (num := num) h2.tr (fun x hx => by have := hlt x hx; omega) l
    have h4 : l.length * n ≤ n * n := Nat.mul_le_mul_right _ (by omega)
    cases hc : (passC P num k (fun _ => none) l).2 with
    | true => exact .inr (.inl ⟨rfl, h2, by omega⟩)
    | false =>
      refine .inr (.inr ⟨rfl, h2, fun b hb h0 => ?_⟩)
      exfalso
      have hch : ∀ j, j ≤ l.length → (passC P num k (fun _ => none) (l.take j)).2 = false → j = 0 := by
        intro j
        induction j with
        | zero => intro _ _; rfl
        | succ j ih =>
          intro hj hf
          exfalso
          have hlt2 : j < l.length := by omega
          obtain ⟨b1, b2⟩ := hl.lt _ (List.getElem_mem hlt2)
          have h6 := pass_one hn hk hl j (by omega)
          obtain ⟨c, c1, _⟩ := h6.step hn hk b1 b2 (hl.place j hlt2)
          rw [List.take_succ_eq_append_getElem hlt2, passC_snoc] at hf
          have h7 := (stepC_eq (P := P) (num := num) (k := k) (st := passC P num k (fun _ => none) (l.take j)) c1).2
          have h8 : (passC P num k (fun _ => none) (l.take j)).1 l[j] ≠ some c := by
            intro e
            have := (h6.known _ b1 b2).1 (by rw [e]; simp)
            rw [hl.place j hlt2] at this
            omega
          rw [h7.2 (.inr h8)] at hf
          cases hf
      have := hch l.length (Nat.le_refl _) (by rw [List.take_length]; exact hc)
      have hm := hl.all b hb h0
      have : l = [] := List.eq_nil_of_length_eq_zero this
      rw [this] at hm
      cases hm
  · refine ⟨by omega, ?_⟩
    obtain ⟨h1, h2, h3, h4⟩ := pass_mid hn hk hl hnd h l.length (Nat.le_refl _)
    rw [List.take_length] at h1 h2 h3 h4
    have h5 := h1.first hlt
    cases hc : (passC P num k D l).2 with
    | true => exact .inr (.inl ⟨rfl, h5, by have := h3 hc; omega⟩)
    | false =>
      obtain ⟨h6, h7⟩ := h4 hc
      refine .inr (.inr ⟨rfl, h5, fun b hb h0 => ?_⟩)
      obtain ⟨i, hi, rfl⟩ := List.mem_iff_getElem.1 (hl.all b hb h0)
      rw [h6]
      exact h7 i hi hi
  · cases h
theorem PSt.or {k : Nat} {l : List Nat} {q : Nat} {D : Nat → Option Nat} (h : PSt n P num par k l q D true) : D = (fun _ => none) ∨ Mid n P num par 1 D := by
  rcases h with ⟨_, h, _⟩ | ⟨_, h, _⟩ | ⟨h, _⟩
  · exact .inl h
  · exact .inr h
  · cases h
end

set_option maxRecDepth 20000 in
set_option maxHeartbeats 1600000 in
theorem idom_calls {w : World} {S : List Nat} {v : Value} {g : List (List Nat)} (h : SlR kRow 22 w S v g) (hg : Good g) (ha : AllR g) (hn : g.length ≤ 32768) :
    Calls Try.prog 11 #[v] w fun e w' => ∃ v' S' idom, e = .returned v' ∧ SlR kInt 3 w' S' v' idom ∧ IdomOk g idom ∧ New w w' S' := by
  obtain ⟨A, cap, rfl, hcap⟩ := h.shape
  have hmk := run_make_eq Try.underlying22 Try.info3 rfl g.length g.length (by simp) (by omega) (by decide)
  go_enter Try.func11, Try.ntmps11
  go_wp2_with fail
  refine (order_calls h hg (by omega)).mono ?_
  rintro e w1 ⟨v1, S1, rfl, hr1, hnew1⟩
  have hlen := order_len hg ha
  have hpos := ha.1
  obtain ⟨A1, c1, rfl, hc1⟩ := hr1.shape
  rw [hlen] at hr1 hc1
  rw [hlen]
  have Hlen := Lib.hid hlen
  clear hlen
  go_wp2
  clear hmk
  obtain ⟨m, hm⟩ : ∃ m, w1.heap.size = m := ⟨_, rfl⟩
  have hwm : w.heap.size ≤ m := by have := hnew1.ext.size; omega
  have hS1 : ∀ k ∈ S1, k < m := fun k hk => by rw [← hm]; exact hr1.lt k hk
  have hS : ∀ k ∈ S, k < m := fun k hk => by have := h.lt k hk; omega
  have q1 := (made_int (w := w1) hpos (by omega)).ext0 (((Ext.refl [] _).alloc (.cells (madeCells #[.int .i64 0] g.length) 3)))
  have q2 := made_int (w := w1.alloc (.cells (madeCells #[.int .i64 0] g.length) 3)) hpos (by omega)
  obtain ⟨W0, hW0⟩ : ∃ W0, (w1.alloc (.cells (madeCells #[.int .i64 0] g.length) 3)).alloc (.cells (madeCells #[.int .i64 0] g.length) 3) = W0 := ⟨_, rfl⟩
  have hx0 : Ext [] w1 W0 := by rw [← hW0]; exact ((Ext.refl _ _).alloc _).alloc _
  have hsz0 : W0.heap.size = m + 2 := by rw [← hW0, ← hm]; simp
  simp only [World.size_alloc] at q2
  rw [hW0] at q1 q2 ⊢
  rw [hm] at q1 q2 ⊢
  clear hW0 hm
  have q3 := hr1.ext0 hx0
  have h0 := (h.ext0 hnew1.ext).ext0 hx0
  have hxw : Ext [] w W0 := hnew1.ext.nil hx0
  clear hr1
  have hfill : Hid (∀ i, i < g.length → (part (List.replicate g.length (-1 : Int)) 0 i).set i (-1) = part (List.replicate g.length (-1)) 0 (i + 1)) := fun i hi => fill_set 0 (-1) hi
  have hfl : Hid (∀ i, i ≤ g.length → (part (List.replicate g.length (-1 : Int)) 0 i).length = g.length) := fun i hi => by rw [part_len _ _ (by simpa using hi)]; simp
  have q0 : part (List.replicate g.length (-1 : Int)) 0 0 = List.replicate g.length 0 := by rw [part_zero]; simp
  rw [← q0] at q1 q2
  clear q0
  go_loopg [26] g.length (fun k vi wr => ∃ (i : Nat), vi = .int .i64 (i : Int) ∧ i ≤ g.length ∧ Hid (i + k = g.length) ∧
    SlR kInt 3 wr [m] (.slice (some ⟨m, 0, none⟩) g.length g.length) (part (List.replicate g.length (-1)) 0 i) ∧
    SlR kInt 3 wr [m + 1] (.slice (some ⟨m + 1, 0, none⟩) g.length g.length) (part (List.replicate g.length (-1)) 0 i) ∧ Ext [m, m + 1] W0 wr)
  case atStart => exact ⟨0, rfl, by omega, by simp [Hid], q1, q2, Ext.refl _ _⟩
  case round =>
    obtain ⟨i, rfl, hi, HK, s1, s2, hx⟩ := hrel
    clear q1 q2
    by_cases hlt : i < g.length
    · obtain ⟨e1, f1⟩ := sl_at s1 i (by rw [hfl.out i hi]; exact hlt)
      obtain ⟨e2, f2⟩ := sl_at s2 i (by rw [hfl.out i hi]; exact hlt)
      have t1 := (s1.set i (by rw [hfl.out i hi]; exact hlt) (-1)).ext ((Ext.refl [m + 1] _).setCell (p := ⟨m + 1, i, none⟩) (.inl (by simp)) (.int .i64 (-1))) (fun k hk => by simp at hk ⊢; omega)
      have t2 := (s2.ext ((Ext.refl [m] _).setCell (p := ⟨m, i, none⟩) (.inl (by simp)) (.int .i64 (-1))) (fun k hk => by simp at hk ⊢; omega)).set i (by rw [hfl.out i hi]; exact hlt) (-1)
      rw [hfill.out i hlt] at t1 t2
      go_wp2
      go_roundg (gk - 1)
      case measure => have := HK.out; omega
      case rel =>
        exact ⟨i + 1, by go_num, by omega, by have := HK.out; simp only [Hid]; omega, t1, t2, (hx.setCell (.inl (by simp)) _).setCell (.inl (by simp)) _⟩
    · have hie : i = g.length := by omega
      subst hie
      have hpa : part (List.replicate g.length (-1 : Int)) 0 g.length = List.replicate g.length (-1) := by
        have := part_all (List.replicate g.length (-1 : Int)) 0
        simpa using this
      rw [hpa] at s1 s2
      have Hpa := Lib.hid hpa
      clear hpa hfill hfl
      have q3 := q3.ext hx (fun k hk h => by have := hS1 k hk; simp at h; omega)
      have h0 := h0.ext hx (fun k hk h => by have := hS k hk; simp at h; omega)
      have hxw : Ext [] w wr := hxw.trans hx (fun k hk => by simp at hk; omega)
      have hszr : m + 2 ≤ wr.heap.size := by have := hx.size; omega
      rw [← npart_zero (orderF g)] at s1
      obtain ⟨w3, hw3⟩ : ∃ x, x = wr := ⟨_, rfl⟩
      subst hw3
      go_wp2
      go_loopg [38] g.length (fun k vi wr2 => ∃ (i : Nat), vi = .int .i64 (i : Int) ∧ i ≤ g.length ∧ Hid (i + k = g.length) ∧
        SlR kInt 3 wr2 [m] (.slice (some ⟨m, 0, none⟩) g.length g.length) (npart (orderF g) g.length i) ∧ Ext [m] w3 wr2)
      case atStart => exact ⟨0, rfl, by omega, by simp [Hid], s1, Ext.refl _ _⟩
      case round =>
        obtain ⟨i, rfl, hi, HK, s1, hx2⟩ := hrel
        by_cases hlt : i < g.length
        · have hil : i < (orderF g).length := by rw [Hlen.out]; exact hlt
          obtain ⟨p1, c1', hv, _, eo, _⟩ := (q3.ext hx2 (fun k hk h => by have := hS1 k hk; simp at h; omega)).cell i hil
          rw [Hlen.out] at hv
          cases hv
          have hord : Hid (Ord g (orderF g)) := orderF_ord hpos (fun row hr b hb => (hg row hr).2 b hb)
          have hb : (orderF g)[i] < g.length := Rch.lt hg hpos ((hord.out.mem _).1 (List.getElem_mem hil))
          have Hset : Hid ((npart (orderF g) g.length i).set (orderF g)[i] (i : Int) = npart (orderF g) g.length (i + 1)) := npart_set hord.out.nodup hil
          generalize (orderF g)[i] = b at *
          obtain ⟨e1, f1⟩ := sl_at s1 b (by rw [npart_len]; exact hb)
          have t1 := s1.set b (by rw [npart_len]; exact hb) (i : Int)
          rw [Hset.out] at t1
          go_wp2
          go_roundg (gk - 1)
          case measure => have := HK.out; omega
          case rel => exact ⟨i + 1, by go_num, by omega, by have := HK.out; simp only [Hid]; omega, t1, hx2.setCell (.inl (by simp)) _⟩
        · have hie : i = g.length := by omega
          subst hie
          rw [npart_all hg ha] at s1
          have s2 := s2.ext hx2 (fun k hk h => by simp at hk h; omega)
          have q3 := q3.ext hx2 (fun k hk h => by have := hS1 k hk; simp at h; omega)
          have h0 := h0.ext hx2 (fun k hk h => by have := hS k hk; simp at h; omega)
          have hxw : Ext [] w wr := hxw.trans hx2 (fun k hk => by simp at hk; omega)
          have hszr : m + 2 ≤ wr.heap.size := by have := hx2.size; omega
          go_wp2_with fail
          refine (preds_calls h0 hg hn).mono ?_
          rintro e w5 ⟨v4, S4, rfl, hr4, hnew4⟩
          have hS4 : ∀ k ∈ S4, m + 2 ≤ k := fun k hk => by have := hnew4.fresh k hk; omega
          have s1 := s1.ext0 hnew4.ext
          have s2 := s2.ext0 hnew4.ext
          have q3 := q3.ext0 hnew4.ext
          have hxw : Ext [] w w5 := hxw.nil hnew4.ext
          obtain ⟨A4, c4, rfl, _⟩ := hr4.shape
          have hpl : (predsF g).length = g.length := by simp [predsF, predsOf]
          rw [hpl]
          rw [hpl] at hr4
          have Hpl := Lib.hid hpl
          clear hpl h0 hx hx2 HK hnew1 hnew4 hx0
          have hne : (outL g.length (fun _ => none)) = List.replicate g.length (-1) := outL_none _
          rw [← hne] at s2
          clear hne
          have HN : Hid (Net g.length (prd g) (numF g) (parF g)) := net_of hg ha
          have HL : Hid (Line g.length (numF g) (orderF g).tail) := line_of hg ha
          have hord : Hid (Ord g (orderF g)) := orderF_ord hpos (fun row hr b hb => (hg row hr).2 b hb)
          have Hnd : Hid ((orderF g).tail.Nodup) := (List.tail_sublist _).nodup hord.out.nodup
          have Htl : Hid ((orderF g).tail.length + 1 = g.length) := by rw [Hid, List.length_tail, Hlen.out]; omega
          have HK2 : Hid (∀ a b, a < g.length → b < g.length → numF g a + numF g b < 2 * g.length + 1) := fun a b h1 h2 => by
            have h3 := HL.out.num_lt HN.out a h1
            have h4 := HL.out.num_lt HN.out b h2
            have := Htl.out; omega
          go_wp2
          go_loopg [10] (g.length * g.length + 2) (fun k vc wr2 => ∃ (D : Nat → Option Nat) (ch : Bool), vc = .bool ch ∧ SlR kInt 3 wr2 [m + 1] (.slice (some ⟨m + 1, 0, none⟩) g.length g.length) (outL g.length D) ∧
            Ext [m + 1] w5 wr2 ∧ Hid (PSt g.length (prd g) (numF g) (parF g) (2 * g.length + 1) (orderF g).tail k D ch))
          case atStart => exact ⟨_, true, rfl, s2, Ext.refl _ _, .inl ⟨rfl, rfl, Nat.le_refl _⟩⟩
          case round =>
            obtain ⟨D0, ch, rfl, s2, hx5, hP⟩ := hrel
            cases ch with
            | false =>
              go_wp2
              go_ret
              rcases hP.out with ⟨h6, _⟩ | ⟨h6, _⟩ | ⟨_, h7, h8⟩
              · cases h6
              · cases h6
              · refine ⟨_, _, _, rfl, s2, idom_ok hg ha HK2.out h7 h8, hxw.trans hx5 (fun k hk => by simp at hk; omega), fun k hk => by simp at hk; omega, by simp⟩
            | true =>
              obtain ⟨q, hq⟩ : ∃ x, x = gk := ⟨_, rfl⟩
              subst hq
              have hq1 := (hP.out.next HN.out HK2.out HL.out Hnd.out Htl.out)
              have hq2 : Hid (1 ≤ q) := hq1.1
              have hPn : Hid (PSt g.length (prd g) (numF g) (parF g) (2 * g.length + 1) (orderF g).tail (q - 1) (passC (prd g) (numF g) (2 * g.length + 1) D0 (orderF g).tail).1 (passC (prd g) (numF g) (2 * g.length + 1) D0 (orderF g).tail).2) := hq1.2
              have Hpas : Hid (∀ (j : Nat) (hj : j < (orderF g).tail.length), Tr g.length (prd g) (numF g) (parF g) (passC (prd g) (numF g) (2 * g.length + 1) D0 ((orderF g).tail.take j)).1 ∧
                ∃ c, bestN (passC (prd g) (numF g) (2 * g.length + 1) D0 ((orderF g).tail.take j)).1 (numF g) (2 * g.length + 1) (prd g (orderF g).tail[j]) none = some (some c)) :=
                fun j hj => pass_at HN.out HK2.out HL.out Hnd.out hP.out.or j hj
              clear hq1 hP
              have q4 := q3.ext hx5 (fun k hk h => by have := hS1 k hk; simp at h; omega)
              obtain ⟨b1, c1', hv, _, _, _⟩ := q4.cell 0 (by rw [Hlen.out]; exact hpos)
              rw [Hlen.out] at hv
              cases hv
              have hmin : (min 1 (g.length : Int)).toNat = 1 := by omega
              have hpL : Hid ((prd g) = fun x => (predsF g).getD x []) := rfl
              go_wp2
              · have hc : c1 = 1 := h
                clear h
                have ht0 : Hid ((orderF g).tail = []) := List.eq_nil_of_length_eq_zero (by have := Htl.out; omega)
                have hg1 : ¬ (0 : Int) < ((g.length - 1 : Nat) : Int) := by omega
                subst hc
                have hp0 : passC (prd g) (numF g) (2 * g.length + 1) D0 (orderF g).tail = (D0, false) := by rw [ht0.out]; rfl
                rw [hp0] at hPn
                have Hp0 := Lib.hid hp0
                clear hp0
                go_loopg [57, 10] 0 (fun k vi vc wr2 => vi = .int .i64 0 ∧ vc = .bool false ∧ wr2 = wr)
                case atStart => exact ⟨rfl, rfl, rfl⟩
                case round =>
                  obtain ⟨rfl, rfl, rfl⟩ := hrel
                  go_wp2
                  go_roundg (q - 1)
                  case measure => have := hq2.out; omega
                  case rel => exact ⟨D0, false, rfl, s2, hx5, hPn⟩
              · have hc := h
                go_loopg [57, 10] (g.length - 1) (fun k vj vc wr2 => ∃ j : Nat, vj = .int .i64 (j : Int) ∧ j ≤ g.length - 1 ∧ Hid (j + k = g.length - 1) ∧ vc = .bool (passC (prd g) (numF g) (2 * g.length + 1) D0 ((orderF g).tail.take j)).2 ∧
                  SlR kInt 3 wr2 [m + 1] (.slice (some ⟨m + 1, 0, none⟩) g.length g.length) (outL g.length (passC (prd g) (numF g) (2 * g.length + 1) D0 ((orderF g).tail.take j)).1) ∧ Ext [m + 1] w5 wr2)
                case atStart => exact ⟨0, rfl, by omega, by simp [Hid], rfl, s2, hx5⟩
                case round =>
                  obtain ⟨j, rfl, hj, HK, rfl, s3, hx6⟩ := hrel
                  obtain ⟨q', hq'⟩ : ∃ x, x = gk := ⟨_, rfl⟩
                  subst hq'
                  clear s2
                  by_cases hlt : j < g.length - 1
                  · have hjl : j < (orderF g).tail.length := by have := Htl.out; omega
                    obtain ⟨hT, c, hc2⟩ := Hpas.out j hjl
                    have Hsn : Hid (passC (prd g) (numF g) (2 * g.length + 1) D0 ((orderF g).tail.take (j + 1)) = stepC (prd g) (numF g) (2 * g.length + 1) (passC (prd g) (numF g) (2 * g.length + 1) D0 ((orderF g).tail.take j)) (orderF g).tail[j]) := by
                      rw [Hid, List.take_succ_eq_append_getElem hjl, passC_snoc]
                    have Hpos : Hid ((orderF g).tail[j] < g.length ∧ (orderF g).tail[j] ≠ 0) := HL.out.lt _ (List.getElem_mem hjl)
                    obtain ⟨_, _, hv, _, eo, _⟩ := (q3.ext hx6 (fun k hk h => by have := hS1 k hk; simp at h; omega)).cell (j + 1) (by rw [Hlen.out]; omega)
                    rw [Hlen.out] at hv
                    cases hv
                    have htb : (orderF g)[j + 1]'(by rw [Hlen.out]; omega) = (orderF g).tail[j] := by rw [List.getElem_tail]
                    rw [htb] at eo
                    rw [Nat.add_comm] at eo
                    clear htb
                    generalize (orderF g).tail[j] = b at *
                    generalize passC (prd g) (numF g) (2 * g.length + 1) D0 ((orderF g).tail.take j) = st at *
                    have hb : b < (predsF g).length := by rw [Hpl.out]; exact Hpos.out.1
                    obtain ⟨p4, _, Ar, cr, Si, hv, _, er, hrow, hsub⟩ := row_get (hr4.ext hx6 (fun k hk h => by have := hS4 k hk; have := hr4.lt k hk; simp at h; omega)) b hb
                    rw [Hpl.out] at hv
                    cases hv
                    have hprd : prd g b = (predsF g)[b] := by simp [prd, List.getD, hb]
                    have HT := Lib.hid hT
                    have Hc2 := Lib.hid hc2
                    have hbl : b < g.length := Hpos.out.1
                    clear hT hc2
                    have Hrow : Hid (∀ a ∈ prd g b, a < g.length) := HN.out.plt b hbl
                    rw [hprd] at Hc2 Hrow
                    have Hprd := Lib.hid hprd
                    clear hprd
                    have hrl : (predsF g)[b].length ≤ 1073741824 := by
                      simp only [predsF, predsOf, List.getElem_map, List.length_map]
                      exact Nat.le_trans (List.length_filter_le _ _) (edgesF_len hg hn)
                    generalize (predsF g)[b] = row at *
                    go_wp2
                    go_loopg [66, 13] row.length (fun k vi vb wr2 => ∃ (i : Nat) (r : Option Nat), vi = .int .i64 (i : Int) ∧ i ≤ row.length ∧ Hid (i + k = row.length) ∧ vb = .int .i64 (oi r) ∧
                      Hid (bestN st.1 (numF g) (2 * g.length + 1) (row.take i) none = some r) ∧ Ext [] wr wr2)
                    case atStart => exact ⟨0, none, rfl, by omega, by simp [Hid], rfl, by simp [Hid, bestN], Ext.refl _ _⟩
                    case round =>
                      obtain ⟨i, r, rfl, hi, HK3, rfl, Hr, hx7⟩ := hrel
                      by_cases hlt2 : i < row.length
                      · obtain ⟨p5, _, hv, _, ea, _⟩ := (hrow.ext0 hx7).cell i hlt2
                        cases hv
                        have ha2 : row[i] < g.length := Hrow.out _ (List.getElem_mem hlt2)
                        have Hsn2 : Hid (bestN st.1 (numF g) (2 * g.length + 1) (row.take (i + 1)) none = bestN st.1 (numF g) (2 * g.length + 1) [row[i]] r) := by
                          rw [Hid, List.take_succ_eq_append_getElem hlt2, bestN_append, Hr.out]; rfl
                        obtain ⟨r', hr', _, _⟩ := bestN_spec HN.out HT.out (2 * g.length + 1) HK2.out (row.take (i + 1)) none (fun a ha => Hrow.out a (List.mem_of_mem_take ha)) (fun _ e => by cases e)
                        have hrb : ∀ b', r = some b' → b' < g.length := by
                          obtain ⟨r2, hr2, _, h3⟩ := bestN_spec HN.out HT.out (2 * g.length + 1) HK2.out (row.take i) none (fun a ha => Hrow.out a (List.mem_of_mem_take ha)) (fun _ e => by cases e)
                          rw [Hr.out] at hr2
                          injection hr2 with hr2
                          intro b' hb'
                          exact (h3 b' (hr2 ▸ hb')).1
                        have Hr' := Lib.hid hr'
                        rw [Hsn2.out] at hr'
                        clear Hsn2
                        generalize row[i] = a at *
                        have n1 := (sl_at (s1.ext (hx6.nil hx7) (fun k hk h => by simp at hk h; omega)) a (by rw [numI_len]; exact ha2)).1
                        have n2 := (sl_at (s3.ext0 hx7) a (by rw [outL_len]; exact ha2)).1
                        rw [numI_get] at n1
                        rw [outL_get] at n2
                        simp only [bestN] at hr'
                        have hge : ¬ ((numF g a : Int) < 0) := by omega
                        by_cases hsk : a ≠ 0 ∧ st.1 a = none
                        · rw [if_pos hsk] at hr'
                          injection hr' with hr'
                          subst hr'
                          have ha0 : ((a : Int) == 0) = false := beq_eq_false_iff_ne.2 (by omega)
                          have ha1 : ¬ a = 0 := hsk.1
                          have ha2 : (a : Int) ≠ 0 := by omega
                          rw [hsk.2] at n2
                          simp only [oi] at n2
                          clear hsk
                          go_wp2
                          go_roundg (gk - 1)
                          case measure => have := HK3.out; omega
                          case rel => exact ⟨i + 1, _, by go_num, by omega, by have := HK3.out; simp only [Hid]; omega, rfl, Hr', hx7⟩
                        · rw [if_neg hsk] at hr'
                          have hka : a = 0 ∨ (a ≠ 0 ∧ ∃ z, st.1 a = some z) := by
                            by_cases h0 : a = 0
                            · exact .inl h0
                            · cases e : st.1 a with
                              | none => exact absurd ⟨h0, e⟩ hsk
                              | some z => exact .inr ⟨h0, z, rfl⟩
                          clear hsk
                          rcases hka with rfl | ⟨ha1, z, hz⟩
                          · cases r with
                            | none =>
                              simp only [oi] at hr' ⊢
                              injection hr' with hr'
                              subst hr'
                              go_wp2
                              go_roundg (gk - 1)
                              case measure => have := HK3.out; omega
                              case rel => exact ⟨i + 1, _, by go_num, by omega, by have := HK3.out; simp only [Hid]; omega, rfl, Hr', hx7⟩
                            | some b' =>
                              have hb2 := hrb b' rfl
                              have hbn : ¬ (b' : Int) < 0 := by omega
                              simp only [oi] at hr' ⊢
                              obtain ⟨c0, hc0, hr'⟩ := Option.bind_eq_some_iff.1 hr'
                              injection hr' with hr'
                              subst hr'
                              have Hc0 := Lib.hid hc0
                              clear hc0 hrb
                              go_wp2_with fail
                              refine (common_calls (s3.ext0 hx7) (s1.ext (hx6.nil hx7) (fun k hk h => by simp at hk h; omega)) (fun x z e => (HT.out.lt x z e).2.1) _ _ _ _ Hc0.out hb2 ha2).mono ?_
                              rintro e w7 ⟨rfl, hx8⟩
                              go_wp2
                              go_roundg (gk - 1)
                              case measure => have := HK3.out; omega
                              case rel => exact ⟨i + 1, _, by go_num, by omega, by have := HK3.out; simp only [Hid]; omega, rfl, Hr', hx7.nil hx8⟩
                          · rw [hz] at n2
                            simp only [oi] at n2
                            have hzz : ¬ (z : Int) < 0 := by omega
                            have ha3 : (a : Int) ≠ 0 := by omega
                            have ha0 : ((a : Int) == 0) = false := beq_eq_false_iff_ne.2 (by omega)
                            cases r with
                            | none =>
                              simp only [oi] at hr' ⊢
                              injection hr' with hr'
                              subst hr'
                              go_wp2
                              go_roundg (gk - 1)
                              case measure => have := HK3.out; omega
                              case rel => exact ⟨i + 1, _, by go_num, by omega, by have := HK3.out; simp only [Hid]; omega, rfl, Hr', hx7⟩
                            | some b' =>
                              have hb2 := hrb b' rfl
                              have hbn : ¬ (b' : Int) < 0 := by omega
                              simp only [oi] at hr' ⊢
                              obtain ⟨c0, hc0, hr'⟩ := Option.bind_eq_some_iff.1 hr'
                              injection hr' with hr'
                              subst hr'
                              have Hc0 := Lib.hid hc0
                              clear hc0 hrb
                              go_wp2_with fail
                              refine (common_calls (s3.ext0 hx7) (s1.ext (hx6.nil hx7) (fun k hk h => by simp at hk h; omega)) (fun x z e => (HT.out.lt x z e).2.1) _ _ _ _ Hc0.out hb2 ha2).mono ?_
                              rintro e w7 ⟨rfl, hx8⟩
                              go_wp2
                              go_roundg (gk - 1)
                              case measure => have := HK3.out; omega
                              case rel => exact ⟨i + 1, _, by go_num, by omega, by have := HK3.out; simp only [Hid]; omega, rfl, Hr', hx7.nil hx8⟩
                      · have hie : i = row.length := by omega
                        subst hie
                        have hrc : r = some c := by
                          have h1 := Hr.out
                          rw [List.take_length, Hc2.out] at h1
                          injection h1 with h1
                          exact h1.symm
                        subst hrc
                        have hbo := s3.ext0 hx7
                        obtain ⟨n2, f2⟩ := sl_at hbo b (by rw [outL_len]; exact hbl)
                        rw [outL_get] at n2
                        have Hc3 : Hid (bestN st.1 (numF g) (2 * g.length + 1) (prd g b) none = some (some c)) := by rw [Hprd.out]; exact Hc2.out
                        by_cases he : st.1 b = some c
                        · have hst : Hid (passC (prd g) (numF g) (2 * g.length + 1) D0 ((orderF g).tail.take (j + 1)) = st) := by
                            rw [Hid, Hsn.out]; simp only [stepC, Hc3.out]; rw [if_pos he]
                          rw [he] at n2
                          simp only [oi] at n2 ⊢
                          clear he
                          go_wp2
                          go_roundg (q' - 1)
                          case measure => have := HK.out; omega
                          case rel => exact ⟨j + 1, by go_num, by omega, by have := HK.out; simp only [Hid]; omega, by rw [hst.out], by rw [hst.out]; exact hbo, hx6.nil hx7⟩
                        · have hst : Hid (passC (prd g) (numF g) (2 * g.length + 1) D0 ((orderF g).tail.take (j + 1)) = (upd st.1 b c, true)) := by
                            rw [Hid, Hsn.out]; simp only [stepC, Hc3.out]; rw [if_neg he]
                          have hne : (oi (st.1 b) == (c : Int)) = false := beq_eq_false_iff_ne.2 (by
                            cases e : st.1 b with
                            | none => simp only [oi]; omega
                            | some z => rw [e] at he; simp only [oi]; intro h; exact he (by congr; omega))
                          have hne2 : oi (st.1 b) ≠ (c : Int) := beq_eq_false_iff_ne.1 hne
                          have t3 := hbo.set b (by rw [outL_len]; exact hbl) (c : Int)
                          rw [← outL_upd] at t3
                          clear he
                          generalize oi (st.1 b) = ob at *
                          simp only [oi] at *
                          go_wp2
                          go_roundg (q' - 1)
                          case measure => have := HK.out; omega
                          case rel => exact ⟨j + 1, by go_num, by omega, by have := HK.out; simp only [Hid]; omega, by rw [hst.out], by rw [hst.out]; exact t3, (hx6.nil hx7).setCell (.inl (by simp)) _⟩
                  · have hje : j = g.length - 1 := by omega
                    subst hje
                    have htk : (orderF g).tail.take (g.length - 1) = (orderF g).tail := List.take_of_length_le (by have := Htl.out; omega)
                    rw [htk] at s3 ⊢
                    have Htk := Lib.hid htk
                    clear htk
                    go_wp2
                    go_roundg (q - 1)
                    case measure => have := hq2.out; omega
                    case rel => exact ⟨_, _, rfl, s3, hx6, hPn⟩
end Go.Proofs.Ytkmgbejhbkbaoaa
