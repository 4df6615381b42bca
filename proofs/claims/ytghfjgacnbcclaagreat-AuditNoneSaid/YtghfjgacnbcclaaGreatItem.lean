/- Layer 6, item: in, RightTid, right, RightItems, RightNodes, Find: what each call answers. -/
import Derived.Test.YtghfjgacnbcclaaGreatKinds
import Derived.Test.YtghfjgacnbcclaaGreatFuncs
import Derived.Test.YtghfjgacnbcclaaGreatReg
import Derived.Deep.QuietTactic
import Derived.BigQuiet
namespace Go.Proofs.YtghfjgacnbcclaaGreat
open Go.RowKit Go.Proofs.YtghfjgacnbcclaaGreatW.PrintWords

theorem bcell {B : Nat} {W w1 : World} (hb : Below B W w1) : (∀ b o, b < B → w1.cell? ⟨b, o, none⟩ = W.cell? ⟨b, o, none⟩) ∧ (∀ b o, b < B → w1.frozen? ⟨b, o, none⟩ = W.frozen? ⟨b, o, none⟩) :=
  ⟨fun b o h => hb.cell (p := ⟨b, o, none⟩) h, fun b o h => hb.frozen (p := ⟨b, o, none⟩) h⟩
theorem below_alloc1 (w : World) (o : Obj) : Below w.heap.size w (w.alloc o) := (Below.refl _ _).alloc (Nat.le_refl _) _
theorem bthen {w W w1 : World} {B : Nat} (h : Below w.heap.size w W) (h2 : Below B W w1) (hB : w.heap.size ≤ B) : Below w.heap.size w w1 := h.trans (h2.mono hB)
theorem below_tr {w w1 w2 : World} (h : Below w.heap.size w w1) (h2 : Below w1.heap.size w1 w2) : Below w.heap.size w w2 := h.trans (h2.mono h.size)

theorem calls_gen {P : Program} {f : FuncId} {args : Array Value} {w : World} {R : Ending → World → Prop} (h : ∀ W, Hid (W = w) → Calls P f args W R) : Calls P f args w R := h w rfl
theorem made_flat (z : Array Value) (hz : 0 < z.size) : ∀ m, (madeCells z (m * z.size)).toList = (List.replicate m z.toList).flatten
  | 0 => by simp [madeCells]
  | m + 1 => by
    have ih := made_flat z hz m
    rw [List.replicate_succ, List.flatten_cons, ← ih]
    unfold madeCells
    rw [show (m + 1) * z.size = z.size + m * z.size from by rw [Nat.succ_mul]; omega]
    simp only [Array.toList_map, Array.toList_range, List.range_add, List.map_append, List.map_map]
    congr 1
    · apply List.ext_getElem (by simp)
      intro i h1 h2
      simp at h1
      simp [Nat.mod_eq_of_lt h1, getElem!_pos, h1]
    · refine List.map_congr_left (fun i _ => ?_)
      simp
theorem wp_gen {P : Program} {c : Code} {Q : Exit → Act → World → Prop} {a : Act} {w : World} (h : ∀ W, Hid (W = w) → c.wp P Q a W) : c.wp P Q a w := h w rfl
/-! ### rows of ints and of items, cell by cell -/
theorem rowInt {w : World} {A : Option Addr} {n : Nat} {xs : List Int} (h : (Kd.int .i64).C w A n xs) : RowCells w A n 1 (fun j _ => .int .i64 (xs.getD j 0)) := by
  refine ⟨h.2.1, fun h0 => ?_⟩
  obtain ⟨b, o, c, e, hb, _, _⟩ := Kd_at h 0 0 h0 (by decide)
  refine ⟨b, o, e, hb, fun j i hj hi => ?_⟩
  obtain ⟨b', o', c', e', hb', hK, hc⟩ := Kd_at h 0 j hj (by decide)
  rw [e] at e'
  cases e'
  have hK' : c' = [.int .i64 (xs.getD j 0)] := hK
  subst hK'
  obtain rfl : i = 0 := by omega
  exact hc 0 _ rfl
def Item.vals (x : Item) : List Value := [.int .i64 x.cell, .int .i64 x.version, .int .i64 x.value, .bool x.write, .int .i64 x.new]
theorem rowItem {w : World} {A : Option Addr} {n : Nat} {xs : List Item} (h : kItem.C w A n xs) : RowCells w A n 5 (fun j i => (Item.vals (xs.getD j Item.z)).getD i undef) := by
  refine ⟨h.2.1, fun h0 => ?_⟩
  obtain ⟨b, o, e, hb, _⟩ := kItem_at h 0 h0
  refine ⟨b, o, e, hb, fun j i hj hi => ?_⟩
  obtain ⟨b', o', e', hb', h0, h1, h2, h3, h4⟩ := kItem_at h j hj
  rw [e] at e'
  cases e'
  match i, hi with
  | 0, _ => exact h0
  | 1, _ => exact h1
  | 2, _ => exact h2
  | 3, _ => exact h3
  | 4, _ => exact h4

/-! ### item.in -/
set_option maxHeartbeats 400000 in
theorem in1_any (n lo hi : Int) (b c : Nat) (w : World) (h1 : w.cell? ⟨b, 0, none⟩ = some (.int .i64 lo)) (h2 : w.cell? ⟨c, 0, none⟩ = some (.int .i64 hi)) :
    Calls Tryz.prog 82 #[.int .i64 n, .pointer (some ⟨b, 0, none⟩), .pointer (some ⟨c, 0, none⟩)] w fun e w' => e = .returned (.bool (decide (n < lo) || decide (hi < n))) ∧ w' = w := by
  go_enter Tryz.func82, Tryz.ntmps82
  go_wp2
  all_goals (go_ret; exact ⟨by simp_all, rfl⟩)

def inB (lo hi : Int) (xs : List Int) : Bool := xs.all fun n => decide (lo ≤ n) && decide (n ≤ hi)
theorem inB_eq (lo hi : Int) (xs : List Int) : (!anyIdx (fun j => decide (xs.getD j 0 < lo) || decide (hi < xs.getD j 0)) xs.length) = inB lo hi xs := by
  rw [Bool.eq_iff_iff, Bool.not_eq_true', ← Bool.not_eq_true, anyIdx_iff]
  unfold inB
  rw [List.all_eq_true]
  constructor
  · intro h n hn
    obtain ⟨k, hk, rfl⟩ := List.mem_iff_getElem.1 hn
    have : ¬ ((decide (xs.getD k 0 < lo) || decide (hi < xs.getD k 0)) = true) := fun h2 => h ⟨k, hk, h2⟩
    rw [List.getD_eq_getElem?_getD, List.getElem?_eq_getElem hk] at this
    simp at this ⊢
    omega
  · rintro h ⟨k, hk, h2⟩
    have := h xs[k] (List.getElem_mem hk)
    rw [List.getD_eq_getElem?_getD, List.getElem?_eq_getElem hk] at h2
    simp at this h2
    omega

set_option maxHeartbeats 1000000 in
theorem itemIn_any (lo hi : Int) (A : Option Addr) (cap : Nat) (xs : List Int) (w : World) (hr : (Kd.int .i64).C w A xs.length xs) :
    Calls Tryz.prog 60 #[.int .i64 lo, .int .i64 hi, .slice A xs.length cap] w fun e w' => e = .returned (.bool (inB lo hi xs)) ∧ Below w.heap.size w w' := by
  have eg : ∀ args w, (callFunc 82 args).run Tryz.prog w = .ok (.enter 82 args) w := enters1 Tryz.func82 (by kernel_rfl) rfl
  rw [← inB_eq]
  have hb2 : Below w.heap.size w ((w.alloc (.cells #[.int .i64 lo] 3)).alloc (.cells #[.int .i64 hi] 3)) := ((Below.refl _ w).alloc (Nat.le_refl _) _).alloc (by simp) _
  have hcon := containsFuncInt 82 #[] #[.pointer (some ⟨w.heap.size, 0, none⟩), .pointer (some ⟨w.heap.size + 1, 0, none⟩)] eg A xs.length cap _ (fun j => decide (xs.getD j 0 < lo) || decide (hi < xs.getD j 0)) _
    (rowInt (Kd.C_below hr hb2)) (fun j W hj hW => by
      have c1 : W.cell? ⟨w.heap.size, 0, none⟩ = some (.int .i64 lo) := (hW.cell (p := ⟨w.heap.size, 0, none⟩) (by simp; omega)).trans (by simp)
      have c2 : W.cell? ⟨w.heap.size + 1, 0, none⟩ = some (.int .i64 hi) := (hW.cell (p := ⟨w.heap.size + 1, 0, none⟩) (by simp)).trans (by simp)
      exact (in1_any _ lo hi _ _ W c1 c2).mono fun e w' ⟨he, hw⟩ => ⟨he, by rw [hw]; exact Below.refl _ _⟩)
  clear hr
  generalize anyIdx (fun j => decide (xs.getD j 0 < lo) || decide (hi < xs.getD j 0)) xs.length = r at hcon ⊢
  generalize xs.length = n at hcon
  have Hb2 := Lib.hid hb2
  clear hb2
  go_enter Tryz.func60, Tryz.ntmps60
  go_wp2_with (fail)
  refine hcon.mono ?_
  rintro e w' ⟨rfl, hb'⟩
  go_wp2
  go_ret
  exact ⟨rfl, Hb2.out.trans (hb'.mono (by simp; omega))⟩

/-! ### a literal's row -/
theorem C_int1 (W : World) (a : Int) (e : TypeId) : (Kd.int .i64).C (W.alloc (.cells #[.int .i64 a] e)) (some ⟨W.heap.size, 0, none⟩) [a].length [a] := by
  refine ⟨rfl, by simp, fun _ => ⟨_, rfl, fun j q hj => ?_⟩⟩
  match j, hj with
  | 0, hj => simp at hj; subst hj; exact ⟨[.int .i64 a], rfl, rfl, fun i u hi => by
      match i, hi with
      | 0, hi => simp at hi; subst hi; simp [Addr.add]⟩
theorem C_int2 (W : World) (a b : Int) (e : TypeId) : (Kd.int .i64).C (W.alloc (.cells #[.int .i64 a, .int .i64 b] e)) (some ⟨W.heap.size, 0, none⟩) [a, b].length [a, b] := by
  refine ⟨rfl, by simp, fun _ => ⟨_, rfl, fun j q hj => ?_⟩⟩
  match j, hj with
  | 0, hj => simp at hj; subst hj; exact ⟨[.int .i64 a], rfl, rfl, fun i u hi => by
      match i, hi with
      | 0, hi => simp at hi; subst hi; simp [Addr.add]⟩
  | 1, hj => simp at hj; subst hj; exact ⟨[.int .i64 b], rfl, rfl, fun i u hi => by
      match i, hi with
      | 0, hi => simp at hi; subst hi; simp [Addr.add, Kd.int, Kd.scalar]⟩

/-! ### item.RightTid -/
def Tid.right (t : Tid) : Bool := inB 1 16 [t.node] && inB 1 1099511627776 [t.epoch, t.seq]
def Tid.val (t : Tid) : Value := .agg #[.int .i64 t.node, .int .i64 t.epoch, .int .i64 t.seq]
set_option maxHeartbeats 1000000 in
theorem rightTid_any (t : Tid) (w : World) :
    Calls Tryz.prog 40 #[.agg #[.int .i64 t.node, .int .i64 t.epoch, .int .i64 t.seq]] w fun e w' => e = .returned (.bool t.right) ∧ Below w.heap.size w w' := by
  obtain ⟨a, b, c⟩ := t
  show Calls Tryz.prog 40 #[.agg #[.int .i64 a, .int .i64 b, .int .i64 c]] w fun e w' => e = .returned (.bool (inB 1 16 [a] && inB 1 1099511627776 [b, c])) ∧ Below w.heap.size w w'
  have hc1 := fun (W : World) (cap : Nat) => itemIn_any 1 16 (some ⟨W.heap.size, 0, none⟩) cap [a] _ (C_int1 W a 3)
  have hc2 := fun (W : World) (cap : Nat) => itemIn_any 1 1099511627776 (some ⟨W.heap.size, 0, none⟩) cap [b, c] _ (C_int2 W b c 3)
  generalize inB 1 16 [a] = r1 at hc1 ⊢
  generalize inB 1 1099511627776 [b, c] = r2 at hc2 ⊢
  have H1 := Lib.hid hc1
  have H2 := Lib.hid hc2
  clear hc1 hc2
  go_enter Tryz.func40, Tryz.ntmps40
  go_wp2_with (fail)
  have h1 := H1.out (w.alloc (.cells #[.int .i64 a, .int .i64 b, .int .i64 c] 23)) 1
  simp only [World.size_alloc] at h1
  refine h1.mono ?_
  clear h1
  rintro e w1 ⟨rfl, hb⟩
  obtain ⟨hc, hf⟩ := bcell hb
  have hz : w.heap.size + 1 < w1.heap.size := by have := hb.size; simp at this; omega
  cases r1
  · go_wp2
    go_ret
    exact ⟨rfl, bthen (below_tr (below_alloc1 _ _) (below_alloc1 _ _)) hb (by omega)⟩
  · go_wp2_with (fail)
    have h2 := H2.out w1 2
    refine h2.mono ?_
    rintro e w2 ⟨rfl, hb2⟩
    go_wp2
    go_ret
    exact ⟨rfl, bthen (bthen (bthen (below_tr (below_alloc1 _ _) (below_alloc1 _ _)) hb (by omega)) (below_alloc1 w1 _) (by omega)) hb2 (by simp; omega)⟩

/-! ### item.right -/
def Item.right (x : Item) : Bool := inB 0 15 [x.cell] && inB 0 1099511627775 [x.version] && (x.write || x.new == 0)
set_option maxHeartbeats 1000000 in
theorem right_any (x : Item) (w : World) :
    Calls Tryz.prog 61 #[.agg #[.int .i64 x.cell, .int .i64 x.version, .int .i64 x.value, .bool x.write, .int .i64 x.new]] w fun e w' => e = .returned (.bool x.right) ∧ Below w.heap.size w w' := by
  obtain ⟨a, b, c, d, f⟩ := x
  show Calls Tryz.prog 61 #[.agg #[.int .i64 a, .int .i64 b, .int .i64 c, .bool d, .int .i64 f]] w fun e w' => e = .returned (.bool (inB 0 15 [a] && inB 0 1099511627775 [b] && (d || f == 0))) ∧ Below w.heap.size w w'
  have hc1 := fun (W : World) (cap : Nat) => itemIn_any 0 15 (some ⟨W.heap.size, 0, none⟩) cap [a] _ (C_int1 W a 3)
  have hc2 := fun (W : World) (cap : Nat) => itemIn_any 0 1099511627775 (some ⟨W.heap.size, 0, none⟩) cap [b] _ (C_int1 W b 3)
  generalize inB 0 15 [a] = r1 at hc1 ⊢
  generalize inB 0 1099511627775 [b] = r2 at hc2 ⊢
  have H1 := Lib.hid hc1
  have H2 := Lib.hid hc2
  clear hc1 hc2
  go_enter Tryz.func61, Tryz.ntmps61
  go_wp2_with (fail)
  have h1 := H1.out (w.alloc (.cells #[.int .i64 a, .int .i64 b, .int .i64 c, .bool d, .int .i64 f] 38)) 1
  simp only [World.size_alloc] at h1
  refine h1.mono ?_
  clear h1
  rintro e w1 ⟨rfl, hb⟩
  obtain ⟨hc, hf⟩ := bcell hb
  have hz : w.heap.size + 1 < w1.heap.size := by have := hb.size; simp at this; omega
  cases r1
  · go_wp2
    go_ret
    exact ⟨rfl, bthen (below_tr (below_alloc1 _ _) (below_alloc1 _ _)) hb (by omega)⟩
  · go_wp2_with (fail)
    have h2 := H2.out w1 1
    refine h2.mono ?_
    rintro e w2 ⟨rfl, hb2⟩
    obtain ⟨hc2, hf2⟩ := bcell ((below_alloc1 w1 _).trans (hb2.mono (by simp)))
    have hz2 : w.heap.size < w1.heap.size := by omega
    cases r2
    · go_wp2
      go_ret
      exact ⟨rfl, bthen (bthen (bthen (below_tr (below_alloc1 _ _) (below_alloc1 _ _)) hb (by omega)) (below_alloc1 w1 _) (by omega)) hb2 (by simp; omega)⟩
    · cases d
      · go_wp2
        go_ret
        exact ⟨rfl, bthen (bthen (bthen (below_tr (below_alloc1 _ _) (below_alloc1 _ _)) hb (by omega)) (below_alloc1 w1 _) (by omega)) hb2 (by simp; omega)⟩
      · go_wp2
        go_ret
        exact ⟨rfl, bthen (bthen (bthen (below_tr (below_alloc1 _ _) (below_alloc1 _ _)) hb (by omega)) (below_alloc1 w1 _) (by omega)) hb2 (by simp; omega)⟩

/-! ### item.RightItems -/
def okItem (xs : List Item) (i : Nat) : Bool := (xs.getD i Item.z).right && (decide (i = 0) || decide ((xs.getD (i - 1) Item.z).cell < (xs.getD i Item.z).cell))
def rightItems (xs : List Item) : Bool := (List.range xs.length).all (okItem xs) && decide (0 < xs.length)
theorem rightItems_no {xs : List Item} {k : Nat} (hk : k < xs.length) (h : okItem xs k = false) : rightItems xs = false := by
  unfold rightItems
  rw [Bool.and_eq_false_iff]
  refine .inl (Bool.eq_false_iff.2 fun h2 => ?_)
  have := List.all_eq_true.1 h2 k (List.mem_range.2 hk)
  rw [h] at this
  cases this
theorem rightItems_yes {xs : List Item} (h : ∀ j, j < xs.length → okItem xs j = true) : rightItems xs = decide (0 < xs.length) := by
  unfold rightItems
  rw [List.all_eq_true.2 (fun j hj => h j (List.mem_range.1 hj)), Bool.true_and]

set_option maxHeartbeats 4000000 in
set_option maxRecDepth 100000 in
theorem rightItems_any (A : Option Addr) (cap : Nat) (xs : List Item) (w : World) (hr : kItem.C w A xs.length xs) :
    Calls Tryz.prog 41 #[.slice A xs.length cap] w fun e w' => e = .returned (.bool (rightItems xs)) ∧ Below w.heap.size w w' := by
  have hn := hr.2.1
  have HR := Lib.hid hr
  clear hr
  generalize hxl : xs.length = n at hn
  have HL := Lib.hid hxl
  go_enter Tryz.func41, Tryz.ntmps41
  clear hxl
  go_wp2
  go_loopg [7] n (fun gg s7 wr => ∃ kk : Nat, kk ≤ n ∧ n - kk ≤ gg ∧ s7 = .int .i64 kk ∧ Aside (Below w.heap.size w wr) ∧ Aside (∀ j, j < kk → okItem xs j = true))
  case atStart => exact ⟨0, Nat.zero_le _, by omega, rfl, Below.refl _ w, fun j hj => absurd hj (Nat.not_lt_zero _)⟩
  case round =>
    obtain ⟨kk, hkk, hg, rfl, BW, AA⟩ := hrel
    by_cases hlt : kk < n
    · have hltz : (kk : Int) < (n : Int) := by omega
      obtain ⟨b, o, hA, hb, h0, h1, h2, h3, h4⟩ := kItem_at (Kd.C_below HR.out BW.out) kk (by rw [HL.out]; exact hlt)
      subst hA
      generalize hx : xs.getD kk Item.z = x at h0 h1 h2 h3 h4
      have HX := Lib.hid hx
      clear hx
      go_wp2
      clear h0 h1 h2 h3 h4
      cases hrx : x.right with
      | false =>
        refine wp_region_bel (by kernel_rfl) (by kernel_rfl) (fun w1 hw1 => ?_)
        have q0 : w1.cell? ⟨wr.heap.size, 0, none⟩ = some (.int .i64 x.cell) := by rw [hw1.out]; simp
        have q1 : w1.cell? ⟨wr.heap.size, 1, none⟩ = some (.int .i64 x.version) := by rw [hw1.out]; simp
        have q2 : w1.cell? ⟨wr.heap.size, 2, none⟩ = some (.int .i64 x.value) := by rw [hw1.out]; simp
        have q3 : w1.cell? ⟨wr.heap.size, 3, none⟩ = some (.bool x.write) := by rw [hw1.out]; simp
        have q4 : w1.cell? ⟨wr.heap.size, 4, none⟩ = some (.int .i64 x.new) := by rw [hw1.out]; simp
        have hz : wr.heap.size < w1.heap.size := by rw [hw1.out]; simp
        have BW1 : Aside (Below w.heap.size w w1) := by rw [hw1.out]; exact below_tr BW.out (below_alloc1 _ _)
        repeat (first
          | (apply belSteps_plain
             · rfl
             · intro W hW
               obtain ⟨hc, hf⟩ := bcell hW
               go_simp
               first
                 | exact rfl
                 | exact ⟨rfl, hW⟩
                 | (refine (right_any x _).mono ?_; rintro e w' ⟨rfl, hb'⟩; exact ⟨_, rfl, rfl, below_tr hW hb'⟩)
             simp only [Act.put, List.setIfInBounds_toArray, List.set_cons_zero, List.set_cons_succ])
          | ((first | (apply belSteps_no; rfl; rfl; rfl) | (apply belSteps_never; rfl; rfl; rfl))
             simp only [Act.put, List.setIfInBounds_toArray, List.set_cons_zero, List.set_cons_succ])
          | (apply belSteps_yes
             · rfl
             · rfl
             · rfl
             · intro W hW
               obtain ⟨hc, hf⟩ := bcell hW
               go_simp
               first
                 | exact rfl
                 | exact ⟨rfl, hW⟩
                 | (refine (right_any x _).mono ?_; rintro e w' ⟨rfl, hb'⟩; exact ⟨_, rfl, rfl, below_tr hW hb'⟩)
             simp only [Act.put, List.setIfInBounds_toArray, List.set_cons_zero, List.set_cons_succ]))
        refine belSteps_nil ⟨rfl, fun W hW => ?_⟩
        go_wp2
        go_ret
        exact ⟨by rw [rightItems_no (k := kk) (by rw [HL.out]; exact hlt) (by unfold okItem; rw [HX.out, hrx]; rfl)]; rfl, below_tr BW1.out hW⟩
      | true =>
        cases kk with
        | zero =>
          refine wp_region_bel (by kernel_rfl) (by kernel_rfl) (fun w1 hw1 => ?_)
          have q0 : w1.cell? ⟨wr.heap.size, 0, none⟩ = some (.int .i64 x.cell) := by rw [hw1.out]; simp
          have q1 : w1.cell? ⟨wr.heap.size, 1, none⟩ = some (.int .i64 x.version) := by rw [hw1.out]; simp
          have q2 : w1.cell? ⟨wr.heap.size, 2, none⟩ = some (.int .i64 x.value) := by rw [hw1.out]; simp
          have q3 : w1.cell? ⟨wr.heap.size, 3, none⟩ = some (.bool x.write) := by rw [hw1.out]; simp
          have q4 : w1.cell? ⟨wr.heap.size, 4, none⟩ = some (.int .i64 x.new) := by rw [hw1.out]; simp
          have hz : wr.heap.size < w1.heap.size := by rw [hw1.out]; simp
          have BW1 : Aside (Below w.heap.size w w1) := by rw [hw1.out]; exact below_tr BW.out (below_alloc1 _ _)
          repeat (first
            | (apply belSteps_plain
               · rfl
               · intro W hW
                 obtain ⟨hc, hf⟩ := bcell hW
                 go_simp
                 first
                   | exact rfl
                   | exact ⟨rfl, hW⟩
                   | (refine (right_any x _).mono ?_; rintro e w' ⟨rfl, hb'⟩; exact ⟨_, rfl, by rw [hrx], below_tr hW hb'⟩)
               simp only [Act.put, List.setIfInBounds_toArray, List.set_cons_zero, List.set_cons_succ])
            | ((first | (apply belSteps_no; rfl; rfl; rfl) | (apply belSteps_never; rfl; rfl; rfl))
               simp only [Act.put, List.setIfInBounds_toArray, List.set_cons_zero, List.set_cons_succ])
            | (apply belSteps_yes
               · rfl
               · rfl
               · rfl
               · intro W hW
                 obtain ⟨hc, hf⟩ := bcell hW
                 go_simp
                 first
                   | exact rfl
                   | exact ⟨rfl, hW⟩
                   | (refine (right_any x _).mono ?_; rintro e w' ⟨rfl, hb'⟩; exact ⟨_, rfl, by rw [hrx], below_tr hW hb'⟩)
               simp only [Act.put, List.setIfInBounds_toArray, List.set_cons_zero, List.set_cons_succ]))
          refine belSteps_nil ⟨rfl, fun W hW => ?_⟩
          go_wp2
          go_roundg (n - 1)
          case measure => omega
          case rel =>
            refine ⟨1, by omega, by omega, by go_num, (show Aside _ from below_tr BW1.out hW), (show Aside _ from fun j hj => ?_)⟩
            obtain rfl : j = 0 := by omega
            unfold okItem
            rw [HX.out, hrx]
            rfl
        | succ m =>
          have hwm : IntKind.i64.wrap (m : Int) = (m : Int) := IntWalk.i64_in _ (by omega)
          have hmn : (m : Int) < (n : Int) := by omega
          refine wp_region_bel (by kernel_rfl) (by kernel_rfl) (fun w1 hw1 => ?_)
          have q0 : w1.cell? ⟨wr.heap.size, 0, none⟩ = some (.int .i64 x.cell) := by rw [hw1.out]; simp
          have q1 : w1.cell? ⟨wr.heap.size, 1, none⟩ = some (.int .i64 x.version) := by rw [hw1.out]; simp
          have q2 : w1.cell? ⟨wr.heap.size, 2, none⟩ = some (.int .i64 x.value) := by rw [hw1.out]; simp
          have q3 : w1.cell? ⟨wr.heap.size, 3, none⟩ = some (.bool x.write) := by rw [hw1.out]; simp
          have q4 : w1.cell? ⟨wr.heap.size, 4, none⟩ = some (.int .i64 x.new) := by rw [hw1.out]; simp
          have hz : wr.heap.size < w1.heap.size := by rw [hw1.out]; simp
          have BW1 : Aside (Below w.heap.size w w1) := by rw [hw1.out]; exact below_tr BW.out (below_alloc1 _ _)
          obtain ⟨b', o', hA', hb', g0, _⟩ := kItem_at (Kd.C_below HR.out BW1.out) m (by rw [HL.out]; omega)
          cases hA'
          generalize hy : xs.getD m Item.z = y at g0
          have HY := Lib.hid hy
          clear hy
          repeat (first
            | (apply belSteps_plain
               · rfl
               · intro W hW
                 obtain ⟨hc, hf⟩ := bcell hW
                 go_simp
                 first
                   | exact rfl
                   | exact ⟨rfl, hW⟩
                   | (refine (right_any x _).mono ?_; rintro e w' ⟨rfl, hb'⟩; exact ⟨_, rfl, by rw [hrx], below_tr hW hb'⟩)
               simp only [Act.put, List.setIfInBounds_toArray, List.set_cons_zero, List.set_cons_succ])
            | ((first | (apply belSteps_no; rfl; rfl; rfl) | (apply belSteps_never; rfl; rfl; rfl))
               simp only [Act.put, List.setIfInBounds_toArray, List.set_cons_zero, List.set_cons_succ])
            | (apply belSteps_yes
               · rfl
               · rfl
               · rfl
               · intro W hW
                 obtain ⟨hc, hf⟩ := bcell hW
                 go_simp
                 first
                   | exact rfl
                   | exact ⟨rfl, hW⟩
                   | (refine (right_any x _).mono ?_; rintro e w' ⟨rfl, hb'⟩; exact ⟨_, rfl, by rw [hrx], below_tr hW hb'⟩)
               simp only [Act.put, List.setIfInBounds_toArray, List.set_cons_zero, List.set_cons_succ]))
          refine belSteps_nil ⟨rfl, fun W hW => ?_⟩
          go_wp2
          · have hcm : x.cell ≤ y.cell := by assumption
            go_ret
            exact ⟨by rw [rightItems_no (k := m + 1) (by rw [HL.out]; exact hlt) (by unfold okItem; rw [HX.out, hrx, Nat.add_sub_cancel, HY.out]; simp; omega)]; rfl, below_tr BW1.out hW⟩
          · have hcm : y.cell < x.cell := by assumption
            go_roundg (n - (m + 2))
            case measure => omega
            case rel =>
              refine ⟨m + 2, by omega, by omega, by go_num, (show Aside _ from below_tr BW1.out hW), (show Aside _ from fun j hj => ?_)⟩
              by_cases e : j = m + 1
              · subst e
                unfold okItem
                rw [HX.out, hrx, Nat.add_sub_cancel, HY.out]
                simp; omega
              · exact AA.out j (by omega)
    · have hltz : ¬ (kk : Int) < (n : Int) := by omega
      have : kk = n := by omega
      subst this
      go_wp2
      go_ret
      exact ⟨by rw [rightItems_yes (by rw [HL.out]; exact AA.out), HL.out]; simp, BW.out⟩

end Go.Proofs.YtghfjgacnbcclaaGreat
