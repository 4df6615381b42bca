/- Statement AuditReads: its example. -/
import Derived.Test.YtghfjgacnbcclaaGreatSerial
namespace Go.Proofs.YtghfjgacnbcclaaGreat
open Go.RowKit Go.Proofs.YtghfjgacnbcclaaGreatW.PrintWords

theorem kItem_C1 {w : World} {b : Nat} (x : Item) (h0 : w.cell? ⟨b, 0, none⟩ = some (.int .i64 x.cell)) (h1 : w.cell? ⟨b, 1, none⟩ = some (.int .i64 x.version)) (h2 : w.cell? ⟨b, 2, none⟩ = some (.int .i64 x.value)) (h3 : w.cell? ⟨b, 3, none⟩ = some (.bool x.write)) (h4 : w.cell? ⟨b, 4, none⟩ = some (.int .i64 x.new)) :
    kItem.C w (some ⟨b, 0, none⟩) [x].length [x] := by
  refine ⟨rfl, by simp, fun _ => ⟨_, rfl, fun j q hj => ?_⟩⟩
  match j, hj with
  | 0, hj =>
    simp at hj; subst hj
    refine ⟨_, rfl, kItem_mk w x, fun i u hi => ?_⟩
    match i, hi with
    | 0, hi => simp at hi; subst hi; simpa [Addr.add] using h0
    | 1, hi => simp at hi; subst hi; simpa [Addr.add] using h1
    | 2, hi => simp at hi; subst hi; simpa [Addr.add] using h2
    | 3, hi => simp at hi; subst hi; simpa [Addr.add] using h3
    | 4, hi => simp at hi; subst hi; simpa [Addr.add] using h4
theorem kACommit_C2 {w : World} {b : Nat} (x y : ACommit) (A B : Option Addr) (c d : Nat) (hx : kItem.C w A x.items.length x.items) (hy : kItem.C w B y.items.length y.items) (hc : x.items.length ≤ c) (hd : y.items.length ≤ d)
    (h0 : w.cell? ⟨b, 0, none⟩ = some (.int .i64 x.tid.node)) (h1 : w.cell? ⟨b, 1, none⟩ = some (.int .i64 x.tid.epoch)) (h2 : w.cell? ⟨b, 2, none⟩ = some (.int .i64 x.tid.seq)) (h3 : w.cell? ⟨b, 3, none⟩ = some (.slice A x.items.length c)) (h4 : w.cell? ⟨b, 4, none⟩ = some (.int .i64 x.at_))
    (g0 : w.cell? ⟨b, 5, none⟩ = some (.int .i64 y.tid.node)) (g1 : w.cell? ⟨b, 6, none⟩ = some (.int .i64 y.tid.epoch)) (g2 : w.cell? ⟨b, 7, none⟩ = some (.int .i64 y.tid.seq)) (g3 : w.cell? ⟨b, 8, none⟩ = some (.slice B y.items.length d)) (g4 : w.cell? ⟨b, 9, none⟩ = some (.int .i64 y.at_)) :
    kACommit.C w (some ⟨b, 0, none⟩) [x, y].length [x, y] := by
  refine ⟨rfl, by simp, fun _ => ⟨_, rfl, fun j q hj => ?_⟩⟩
  match j, hj with
  | 0, hj =>
    simp at hj; subst hj
    refine ⟨_, rfl, kACommit_mk w x hc hx, fun i u hi => ?_⟩
    match i, hi with
    | 0, hi => simp at hi; subst hi; simpa [Addr.add] using h0
    | 1, hi => simp at hi; subst hi; simpa [Addr.add] using h1
    | 2, hi => simp at hi; subst hi; simpa [Addr.add] using h2
    | 3, hi => simp at hi; subst hi; simpa [Addr.add] using h3
    | 4, hi => simp at hi; subst hi; simpa [Addr.add] using h4
  | 1, hj =>
    simp at hj; subst hj
    refine ⟨_, rfl, kACommit_mk w y hd hy, fun i u hi => ?_⟩
    match i, hi with
    | 0, hi => simp at hi; subst hi; simpa [Addr.add, kACommit_sz] using g0
    | 1, hi => simp at hi; subst hi; simpa [Addr.add, kACommit_sz] using g1
    | 2, hi => simp at hi; subst hi; simpa [Addr.add, kACommit_sz] using g2
    | 3, hi => simp at hi; subst hi; simpa [Addr.add, kACommit_sz] using g3
    | 4, hi => simp at hi; subst hi; simpa [Addr.add, kACommit_sz] using g4

def exA : ACommit := ⟨⟨1, 1, 1⟩, [⟨0, 0, 0, true, 5⟩], 0⟩
def exB : ACommit := ⟨⟨1, 1, 2⟩, [⟨0, 1, 5, false, 0⟩], 0⟩
def exC : ACommit := ⟨⟨1, 1, 2⟩, [⟨0, 0, 0, false, 0⟩], 0⟩
theorem exAB : playNum 1 [exA, exB] = 2 ∧ playErr 1 [exA, exB] = 0 := by decide +kernel
theorem exAC : playNum 1 [exA, exC] = 1 ∧ playErr 1 [exA, exC] = 13 := by decide +kernel

set_option maxHeartbeats 1000000 in
set_option maxRecDepth 100000 in
theorem awake27_any (w : World) : Calls Tryz.prog 4 #[] w fun e w' => e = .returned (.bool true) ∧ Below w.heap.size w w' := by
  go_enter Tryz.func4, Tryz.ntmps4
  go_wp2_with (fail)
  refine calls_gen fun W0 h0 => ?_
  have b0 : Below w.heap.size w W0 := by rw [h0.out]; exact below_tr (below_tr (below_tr (below_tr (below_tr (below_tr (below_alloc1 _ _) (below_alloc1 _ _)) (below_alloc1 _ _)) (below_alloc1 _ _)) (below_alloc1 _ _)) (below_alloc1 _ _)) (below_alloc1 _ _)
  have r1 : kItem.C W0 (some ⟨w.heap.size, 0, none⟩) exA.items.length exA.items := kItem_C1 _ (by rw [h0.out]; go_simp) (by rw [h0.out]; go_simp) (by rw [h0.out]; go_simp) (by rw [h0.out]; go_simp) (by rw [h0.out]; go_simp)
  have r2 : kItem.C W0 (some ⟨w.heap.size + 1 + 1, 0, none⟩) exB.items.length exB.items := kItem_C1 _ (by rw [h0.out]; go_simp) (by rw [h0.out]; go_simp) (by rw [h0.out]; go_simp) (by rw [h0.out]; go_simp) (by rw [h0.out]; go_simp)
  have r3 : kItem.C W0 (some ⟨w.heap.size + 1 + 1 + 1 + 1, 0, none⟩) exC.items.length exC.items := kItem_C1 _ (by rw [h0.out]; go_simp) (by rw [h0.out]; go_simp) (by rw [h0.out]; go_simp) (by rw [h0.out]; go_simp) (by rw [h0.out]; go_simp)
  have rr : kACommit.C W0 (some ⟨w.heap.size + 1 + 1 + 1 + 1 + 1 + 1, 0, none⟩) [exA, exB].length [exA, exB] := kACommit_C2 exA exB (some ⟨w.heap.size, 0, none⟩) (some ⟨w.heap.size + 1 + 1, 0, none⟩) 1 1 r1 r2 (by decide) (by decide)
    (by rw [h0.out]; simp only [exA]; go_simp) (by rw [h0.out]; simp only [exA]; go_simp) (by rw [h0.out]; simp only [exA]; go_simp) (by rw [h0.out]; simp only [exA]; go_simp) (by rw [h0.out]; simp only [exA]; go_simp) (by rw [h0.out]; simp only [exB]; go_simp) (by rw [h0.out]; simp only [exB]; go_simp) (by rw [h0.out]; simp only [exB]; go_simp) (by rw [h0.out]; simp only [exB]; go_simp) (by rw [h0.out]; simp only [exB]; go_simp)
  have q0 : W0.cell? ⟨w.heap.size + 1, 0, none⟩ = some (.int .i64 1) := by rw [h0.out]; go_simp
  have q1 : W0.cell? ⟨w.heap.size + 1, 1, none⟩ = some (.int .i64 1) := by rw [h0.out]; go_simp
  have q2 : W0.cell? ⟨w.heap.size + 1, 2, none⟩ = some (.int .i64 1) := by rw [h0.out]; go_simp
  have q3 : W0.cell? ⟨w.heap.size + 1, 3, none⟩ = some (.slice (some ⟨w.heap.size, 0, none⟩) 1 1) := by rw [h0.out]; go_simp
  have q4 : W0.cell? ⟨w.heap.size + 1, 4, none⟩ = some (.int .i64 0) := by rw [h0.out]; go_simp
  have p0 : W0.cell? ⟨w.heap.size + 1 + 1 + 1 + 1 + 1, 0, none⟩ = some (.int .i64 1) := by rw [h0.out]; go_simp
  have p1 : W0.cell? ⟨w.heap.size + 1 + 1 + 1 + 1 + 1, 1, none⟩ = some (.int .i64 1) := by rw [h0.out]; go_simp
  have p2 : W0.cell? ⟨w.heap.size + 1 + 1 + 1 + 1 + 1, 2, none⟩ = some (.int .i64 2) := by rw [h0.out]; go_simp
  have p3 : W0.cell? ⟨w.heap.size + 1 + 1 + 1 + 1 + 1, 3, none⟩ = some (.slice (some ⟨w.heap.size + 1 + 1 + 1 + 1, 0, none⟩) 1 1) := by rw [h0.out]; go_simp
  have p4 : W0.cell? ⟨w.heap.size + 1 + 1 + 1 + 1 + 1, 4, none⟩ = some (.int .i64 0) := by rw [h0.out]; go_simp
  have z1 : w.heap.size + 1 < W0.heap.size := by rw [h0.out]; simp
  have z2 : w.heap.size + 1 + 1 + 1 + 1 + 1 < W0.heap.size := by rw [h0.out]; simp
  refine (serial_any 1 _ 2 [exA, exB] W0 rr).mono ?_
  rintro e w1 ⟨bw1, rfl⟩
  obtain ⟨cw1, fw1⟩ := bcell bw1
  have R1 := Lib.hid (Kd.C_below r1 bw1)
  have R3 := Lib.hid (Kd.C_below r3 bw1)
  clear r1 r2 r3 rr
  rw [exAB.1, exAB.2]
  go_wp2_with (fail)
  refine calls_gen fun W2 h2 => ?_
  have b2 : Below w1.heap.size w1 W2 := by rw [h2.out]; exact below_alloc1 _ _
  have rr : kACommit.C W2 (some ⟨w1.heap.size, 0, none⟩) [exA, exC].length [exA, exC] := kACommit_C2 exA exC (some ⟨w.heap.size, 0, none⟩) (some ⟨w.heap.size + 1 + 1 + 1 + 1, 0, none⟩) 1 1 (Kd.C_below R1.out b2) (Kd.C_below R3.out b2) (by decide) (by decide)
    (by rw [h2.out]; simp only [exA]; go_simp) (by rw [h2.out]; simp only [exA]; go_simp) (by rw [h2.out]; simp only [exA]; go_simp) (by rw [h2.out]; simp only [exA]; go_simp) (by rw [h2.out]; simp only [exA]; go_simp) (by rw [h2.out]; simp only [exC]; go_simp) (by rw [h2.out]; simp only [exC]; go_simp) (by rw [h2.out]; simp only [exC]; go_simp) (by rw [h2.out]; simp only [exC]; go_simp) (by rw [h2.out]; simp only [exC]; go_simp)
  refine (serial_any 1 _ 2 [exA, exC] W2 rr).mono ?_
  rintro e w3 ⟨bw3, rfl⟩
  rw [exAC.1, exAC.2]
  go_wp2
  go_ret
  exact ⟨rfl, below_tr (below_tr (below_tr b0 bw1) b2) bw3⟩

end Go.Proofs.YtghfjgacnbcclaaGreat
