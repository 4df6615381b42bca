/- Layer 27, audit: play and what it calls. -/
import Derived.Test.YtghfjgacnbcclaaGreatItem
import Derived.Test.YtghfjgacnbcclaaGreatWEqStruct
import Derived.Maps.OwnSet
namespace Go.Proofs.YtghfjgacnbcclaaGreat
open Go.RowKit Go.Proofs.YtghfjgacnbcclaaGreatW.PrintWords

/-! ### two names, held against each other -/
theorem eqA_tid (d : Nat) (w : World) (x0 y0 x1 y1 x2 y2 : Int) :
    (Op.equalIn (d + 2) 23 (.agg #[.int .i64 x0, .int .i64 x1, .int .i64 x2]) (.agg #[.int .i64 y0, .int .i64 y1, .int .i64 y2])).run Tryz.prog w = .ok (x0 == y0 && (x1 == y1 && (x2 == y2))) w := by
  refine eqA_of Tryz.underlying23 (by kernel_rfl) ?_
  refine eqf_cons (by rfl) (by go_simp; rfl) (by go_simp; rfl) (by go_simp) ?_
  refine eqf_cons (by rfl) (by go_simp; rfl) (by go_simp; rfl) (by go_simp) ?_
  exact eqf_last (by rfl) (by go_simp; rfl) (by go_simp; rfl) (by go_simp)
theorem eqA_reg (d : Nat) (w : World) (x0 y0 x1 y1 : Int) :
    (Op.equalIn (d + 2) 114 (.agg #[.int .i64 x0, .int .i64 x1]) (.agg #[.int .i64 y0, .int .i64 y1])).run Tryz.prog w = .ok (x0 == y0 && (x1 == y1)) w := by
  refine eqA_of Tryz.underlying114 (by kernel_rfl) ?_
  refine eqf_cons (by rfl) (by go_simp; rfl) (by go_simp; rfl) (by go_simp) ?_
  exact eqf_last (by rfl) (by go_simp; rfl) (by go_simp; rfl) (by go_simp)
attribute [local go_sem high] eqA_tid eqA_reg
theorem tid_beq (a b : Tid) : (a.node == b.node && (a.epoch == b.epoch && (a.seq == b.seq))) = decide (a = b) := by
  rw [Bool.eq_iff_iff]
  simp only [Bool.and_eq_true, beq_iff_eq, decide_eq_true_eq]
  constructor
  · rintro ⟨h1, h2, h3⟩; cases a; cases b; simp_all
  · rintro rfl; exact ⟨rfl, rfl, rfl⟩
theorem reg_bne (r : Reg) (a b : Int) : (!r.version == a || !r.value == b) = decide (r ≠ ⟨a, b⟩) := by
  rw [Bool.eq_iff_iff]
  cases r
  simp
theorem equal_tid (w : World) (a b : Tid) : (Op.equal 23 a.val b.val).run Tryz.prog w = .ok (decide (a = b)) w := by
  rw [← tid_beq]
  exact eqA_tid _ w _ _ _ _ _ _
theorem eql_tid (w : World) (a b : Tid) : (binOp .eql 23 a.val b.val).run Tryz.prog w = .ok (.bool (decide (a = b))) w := by
  show ((do let r ← Op.equal 23 a.val b.val; pure (Value.bool r) : Sem Value)).run Tryz.prog w = _
  simp [equal_tid]

/-! ### the names that were seen: a map of the call's own, block by block -/
def SeenMap (w : World) (b : Nat) (l : List Tid) : Prop :=
  ∃ es clock, w.heap[b]? = some (.map es clock) ∧ (es.toList.map fun e => (e.key, e.val)) = l.map fun t => (t.val, Value.bool true)
theorem SeenMap.lt {w : World} {b : Nat} {l : List Tid} (h : SeenMap w b l) : b < w.heap.size := by
  obtain ⟨es, clock, hb, _⟩ := h
  exact (Array.getElem?_eq_some_iff.1 hb).1
theorem SeenMap.keep {w w' : World} {b : Nat} {l : List Tid} (h : SeenMap w b l) (hk : w'.heap[b]? = w.heap[b]?) : SeenMap w' b l := by
  obtain ⟨es, clock, hb, h2⟩ := h
  exact ⟨es, clock, hk.trans hb, h2⟩
theorem SeenMap.below {w w' : World} {b : Nat} {l : List Tid} (h : SeenMap w b l) (hb : Below w.heap.size w w') : SeenMap w' b l := h.keep (hb.block b h.lt)

theorem findAsking_seen (w : World) (t : Tid) : ∀ (l : List MapEntry) (ts : List Tid) (i : Nat), (l.map fun e => (e.key, e.val)) = ts.map (fun t => (t.val, Value.bool true)) →
    (t ∈ ts ∧ ∃ j, (Instr.findAsking 23 t.val l i).run Tryz.prog w = .ok (some (j, .bool true)) w) ∨ (t ∉ ts ∧ (Instr.findAsking 23 t.val l i).run Tryz.prog w = .ok none w)
  | [], ts, i, h => by
    have : ts = [] := by simpa using h.symm
    subst this
    exact .inr ⟨by simp, rfl⟩
  | e :: es, [], i, h => by simp at h
  | e :: es, u :: us, i, h => by
    simp only [List.map_cons, List.cons.injEq, Prod.mk.injEq] at h
    obtain ⟨⟨hk, hv⟩, h⟩ := h
    have hrun : (Instr.findAsking 23 t.val (e :: es) i).run Tryz.prog w = if t = u then .ok (some (i, e.val)) w else (Instr.findAsking 23 t.val es (i + 1)).run Tryz.prog w := by
      rw [Instr.findAsking, hk]
      simp only [Sem.run_bind, equal_tid, Result.andThen_ok]
      by_cases e1 : t = u
      · subst e1; simp
      · simp [e1]
    rw [hrun]
    by_cases e1 : t = u
    · subst e1
      rw [if_pos rfl, hv]
      exact .inl ⟨List.mem_cons_self, i, rfl⟩
    · rw [if_neg e1]
      rcases findAsking_seen w t es us (i + 1) h with ⟨h1, j, h2⟩ | ⟨h1, h2⟩
      · exact .inl ⟨List.mem_cons_of_mem _ h1, j, h2⟩
      · exact .inr ⟨by simp [e1, h1], h2⟩
theorem findKey_seen (w : World) (t : Tid) (l : List MapEntry) (ts : List Tid) (h : (l.map fun e => (e.key, e.val)) = ts.map (fun t => (t.val, Value.bool true))) :
    (t ∈ ts ∧ ∃ j, (Instr.findKey 23 t.val l).run Tryz.prog w = .ok (some (j, .bool true)) w) ∨ (t ∉ ts ∧ (Instr.findKey 23 t.val l).run Tryz.prog w = .ok none w) := by
  cases l with
  | nil =>
    have : ts = [] := by simpa using h.symm
    subst this
    refine .inr ⟨by simp, ?_⟩
    simp [Instr.findKey, Instr.findNow, run_underlying Tryz.underlying23]
  | cons e es =>
    have hr : (Instr.findKey 23 t.val (e :: es)).run Tryz.prog w = (Instr.findAsking 23 t.val (e :: es) 0).run Tryz.prog w := by
      simp [Instr.findKey, Instr.findNow, Instr.sameNow, run_underlying Tryz.underlying23]
    rw [hr]
    exact findAsking_seen w t (e :: es) ts 0 h
theorem checkKey_tid (w : World) (t : Tid) (b : Bool) : (Instr.checkKey b 10000 23 t.val).run Tryz.prog w = .ok () w := by
  obtain ⟨x, y, z⟩ := t
  show (Instr.checkKey b 10000 23 (.agg #[.int .i64 x, .int .i64 y, .int .i64 z])).run Tryz.prog w = .ok () w
  cases b <;> kernel_rfl
theorem lookup_seen {w : World} {b : Nat} {l : List Tid} (h : SeenMap w b l) (t : Tid) : (Instr.lookup 45 (.map (some b)) t.val false).run Tryz.prog w = .ok (.bool (decide (t ∈ l))) w := by
  obtain ⟨es, clock, hb, he⟩ := h
  unfold Instr.lookup
  have hg : (getObj b).run Tryz.prog w = .ok (.map es clock) w := by simp [getObj, Sem.run, hb]
  rcases findKey_seen w t es.toList l he with ⟨h1, j, h2⟩ | ⟨h1, h2⟩
  · simp [run_underlying Tryz.underlying45, checkKey_tid, h2, h1, hg]
  · simp [run_underlying Tryz.underlying45, checkKey_tid, h2, h1, hg]
theorem update_seen {w : World} {b : Nat} {l : List Tid} (h : SeenMap w b l) (t : Tid) (ht : t ∉ l) :
    ∃ w', (Instr.mapUpdate 45 (.map (some b)) t.val (.bool true)).run Tryz.prog w = .ok () w' ∧ SeenMap w' b (l ++ [t]) ∧ w'.heap.size = w.heap.size ∧ (∀ k, k ≠ b → w'.heap[k]? = w.heap[k]?) ∧ w'.os = w.os ∧ w'.tape = w.tape ∧ w'.output = w.output := by
  obtain ⟨es, clock, hb, he⟩ := h
  have hg : (getObj b).run Tryz.prog w = .ok (.map es clock) w := by simp [getObj, Sem.run, hb]
  have hlt : b < w.heap.size := (Array.getElem?_eq_some_iff.1 hb).1
  rcases findKey_seen w t es.toList l he with ⟨h1, _⟩ | ⟨_, h2⟩
  · exact absurd h1 ht
  · refine ⟨{ w with heap := w.heap.setIfInBounds b (.map (es.push { key := t.val, val := .bool true, born := clock }) (clock + 1)) }, ?_, ⟨_, _, by simp [hlt]; exact ⟨rfl, rfl⟩, by simp [he]⟩, by simp, fun k hk => by simp [Array.getElem?_setIfInBounds_ne (Ne.symm hk)], rfl, rfl, rfl⟩
    unfold Instr.mapUpdate
    simp [run_underlying Tryz.underlying45, checkKey_tid, h2, hg, setObj, Sem.run, hb]

/-! ### the registers in memory -/
def Reg.vals (r : Reg) : List Value := [.int .i64 r.version, .int .i64 r.value]
structure RegsAt (w : World) (br bl bm : Nat) (rs : List Reg) (seen : List Tid) : Prop where
  hb : w.heap[br]? = some (.cells #[.slice (some ⟨bl, 0, none⟩) rs.length rs.length, .map (some bm)] 86 (0, 0))
  hl : w.heap[bl]? = some (.cells (rs.flatMap Reg.vals).toArray 114 (0, 0))
  hm : SeenMap w bm seen
  n1 : 0 < rs.length
  n2 : rs.length ≤ 16
theorem lt_of_heap {w : World} {k : Nat} {o : Obj} (h : w.heap[k]? = some o) : k < w.heap.size := (Array.getElem?_eq_some_iff.1 h).1
theorem RegsAt.below {w w' : World} {br bl bm : Nat} {rs : List Reg} {seen : List Tid} (h : RegsAt w br bl bm rs seen) (hb : Below w.heap.size w w') : RegsAt w' br bl bm rs seen :=
  ⟨(hb.block br (lt_of_heap h.hb)).trans h.hb, (hb.block bl (lt_of_heap h.hl)).trans h.hl, h.hm.below hb, h.n1, h.n2⟩
theorem cell_of_heap {w : World} {k j : Nat} {cs : Array Value} {t : TypeId} {v : Value} (h : w.heap[k]? = some (.cells cs t (0, 0))) (hj : cs[j]? = some v) : w.cell? ⟨k, j, none⟩ = some v := by
  simp [World.cell?, h, hj]
theorem free_of_heap {w : World} {k j : Nat} {cs : Array Value} {t : TypeId} (h : w.heap[k]? = some (.cells cs t (0, 0))) : w.frozen? ⟨k, j, none⟩ = false := by
  simp [World.frozen?, h]
theorem flat2 (rs : List Reg) : ∀ (j : Nat), j < rs.length → (rs.flatMap Reg.vals)[j * 2]? = some (.int .i64 (rs.getD j Reg.z).version) ∧ (rs.flatMap Reg.vals)[j * 2 + 1]? = some (.int .i64 (rs.getD j Reg.z).value) := by
  induction rs with
  | nil => intro j h; simp at h
  | cons r rs ih =>
    intro j hj
    cases j with
    | zero => simp [Reg.vals]
    | succ j =>
      have := ih j (by simpa using hj)
      rw [List.flatMap_cons]
      have e0 : (j + 1) * 2 = (Reg.vals r).length + j * 2 := by simp [Reg.vals]; omega
      have e1 : (j + 1) * 2 + 1 = (Reg.vals r).length + (j * 2 + 1) := by simp [Reg.vals]; omega
      rw [e1, e0, List.getElem?_append_right (by omega), List.getElem?_append_right (by omega), Nat.add_sub_cancel_left, Nat.add_sub_cancel_left]
      simpa using this
theorem RegsAt.c0 {w : World} {br bl bm : Nat} {rs : List Reg} {seen : List Tid} (h : RegsAt w br bl bm rs seen) : w.cell? ⟨br, 0, none⟩ = some (.slice (some ⟨bl, 0, none⟩) rs.length rs.length) := cell_of_heap h.hb (by simp)
theorem RegsAt.c1 {w : World} {br bl bm : Nat} {rs : List Reg} {seen : List Tid} (h : RegsAt w br bl bm rs seen) : w.cell? ⟨br, 1, none⟩ = some (.map (some bm)) := cell_of_heap h.hb (by simp)
theorem RegsAt.r0 {w : World} {br bl bm : Nat} {rs : List Reg} {seen : List Tid} (h : RegsAt w br bl bm rs seen) {j : Nat} (hj : j < rs.length) : w.cell? ⟨bl, j * 2, none⟩ = some (.int .i64 (rs.getD j Reg.z).version) := cell_of_heap h.hl (by simpa using (flat2 rs j hj).1)
theorem RegsAt.r1 {w : World} {br bl bm : Nat} {rs : List Reg} {seen : List Tid} (h : RegsAt w br bl bm rs seen) {j : Nat} (hj : j < rs.length) : w.cell? ⟨bl, j * 2 + 1, none⟩ = some (.int .i64 (rs.getD j Reg.z).value) := cell_of_heap h.hl (by simpa using (flat2 rs j hj).2)

set_option maxHeartbeats 1000000 in
set_option maxRecDepth 100000 in
theorem outside_any (br bl bm : Nat) (rs : List Reg) (seen : List Tid) (x : Item) (w : World) (H : RegsAt w br bl bm rs seen) :
    Calls Tryz.prog 43 #[.pointer (some ⟨br, 0, none⟩), .agg #[.int .i64 x.cell, .int .i64 x.version, .int .i64 x.value, .bool x.write, .int .i64 x.new]] w fun e w' => e = .returned (.bool (decide ((rs.length : Int) ≤ x.cell))) ∧ Below w.heap.size w w' := by
  have hbr := lt_of_heap H.hb
  have c0 := H.c0
  clear H
  generalize rs.length = n at c0
  go_enter Tryz.func43, Tryz.ntmps43
  go_wp2
  refine wp_region_bel (by kernel_rfl) (by kernel_rfl) (fun w1 hw1 => ?_)
  have q0 : w1.cell? ⟨w.heap.size, 0, none⟩ = some (.int .i64 x.cell) := by rw [hw1.out]; simp
  have q1 : w1.cell? ⟨w.heap.size, 1, none⟩ = some (.int .i64 x.version) := by rw [hw1.out]; simp
  have q2 : w1.cell? ⟨w.heap.size, 2, none⟩ = some (.int .i64 x.value) := by rw [hw1.out]; simp
  have q3 : w1.cell? ⟨w.heap.size, 3, none⟩ = some (.bool x.write) := by rw [hw1.out]; simp
  have q4 : w1.cell? ⟨w.heap.size, 4, none⟩ = some (.int .i64 x.new) := by rw [hw1.out]; simp
  have hz : w.heap.size < w1.heap.size := by rw [hw1.out]; simp
  have hb1 : Aside (Below w.heap.size w w1) := by rw [hw1.out]; exact below_alloc1 _ _
  have c0' : w1.cell? ⟨br, 0, none⟩ = _ := (hb1.out.cell (p := ⟨br, 0, none⟩) hbr).trans c0
  have hz0 : br < w1.heap.size := by have := hb1.out.size; omega
  repeat (first
    | (apply belSteps_plain
       · rfl
       · intro W hW
         obtain ⟨hc, hf⟩ := bcell hW
         go_simp
         first
           | exact rfl
           | exact ⟨rfl, hW⟩
       simp only [Act.put, List.setIfInBounds_toArray, List.set_cons_zero, List.set_cons_succ])
    | ((first | (apply belSteps_no; rfl; rfl; rfl) | (apply belSteps_never; rfl; rfl; rfl))
       simp only [Act.put, List.setIfInBounds_toArray, List.set_cons_zero, List.set_cons_succ])
    | (apply belSteps_yes
       · rfl
       · rfl
       · rfl
       · intro W hW
         obtain ⟨hc, hf⟩ := bcell hW
         go_simp
         first
           | exact rfl
           | exact ⟨rfl, hW⟩
       simp only [Act.put, List.setIfInBounds_toArray, List.set_cons_zero, List.set_cons_succ]))
  refine belSteps_nil ⟨rfl, fun W hW => ?_⟩
  go_wp2
  go_ret
  exact ⟨rfl, below_tr hb1.out hW⟩

set_option maxHeartbeats 1000000 in
set_option maxRecDepth 100000 in
theorem other_any (br bl bm : Nat) (rs : List Reg) (seen : List Tid) (x : Item) (w : World) (H : RegsAt w br bl bm rs seen) (hx0 : 0 ≤ x.cell) (hx1 : x.cell < rs.length) :
    Calls Tryz.prog 44 #[.pointer (some ⟨br, 0, none⟩), .agg #[.int .i64 x.cell, .int .i64 x.version, .int .i64 x.value, .bool x.write, .int .i64 x.new]] w fun e w' => e = .returned (.bool (decide (rs.getD x.cell.toNat Reg.z ≠ ⟨x.version, x.value⟩))) ∧ Below w.heap.size w w' := by
  have hbr := lt_of_heap H.hb
  have hbl := lt_of_heap H.hl
  have c0 := H.c0
  have hx2 : x.cell.toNat < rs.length := by omega
  have r0 := H.r0 hx2
  have r1 := H.r1 hx2
  clear H
  generalize rs.getD x.cell.toNat Reg.z = r at r0 r1 ⊢
  generalize rs.length = n at c0 hx1
  go_enter Tryz.func44, Tryz.ntmps44
  go_wp2
  refine wp_region_bel (by kernel_rfl) (by kernel_rfl) (fun w1 hw1 => ?_)
  have q0 : w1.cell? ⟨w.heap.size, 0, none⟩ = some (.int .i64 x.cell) := by rw [hw1.out]; simp
  have q1 : w1.cell? ⟨w.heap.size, 1, none⟩ = some (.int .i64 x.version) := by rw [hw1.out]; simp
  have q2 : w1.cell? ⟨w.heap.size, 2, none⟩ = some (.int .i64 x.value) := by rw [hw1.out]; simp
  have q3 : w1.cell? ⟨w.heap.size, 3, none⟩ = some (.bool x.write) := by rw [hw1.out]; simp
  have q4 : w1.cell? ⟨w.heap.size, 4, none⟩ = some (.int .i64 x.new) := by rw [hw1.out]; simp
  have hz : w.heap.size < w1.heap.size := by rw [hw1.out]; simp
  have hb1 : Aside (Below w.heap.size w w1) := by rw [hw1.out]; exact below_alloc1 _ _
  have c0' : w1.cell? ⟨br, 0, none⟩ = _ := (hb1.out.cell (p := ⟨br, 0, none⟩) hbr).trans c0
  have r0' : w1.cell? ⟨bl, x.cell.toNat * 2, none⟩ = _ := (hb1.out.cell (p := ⟨bl, _, none⟩) hbl).trans r0
  have r1' : w1.cell? ⟨bl, x.cell.toNat * 2 + 1, none⟩ = _ := (hb1.out.cell (p := ⟨bl, _, none⟩) hbl).trans r1
  have hz0 : br < w1.heap.size := by have := hb1.out.size; omega
  have hz1 : bl < w1.heap.size := by have := hb1.out.size; omega
  repeat (first
    | (apply belSteps_plain
       · rfl
       · intro W hW
         obtain ⟨hc, hf⟩ := bcell hW
         go_simp
         first
           | exact rfl
           | exact ⟨rfl, hW⟩
       simp only [Act.put, List.setIfInBounds_toArray, List.set_cons_zero, List.set_cons_succ])
    | ((first | (apply belSteps_no; rfl; rfl; rfl) | (apply belSteps_never; rfl; rfl; rfl))
       simp only [Act.put, List.setIfInBounds_toArray, List.set_cons_zero, List.set_cons_succ])
    | (apply belSteps_yes
       · rfl
       · rfl
       · rfl
       · intro W hW
         obtain ⟨hc, hf⟩ := bcell hW
         go_simp
         first
           | exact rfl
           | exact ⟨rfl, hW⟩
       simp only [Act.put, List.setIfInBounds_toArray, List.set_cons_zero, List.set_cons_succ]))
  refine belSteps_nil ⟨rfl, fun W hW => ?_⟩
  go_wp2
  go_ret
  exact ⟨by rw [← reg_bne]; rfl, below_tr hb1.out hW⟩

/-! ### may -/
theorem inB_one {lo hi a : Int} (h : inB lo hi [a] = true) : lo ≤ a ∧ a ≤ hi := by simpa [inB] using h
theorem rightItems_cell {xs : List Item} (h : rightItems xs = true) {j : Nat} (hj : j < xs.length) : 0 ≤ (xs.getD j Item.z).cell := by
  unfold rightItems at h
  rw [Bool.and_eq_true] at h
  have h1 := List.all_eq_true.1 h.1 j (List.mem_range.2 hj)
  unfold okItem Item.right at h1
  simp only [Bool.and_eq_true] at h1
  exact (inB_one h1.1.1.1).1
def mayE (rs : List Reg) (seen : List Tid) (c : ACommit) : Int :=
  if (!c.tid.right || (decide (0 < c.items.length) && !rightItems c.items)) = true then 1
  else if (c.items.any fun x => decide ((rs.length : Int) ≤ x.cell)) = true then 1
  else if c.tid ∈ seen then 9
  else if (c.items.any fun x => decide (rs.getD x.cell.toNat Reg.z ≠ ⟨x.version, x.value⟩)) = true then 13 else 0

theorem any_items (p : Item → Bool) (xs : List Item) : anyIdx (fun j => p (xs.getD j Item.z)) xs.length = xs.any p := by
  rw [Bool.eq_iff_iff, anyIdx_iff, List.any_eq_true]
  constructor
  · rintro ⟨k, hk, h⟩
    rw [List.getD_eq_getElem?_getD, List.getElem?_eq_getElem hk] at h
    exact ⟨_, List.getElem_mem hk, h⟩
  · rintro ⟨x, hx, h⟩
    obtain ⟨k, hk, rfl⟩ := List.mem_iff_getElem.1 hx
    exact ⟨k, hk, by rw [List.getD_eq_getElem?_getD, List.getElem?_eq_getElem hk]; exact h⟩

set_option maxHeartbeats 4000000 in
set_option maxRecDepth 100000 in
theorem may_any (br bl bm : Nat) (rs : List Reg) (seen : List Tid) (c : ACommit) (A : Option Addr) (cap : Nat) (w : World) (H : RegsAt w br bl bm rs seen) (hr : kItem.C w A c.items.length c.items) :
    Calls Tryz.prog 22 #[.pointer (some ⟨br, 0, none⟩), .agg #[.int .i64 c.tid.node, .int .i64 c.tid.epoch, .int .i64 c.tid.seq, .slice A c.items.length cap, .int .i64 c.at_]] w fun e w' => e = .returned (.int .i64 (mayE rs seen c)) ∧ Below w.heap.size w w' := by
  obtain ⟨t, xs, at_⟩ := c
  have egO : ∀ args w, (callFunc 43 args).run Tryz.prog w = .ok (.enter 43 args) w := enters1 Tryz.func43 (by kernel_rfl) rfl
  have egT : ∀ args w, (callFunc 44 args).run Tryz.prog w = .ok (.enter 44 args) w := enters1 Tryz.func44 (by kernel_rfl) rfl
  have HR := Lib.hid hr
  have HS := Lib.hid H
  have hbr : br < w.heap.size := lt_of_heap H.hb
  clear hr H
  go_enter Tryz.func22, Tryz.ntmps22
  go_wp2_with (fail)
  refine calls_gen fun W0 hW0 => ?_
  have bW0 : Below w.heap.size w W0 := by rw [hW0.out]; exact below_alloc1 _ _
  have q0 : W0.cell? ⟨w.heap.size, 0, none⟩ = some (.int .i64 t.node) := by rw [hW0.out]; simp
  have q1 : W0.cell? ⟨w.heap.size, 1, none⟩ = some (.int .i64 t.epoch) := by rw [hW0.out]; simp
  have q2 : W0.cell? ⟨w.heap.size, 2, none⟩ = some (.int .i64 t.seq) := by rw [hW0.out]; simp
  have q3 : W0.cell? ⟨w.heap.size, 3, none⟩ = some (.slice A xs.length cap) := by rw [hW0.out]; simp
  have zW0 : w.heap.size < W0.heap.size := by rw [hW0.out]; simp
  refine (rightTid_any t W0).mono ?_
  rintro e w1 ⟨rfl, bw1⟩
  obtain ⟨cw1, fw1⟩ := bcell bw1
  have zw1 : w.heap.size < w1.heap.size := by have := bw1.size; omega
  cases hrt : t.right with
  | false =>
    go_wp2
    go_ret
    exact ⟨by simp [mayE, hrt], below_tr bW0 bw1⟩
  | true =>
    have hlt0 : (0 : Int) ≤ 0 := by omega
    clear hlt0
    by_cases hlen : 0 < xs.length
    · have hlz : decide ((0 : Int) < (xs.length : Int)) = true := decide_eq_true (by omega)
      go_wp2_with (fail)
      refine (rightItems_any A cap xs w1 (Kd.C_below HR.out (below_tr bW0 bw1))).mono ?_
      rintro e w2 ⟨rfl, bw2⟩
      obtain ⟨cw2, fw2⟩ := bcell bw2
      have zw2 : w.heap.size < w2.heap.size := by have := bw2.size; omega
      cases hri : rightItems xs with
      | false =>
        go_wp2
        go_ret
        exact ⟨by simp [mayE, hrt, hri, hlen], below_tr (below_tr bW0 bw1) bw2⟩
      | true =>
        have HB : Aside (Below w.heap.size w w2) := below_tr (below_tr bW0 bw1) bw2
        have hok : Aside ((!t.right || (decide (0 < xs.length) && !rightItems xs)) = false) := by show _ = false; rw [hrt, hri]; simp
        have hrange : Aside (∀ j, j < xs.length → 0 ≤ (xs.getD j Item.z).cell) := fun j hj => rightItems_cell hri hj
        go_wp2_with (fail)
        refine (containsFuncItem 43 #[.pointer (some ⟨br, 0, none⟩)] #[] egO A xs.length cap _ (fun j => decide ((rs.length : Int) ≤ (xs.getD j Item.z).cell)) w2 (rowItem (Kd.C_below HR.out HB.out)) (fun j W hj hW => outside_any br bl bm rs seen (xs.getD j Item.z) W (HS.out.below (below_tr HB.out hW)))).mono ?_
        rintro e w3 ⟨rfl, bw3⟩
        obtain ⟨cw3, fw3⟩ := bcell bw3
        rw [any_items (fun x => decide ((rs.length : Int) ≤ x.cell))]
        have HB3 : Aside (Below w.heap.size w w3) := below_tr HB.out bw3
        have zw3 : w.heap.size < w3.heap.size := by have := bw3.size; omega
        cases ho : (xs.any fun x => decide ((rs.length : Int) ≤ x.cell)) with
        | true =>
          go_wp2
          go_ret
          exact ⟨by simp only [mayE, hok.out, ho]; rfl, HB3.out⟩
        | false =>
          go_wp2_with (fail)
          refine wp_region_bel (by kernel_rfl) (by kernel_rfl) (fun w4 hw4 => ?_)
          have bw4 : Below w3.heap.size w3 w4 := by rw [hw4.out]; exact Below.refl _ _
          obtain ⟨cw4, fw4⟩ := bcell bw4
          have HB4 : Aside (Below w.heap.size w w4) := below_tr HB3.out bw4
          have zw4 : w.heap.size < w4.heap.size := by have := bw4.size; omega
          have zb4 : br < w4.heap.size := by omega
          have HS4 : Aside (RegsAt w4 br bl bm rs seen) := HS.out.below HB4.out
          have r0 := HS4.out.c0
          have r1 := HS4.out.c1
          repeat (first
            | (apply belSteps_plain
               · rfl
               · intro W hW
                 obtain ⟨hc, hf⟩ := bcell hW; have hlk : (Instr.lookup 45 (.map (some bm)) (.agg #[.int .i64 t.node, .int .i64 t.epoch, .int .i64 t.seq]) false).run Tryz.prog W = _ := lookup_seen (HS4.out.below hW).hm t
                 go_simp
                 first
                   | exact rfl
                   | exact ⟨rfl, hW⟩
               simp only [Act.put, List.setIfInBounds_toArray, List.set_cons_zero, List.set_cons_succ])
            | ((first | (apply belSteps_no; rfl; rfl; rfl) | (apply belSteps_never; rfl; rfl; rfl))
               simp only [Act.put, List.setIfInBounds_toArray, List.set_cons_zero, List.set_cons_succ])
            | (apply belSteps_yes
               · rfl
               · rfl
               · rfl
               · intro W hW
                 obtain ⟨hc, hf⟩ := bcell hW; have hlk : (Instr.lookup 45 (.map (some bm)) (.agg #[.int .i64 t.node, .int .i64 t.epoch, .int .i64 t.seq]) false).run Tryz.prog W = _ := lookup_seen (HS4.out.below hW).hm t
                 go_simp
                 first
                   | exact rfl
                   | exact ⟨rfl, hW⟩
               simp only [Act.put, List.setIfInBounds_toArray, List.set_cons_zero, List.set_cons_succ]))
          refine belSteps_nil ⟨rfl, fun W hW => ?_⟩
          have HBW : Aside (Below w.heap.size w W) := below_tr HB4.out hW
          have zW : w.heap.size < W.heap.size := by have := hW.size; omega
          obtain ⟨cW, fW⟩ := bcell hW
          clear r0 r1
          by_cases hs : t ∈ seen
          · have hsd : decide (t ∈ seen) = true := decide_eq_true hs
            go_wp2
            go_ret
            exact ⟨by simp only [mayE, hok.out, ho, hs]; rfl, HBW.out⟩
          · have hsd : decide (t ∈ seen) = false := decide_eq_false hs
            go_wp2_with (fail)
            have hin : ∀ j, j < xs.length → 0 ≤ (xs.getD j Item.z).cell ∧ (xs.getD j Item.z).cell < rs.length := fun j hj => ⟨hrange.out j hj, by
              have := List.any_eq_false.1 ho (xs.getD j Item.z) (by rw [List.getD_eq_getElem?_getD, List.getElem?_eq_getElem hj]; exact List.getElem_mem hj)
              simpa using this⟩
            refine (containsFuncItem 44 #[.pointer (some ⟨br, 0, none⟩)] #[] egT A xs.length cap _ (fun j => decide (rs.getD (xs.getD j Item.z).cell.toNat Reg.z ≠ ⟨(xs.getD j Item.z).version, (xs.getD j Item.z).value⟩)) W (rowItem (Kd.C_below HR.out HBW.out)) (fun j W2 hj hW2 => other_any br bl bm rs seen (xs.getD j Item.z) W2 (HS.out.below (below_tr HBW.out hW2)) (hin j hj).1 (hin j hj).2)).mono ?_
            rintro e w5 ⟨rfl, bw5⟩
            obtain ⟨cw5, fw5⟩ := bcell bw5
            rw [any_items (fun x => decide (rs.getD x.cell.toNat Reg.z ≠ ⟨x.version, x.value⟩))]
            cases hq : (xs.any fun x => decide (rs.getD x.cell.toNat Reg.z ≠ ⟨x.version, x.value⟩)) with
            | true =>
              go_wp2
              go_ret
              exact ⟨by simp only [mayE, hok.out, ho, hs, hq]; rfl, below_tr HBW.out bw5⟩
            | false =>
              go_wp2
              go_ret
              exact ⟨by simp only [mayE, hok.out, ho, hs, hq]; rfl, below_tr HBW.out bw5⟩
    · have hlz : decide ((0 : Int) < (xs.length : Int)) = false := decide_eq_false (by omega)
      have HB : Aside (Below w.heap.size w w1) := below_tr bW0 bw1
      have hok : Aside ((!t.right || (decide (0 < xs.length) && !rightItems xs)) = false) := by show _ = false; rw [hrt, decide_eq_false hlen]; simp
      have hrange : Aside (∀ j, j < xs.length → 0 ≤ (xs.getD j Item.z).cell) := fun j hj => absurd hj (by omega)
      go_wp2_with (fail)
      refine (containsFuncItem 43 #[.pointer (some ⟨br, 0, none⟩)] #[] egO A xs.length cap _ (fun j => decide ((rs.length : Int) ≤ (xs.getD j Item.z).cell)) w1 (rowItem (Kd.C_below HR.out HB.out)) (fun j W hj hW => outside_any br bl bm rs seen (xs.getD j Item.z) W (HS.out.below (below_tr HB.out hW)))).mono ?_
      rintro e w3 ⟨rfl, bw3⟩
      obtain ⟨cw3, fw3⟩ := bcell bw3
      rw [any_items (fun x => decide ((rs.length : Int) ≤ x.cell))]
      have HB3 : Aside (Below w.heap.size w w3) := below_tr HB.out bw3
      have zw3 : w.heap.size < w3.heap.size := by have := bw3.size; omega
      cases ho : (xs.any fun x => decide ((rs.length : Int) ≤ x.cell)) with
      | true =>
        go_wp2
        go_ret
        exact ⟨by simp only [mayE, hok.out, ho]; rfl, HB3.out⟩
      | false =>
        go_wp2_with (fail)
        refine wp_region_bel (by kernel_rfl) (by kernel_rfl) (fun w4 hw4 => ?_)
        have bw4 : Below w3.heap.size w3 w4 := by rw [hw4.out]; exact Below.refl _ _
        obtain ⟨cw4, fw4⟩ := bcell bw4
        have HB4 : Aside (Below w.heap.size w w4) := below_tr HB3.out bw4
        have zw4 : w.heap.size < w4.heap.size := by have := bw4.size; omega
        have zb4 : br < w4.heap.size := by omega
        have HS4 : Aside (RegsAt w4 br bl bm rs seen) := HS.out.below HB4.out
        have r0 := HS4.out.c0
        have r1 := HS4.out.c1
        repeat (first
          | (apply belSteps_plain
             · rfl
             · intro W hW
               obtain ⟨hc, hf⟩ := bcell hW; have hlk : (Instr.lookup 45 (.map (some bm)) (.agg #[.int .i64 t.node, .int .i64 t.epoch, .int .i64 t.seq]) false).run Tryz.prog W = _ := lookup_seen (HS4.out.below hW).hm t
               go_simp
               first
                 | exact rfl
                 | exact ⟨rfl, hW⟩
             simp only [Act.put, List.setIfInBounds_toArray, List.set_cons_zero, List.set_cons_succ])
          | ((first | (apply belSteps_no; rfl; rfl; rfl) | (apply belSteps_never; rfl; rfl; rfl))
             simp only [Act.put, List.setIfInBounds_toArray, List.set_cons_zero, List.set_cons_succ])
          | (apply belSteps_yes
             · rfl
             · rfl
             · rfl
             · intro W hW
               obtain ⟨hc, hf⟩ := bcell hW; have hlk : (Instr.lookup 45 (.map (some bm)) (.agg #[.int .i64 t.node, .int .i64 t.epoch, .int .i64 t.seq]) false).run Tryz.prog W = _ := lookup_seen (HS4.out.below hW).hm t
               go_simp
               first
                 | exact rfl
                 | exact ⟨rfl, hW⟩
             simp only [Act.put, List.setIfInBounds_toArray, List.set_cons_zero, List.set_cons_succ]))
        refine belSteps_nil ⟨rfl, fun W hW => ?_⟩
        have HBW : Aside (Below w.heap.size w W) := below_tr HB4.out hW
        have zW : w.heap.size < W.heap.size := by have := hW.size; omega
        obtain ⟨cW, fW⟩ := bcell hW
        clear r0 r1
        by_cases hs : t ∈ seen
        · have hsd : decide (t ∈ seen) = true := decide_eq_true hs
          go_wp2
          go_ret
          exact ⟨by simp only [mayE, hok.out, ho, hs]; rfl, HBW.out⟩
        · have hsd : decide (t ∈ seen) = false := decide_eq_false hs
          go_wp2_with (fail)
          have hin : ∀ j, j < xs.length → 0 ≤ (xs.getD j Item.z).cell ∧ (xs.getD j Item.z).cell < rs.length := fun j hj => ⟨hrange.out j hj, by
            have := List.any_eq_false.1 ho (xs.getD j Item.z) (by rw [List.getD_eq_getElem?_getD, List.getElem?_eq_getElem hj]; exact List.getElem_mem hj)
            simpa using this⟩
          refine (containsFuncItem 44 #[.pointer (some ⟨br, 0, none⟩)] #[] egT A xs.length cap _ (fun j => decide (rs.getD (xs.getD j Item.z).cell.toNat Reg.z ≠ ⟨(xs.getD j Item.z).version, (xs.getD j Item.z).value⟩)) W (rowItem (Kd.C_below HR.out HBW.out)) (fun j W2 hj hW2 => other_any br bl bm rs seen (xs.getD j Item.z) W2 (HS.out.below (below_tr HBW.out hW2)) (hin j hj).1 (hin j hj).2)).mono ?_
          rintro e w5 ⟨rfl, bw5⟩
          obtain ⟨cw5, fw5⟩ := bcell bw5
          rw [any_items (fun x => decide (rs.getD x.cell.toNat Reg.z ≠ ⟨x.version, x.value⟩))]
          cases hq : (xs.any fun x => decide (rs.getD x.cell.toNat Reg.z ≠ ⟨x.version, x.value⟩)) with
          | true =>
            go_wp2
            go_ret
            exact ⟨by simp only [mayE, hok.out, ho, hs, hq]; rfl, below_tr HBW.out bw5⟩
          | false =>
            go_wp2
            go_ret
            exact ⟨by simp only [mayE, hok.out, ho, hs, hq]; rfl, below_tr HBW.out bw5⟩

/-! ### do -/
def setReg (rs : List Reg) (x : Item) : List Reg := if x.write = true then rs.set x.cell.toNat ⟨x.version + 1, x.new⟩ else rs
def doRegs (rs : List Reg) (xs : List Item) : List Reg := xs.foldl setReg rs
theorem setReg_length (rs : List Reg) (x : Item) : (setReg rs x).length = rs.length := by unfold setReg; split <;> simp
theorem doRegs_length : ∀ (xs : List Item) (rs : List Reg), (doRegs rs xs).length = rs.length
  | [], _ => rfl
  | x :: xs, rs => by
    show (doRegs (setReg rs x) xs).length = _
    rw [doRegs_length xs, setReg_length]
theorem doRegs_take (rs : List Reg) (xs : List Item) (k : Nat) (h : k < xs.length) : doRegs rs (xs.take (k + 1)) = setReg (doRegs rs (xs.take k)) (xs.getD k Item.z) := by
  unfold doRegs
  rw [List.take_succ_eq_append_getElem h, List.foldl_append, List.getD_eq_getElem?_getD, List.getElem?_eq_getElem h]
  rfl
theorem flat_set (r : Reg) : ∀ (rs : List Reg) (j : Nat), j < rs.length → ((rs.flatMap Reg.vals).set (j * 2) (.int .i64 r.version)).set (j * 2 + 1) (.int .i64 r.value) = (rs.set j r).flatMap Reg.vals
  | q :: rs, 0, _ => by simp [Reg.vals]
  | q :: rs, j + 1, h => by
    rw [List.set_cons_succ, List.flatMap_cons, List.flatMap_cons, ← flat_set r rs j (by simpa using h)]
    have e0 : (j + 1) * 2 = j * 2 + 1 + 1 := by omega
    rw [e0]
    simp [Reg.vals]
theorem heap_setCell_self {w : World} {k j : Nat} {cs : Array Value} {t : TypeId} {v : Value} (h : w.heap[k]? = some (.cells cs t (0, 0))) : (w.setCell ⟨k, j, none⟩ v).heap[k]? = some (.cells (cs.setIfInBounds j v) t (0, 0)) := by
  have hlt := lt_of_heap h
  have he : w.heap[k] = .cells cs t (0, 0) := by
    have := Array.getElem?_eq_getElem hlt
    rw [h] at this
    exact (Option.some.inj this).symm
  simp [World.setCell, Array.getElem?_modify, h]
theorem RegsAt.store {w : World} {br bl bm : Nat} {rs : List Reg} {seen : List Tid} (h : RegsAt w br bl bm rs seen) {j : Nat} (hj : j < rs.length) (r : Reg) :
    RegsAt ((w.setCell ⟨bl, j * 2, none⟩ (.int .i64 r.version)).setCell ⟨bl, j * 2 + 1, none⟩ (.int .i64 r.value)) br bl bm (rs.set j r) seen := by
  have hne : br ≠ bl := by
    rintro rfl
    have := h.hb.symm.trans h.hl
    injection this with this
    injection this with _ ht
    exact absurd ht (by decide)
  have hne2 : bm ≠ bl := by
    rintro rfl
    obtain ⟨es, clock, hb, _⟩ := h.hm
    rw [h.hl] at hb
    cases hb
  have keep : ∀ k, k ≠ bl → ((w.setCell ⟨bl, j * 2, none⟩ (.int .i64 r.version)).setCell ⟨bl, j * 2 + 1, none⟩ (.int .i64 r.value)).heap[k]? = w.heap[k]? := fun k hk => by
    rw [Below.heap_setCell _ _ _ _ hk, Below.heap_setCell _ _ _ _ hk]
  refine ⟨?_, ?_, h.hm.keep (keep bm hne2), by simpa using h.n1, by simpa using h.n2⟩
  · rw [keep br hne, List.length_set]; exact h.hb
  · rw [heap_setCell_self (heap_setCell_self h.hl), ← flat_set r rs j hj]
    simp
theorem cell_heap {w w' : World} {k o : Nat} (h : w'.heap[k]? = w.heap[k]?) : w'.cell? ⟨k, o, none⟩ = w.cell? ⟨k, o, none⟩ := by simp [World.cell?, h]
theorem RegsAt.ne {w : World} {br bl bm : Nat} {rs : List Reg} {seen : List Tid} (h : RegsAt w br bl bm rs seen) : br ≠ bm ∧ bl ≠ bm ∧ br ≠ bl := by
  obtain ⟨es, clock, hb, _⟩ := h.hm
  refine ⟨?_, ?_, ?_⟩
  · rintro rfl
    rw [h.hb] at hb
    cases hb
  · rintro rfl
    rw [h.hl] at hb
    cases hb
  · rintro rfl
    have := h.hb.symm.trans h.hl
    injection this with this
    injection this with _ ht
    exact absurd ht (by decide)
theorem below_setCell {w0 w : World} (h : Below w0.heap.size w0 w) {k : Nat} (hk : w0.heap.size ≤ k) (j : Nat) (v : Value) : Below w0.heap.size w0 (w.setCell ⟨k, j, none⟩ v) := h.setCell hk _

set_option maxHeartbeats 4000000 in
set_option maxRecDepth 100000 in
theorem do_any (br bl bm : Nat) (rs : List Reg) (seen : List Tid) (c : ACommit) (A : Option Addr) (cap : Nat) (w0 w : World) (H0 : Below w0.heap.size w0 w) (hbl : w0.heap.size ≤ bl) (hbm : w0.heap.size ≤ bm) (H : RegsAt w br bl bm rs seen) (hr : kItem.C w0 A c.items.length c.items)
    (ht : c.tid ∉ seen) (hin : ∀ j, j < c.items.length → 0 ≤ (c.items.getD j Item.z).cell ∧ (c.items.getD j Item.z).cell < rs.length ∧ 0 ≤ (c.items.getD j Item.z).version ∧ (c.items.getD j Item.z).version ≤ 1099511627776) :
    Calls Tryz.prog 23 #[.pointer (some ⟨br, 0, none⟩), .agg #[.int .i64 c.tid.node, .int .i64 c.tid.epoch, .int .i64 c.tid.seq, .slice A c.items.length cap, .int .i64 c.at_]] w fun e w' => e = .returned (.tuple #[]) ∧ Below w0.heap.size w0 w' ∧ RegsAt w' br bl bm (doRegs rs c.items) (seen ++ [c.tid]) := by
  obtain ⟨t, xs, at_⟩ := c
  have HR := Lib.hid hr
  have HS := Lib.hid H
  have H00 := Lib.hid H0
  have HIN := Lib.hid hin
  have HT := Lib.hid ht
  have hbr : br < w.heap.size := lt_of_heap H.hb
  have hbm2 : bm < w.heap.size := H.hm.lt
  have hxl : xs.length ≤ 9223372036854775807 := hr.2.1
  clear hr H H0 hin ht
  go_enter Tryz.func23, Tryz.ntmps23
  go_wp2
  refine wp_region_tail 6 (by kernel_rfl) (by kernel_rfl) (by kernel_rfl) (fun w1 hw1 => ?_)
  have q0 : w1.cell? ⟨w.heap.size, 0, none⟩ = some (.int .i64 t.node) := by rw [hw1.out]; simp
  have q1 : w1.cell? ⟨w.heap.size, 1, none⟩ = some (.int .i64 t.epoch) := by rw [hw1.out]; simp
  have q2 : w1.cell? ⟨w.heap.size, 2, none⟩ = some (.int .i64 t.seq) := by rw [hw1.out]; simp
  have q3 : w1.cell? ⟨w.heap.size, 3, none⟩ = some (.slice A xs.length cap) := by rw [hw1.out]; simp
  have z1 : w.heap.size < w1.heap.size := by rw [hw1.out]; simp
  have z2 : br < w1.heap.size := by omega
  have bw1 : Below w.heap.size w w1 := by rw [hw1.out]; exact below_alloc1 _ _
  have HS1 : Aside (RegsAt w1 br bl bm rs seen) := HS.out.below bw1
  have r1 := HS1.out.c1
  repeat (first
    | (apply belSteps_plain
       · rfl
       · intro W hW
         obtain ⟨hc, hf⟩ := bcell hW
         go_simp
         first
           | exact rfl
           | exact ⟨rfl, hW⟩
       simp only [Act.put, List.setIfInBounds_toArray, List.set_cons_zero, List.set_cons_succ])
    | ((first | (apply belSteps_no; rfl; rfl; rfl) | (apply belSteps_never; rfl; rfl; rfl))
       simp only [Act.put, List.setIfInBounds_toArray, List.set_cons_zero, List.set_cons_succ])
    | (apply belSteps_yes
       · rfl
       · rfl
       · rfl
       · intro W hW
         obtain ⟨hc, hf⟩ := bcell hW
         go_simp
         first
           | exact rfl
           | exact ⟨rfl, hW⟩
       simp only [Act.put, List.setIfInBounds_toArray, List.set_cons_zero, List.set_cons_succ]))
  refine belSteps_stop ⟨rfl, fun W hW => ?_⟩
  obtain ⟨w2, hup, hs2, hsz2, hk2, ho2, ht2, hu2⟩ := update_seen (HS1.out.below hW).hm t HT.out
  have hup' : (Instr.mapUpdate 45 (.map (some bm)) (.agg #[.int .i64 t.node, .int .i64 t.epoch, .int .i64 t.seq]) (.bool true)).run Tryz.prog W = _ := hup
  clear hup
  have hne := HS1.out.ne
  have q3W : W.cell? ⟨w.heap.size, 3, none⟩ = some (.slice A xs.length cap) := (hW.cell (p := ⟨w.heap.size, 3, none⟩) z1).trans q3
  have q32 : w2.cell? ⟨w.heap.size, 3, none⟩ = some (.slice A xs.length cap) := (cell_heap (hk2 _ (by omega))).trans q3W
  have HBW : Aside (Below w0.heap.size w0 W) := (H00.out.trans ((bw1.mono (H00.out.size)))).trans (hW.mono (by have := H00.out.size; have := bw1.size; omega))
  have HB2 : Aside (Below w0.heap.size w0 w2) := ⟨ho2.trans HBW.out.os, ht2.trans HBW.out.tape, hu2.trans HBW.out.output, by rw [hsz2]; exact HBW.out.size, fun k hk => (hk2 k (by omega)).trans (HBW.out.block k hk)⟩
  have HSW := HS1.out.below hW
  have HS2 : Aside (RegsAt w2 br bl bm rs (seen ++ [t])) := ⟨(hk2 br hne.1).trans HSW.hb, (hk2 bl hne.2.1).trans HSW.hl, hs2, HSW.n1, HSW.n2⟩
  clear hk2 ho2 ht2 hu2 hs2 HSW q0 q1 q2 q3 r1 hne q3W
  generalize hxn : xs.length = n at q32 hxl
  have HL := Lib.hid hxn
  clear hxn
  go_wp2
  go_loopg [15] n (fun gg s15 wr => ∃ kk : Nat, kk ≤ n ∧ n - kk ≤ gg ∧ s15 = .int .i64 kk ∧ Aside (Below w0.heap.size w0 wr) ∧ Aside (RegsAt wr br bl bm (doRegs rs (xs.take kk)) (seen ++ [t])))
  case atStart => exact ⟨0, Nat.zero_le _, by omega, rfl, HB2, by simpa [doRegs] using HS2⟩
  case round =>
    obtain ⟨kk, hkk, hg, rfl, BR, RR⟩ := hrel
    by_cases hlt : kk < n
    · have hltz : (kk : Int) < (n : Int) := by omega
      obtain ⟨b, o, hA, hb, h0, h1, h2, h3, h4⟩ := kItem_at (Kd.C_below HR.out BR.out) kk (by show kk < xs.length; rw [HL.out]; exact hlt)
      subst hA
      obtain ⟨hx0, hx1, hx2, hx3⟩ := HIN.out kk (by show kk < xs.length; rw [HL.out]; exact hlt)
      have hstep := doRegs_take rs xs kk (by rw [HL.out]; exact hlt)
      generalize hx : xs.getD kk Item.z = x at h0 h1 h2 h3 h4 hx0 hx1 hx2 hx3 hstep
      have HST := Lib.hid hstep
      clear hx hstep
      cases hwr : x.write with
      | false =>
        rw [hwr] at h3
        go_wp2
        go_roundg (n - (kk + 1))
        case measure => omega
        case rel =>
          refine ⟨kk + 1, by omega, by omega, by go_num, (show Aside _ from BR.out.trans ((below_alloc1 wr _).mono BR.out.size)), (show Aside _ from ?_)⟩
          rw [HST.out]
          unfold setReg
          rw [hwr]
          exact RR.out.below (below_alloc1 _ _)
      | true =>
        rw [hwr] at h3
        go_wp2
        refine wp_region_tail 13 (by kernel_rfl) (by kernel_rfl) (by kernel_rfl) (fun w3 hw3 => ?_)
        have q0 : w3.cell? ⟨wr.heap.size, 0, none⟩ = some (.int .i64 x.cell) := by rw [hw3.out]; simp
        have q1 : w3.cell? ⟨wr.heap.size, 1, none⟩ = some (.int .i64 x.version) := by rw [hw3.out]; simp
        have q4 : w3.cell? ⟨wr.heap.size, 4, none⟩ = some (.int .i64 x.new) := by rw [hw3.out]; simp
        have z3 : wr.heap.size < w3.heap.size := by rw [hw3.out]; simp
        have bw3 : Below wr.heap.size wr w3 := by rw [hw3.out]; exact below_alloc1 _ _
        have hlen : (doRegs rs (xs.take kk)).length = rs.length := doRegs_length _ _
        have R3 : Aside (RegsAt w3 br bl bm (doRegs rs (xs.take kk)) (seen ++ [t])) := RR.out.below bw3
        have r0 := R3.out.c0
        rw [hlen] at r0
        have hbl3 : bl < w3.heap.size := lt_of_heap R3.out.hl
        have hbr3 : br < w3.heap.size := lt_of_heap R3.out.hb
        have HLEN := Lib.hid hlen
        clear hlen h0 h1 h2 h3 h4
        have hwv : IntKind.i64.wrap (x.version + 1) = x.version + 1 := IntWalk.i64_in _ (by omega)
        repeat (first
          | (apply belSteps_plain
             · rfl
             · intro W2 hW2
               obtain ⟨hc, hf⟩ := bcell hW2
               go_simp
               first
                 | exact rfl
                 | exact ⟨rfl, hW2⟩
             simp only [Act.put, List.setIfInBounds_toArray, List.set_cons_zero, List.set_cons_succ])
          | ((first | (apply belSteps_no; rfl; rfl; rfl) | (apply belSteps_never; rfl; rfl; rfl))
             simp only [Act.put, List.setIfInBounds_toArray, List.set_cons_zero, List.set_cons_succ])
          | (apply belSteps_yes
             · rfl
             · rfl
             · rfl
             · intro W2 hW2
               obtain ⟨hc, hf⟩ := bcell hW2
               go_simp
               first
                 | exact rfl
                 | exact ⟨rfl, hW2⟩
             simp only [Act.put, List.setIfInBounds_toArray, List.set_cons_zero, List.set_cons_succ]))
        refine belSteps_stop ⟨rfl, fun W2 hW2 => ?_⟩
        have RW := R3.out.below hW2
        have hxt : x.cell.toNat < (doRegs rs (xs.take kk)).length := by rw [HLEN.out]; omega
        have f0 : W2.frozen? ⟨bl, x.cell.toNat * 2, none⟩ = false := free_of_heap RW.hl
        have f1 : W2.frozen? ⟨bl, x.cell.toNat * 2 + 1, none⟩ = false := free_of_heap RW.hl
        have g0 := RW.r0 hxt
        have g1 := RW.r1 hxt
        have RS : Aside (RegsAt _ br bl bm _ _) := RW.store hxt ⟨x.version + 1, x.new⟩
        have BS : Aside (Below w0.heap.size w0 ((W2.setCell ⟨bl, x.cell.toNat * 2, none⟩ (.int .i64 (x.version + 1))).setCell ⟨bl, x.cell.toNat * 2 + 1, none⟩ (.int .i64 x.new))) := below_setCell (below_setCell ((BR.out.trans (bw3.mono BR.out.size)).trans (hW2.mono (by have := BR.out.size; have := bw3.size; omega))) hbl _ _) hbl _ _
        go_wp2
        go_roundg (n - (kk + 1))
        case measure => omega
        case rel =>
          refine ⟨kk + 1, by omega, by omega, by go_num, BS, (show Aside _ from ?_)⟩
          rw [HST.out]
          unfold setReg
          rw [hwr]
          exact RS.out
    · have hltz : ¬ (kk : Int) < (n : Int) := by omega
      have : kk = n := by omega
      subst this
      go_wp2
      go_end0
      refine ⟨rfl, BR.out, ?_⟩
      have := RR.out
      rwa [List.take_of_length_le (by rw [HL.out]; omega)] at this

/-! ### play -/
/-- What is played: the registers, the names, how many, and why the next one can't come. -/
def playL (rs : List Reg) (seen : List Tid) : List ACommit → List Reg × List Tid × Nat × Int
  | [] => (rs, seen, 0, 0)
  | c :: l => if mayE rs seen c = 0 then ((playL (doRegs rs c.items) (seen ++ [c.tid]) l).1, (playL (doRegs rs c.items) (seen ++ [c.tid]) l).2.1, (playL (doRegs rs c.items) (seen ++ [c.tid]) l).2.2.1 + 1, (playL (doRegs rs c.items) (seen ++ [c.tid]) l).2.2.2)
    else (rs, seen, 0, mayE rs seen c)
theorem info_reg : (Tryz.prog.info? 114).map (fun i => (i.zero, i.size, i.bytes)) = some (some (.agg #[.int .i64 0, .int .i64 0]), 2, 16) := by kernel_rfl
theorem run_make_regs (n : Nat) (hn : n ≤ 16) (W : World) : (Instr.makeSlice 84 (.int .i64 (n : Int)) (.int .i64 (n : Int))).run Tryz.prog W = .ok (.slice (some ⟨W.heap.size, 0, none⟩) n n) (W.alloc (.cells ((List.replicate n Reg.z).flatMap Reg.vals).toArray 114)) := by
  obtain ⟨i, hi, hzz⟩ := Option.map_eq_some_iff.1 info_reg
  simp only [Prod.mk.injEq] at hzz
  obtain ⟨hz, hs, hb⟩ := hzz
  have hr := run_make (P := Tryz.prog) W 84 114 i (.agg #[.int .i64 0, .int .i64 0]) Tryz.underlying84 hi hz .i64 .i64 n n (by omega) (Int.le_refl _) (by rw [hb]; omega) (by omega)
  rw [hr, hs]
  have e : madeCells (Value.agg #[.int .i64 0, .int .i64 0]).cells (n * 2) = ((List.replicate n Reg.z).flatMap Reg.vals).toArray := by
    have := made_flat #[Value.int .i64 0, Value.int .i64 0] (by simp) n
    apply Array.ext'
    have e2 : (Value.agg #[Value.int .i64 0, .int .i64 0]).cells = #[Value.int .i64 0, .int .i64 0] := rfl
    rw [e2]
    refine Eq.trans this ?_
    rw [List.flatMap_replicate]
    rfl
  simp only [Int.toNat_natCast]
  rw [e]

end Go.Proofs.YtghfjgacnbcclaaGreat
