/- A region that draws its order, by one relation over what is listed: every order is served, each operation shown once.
   No condition beyond the checked Bool over the region's own text. -/
import Derived.Orders
import Derived.Deep.Draws
import Derived.Below
import Derived.Tactics
namespace Go.Proofs.YtghfjgacnbcclaaGreat
open Go Go.RowKit
section
variable {P : Program} {ops : Array Oper} {n : Nat}

/-- Where operation j's value goes. -/
def dstOf (ops : Array Oper) (j : Nat) : Option Tmp := (ops[j]?).bind (·.dst)
def up1 (b : Nat → Bool) (i : Nat) : Nat → Bool := fun j => if j = i then true else b j
def updV (V : Nat → Value) (i : Nat) (u : Value) : Nat → Value := fun j => if j = i then u else V j
theorem up1_self (b : Nat → Bool) (i : Nat) : up1 b i i = true := by simp [up1]
theorem up1_ne {b : Nat → Bool} {i j : Nat} (h : j ≠ i) : up1 b i j = b j := by simp [up1, h]
theorem updV_self (V : Nat → Value) (i : Nat) (u : Value) : updV V i u i = u := by simp [updV]
theorem updV_ne {V : Nat → Value} {i j : Nat} {u : Value} (h : j ≠ i) : updV V i u j = V j := by simp [updV, h]
theorem updV_same {V : Nat → Value} {i : Nat} : updV V i (V i) = V := by
  funext j; by_cases h : j = i
  · subst h; simp [updV]
  · simp [updV, h]

def putB (ops : Array Oper) (b : Nat → Bool) (V : Nat → Value) (a : Act) (j : Nat) : Act := if b j = true then a.put (dstOf ops j) (V j) else a
/-- The frame in which what is listed is filled. -/
def frB (ops : Array Oper) (b : Nat → Bool) (V : Nat → Value) (l : List Nat) (a : Act) : Act := l.foldl (putB ops b V) a

theorem frB_append (b : Nat → Bool) (V : Nat → Value) (l1 l2 : List Nat) (a : Act) : frB ops b V (l1 ++ l2) a = frB ops b V l2 (frB ops b V l1 a) := by simp [frB]

theorem putB_look (b : Nat → Bool) (V : Nat → Value) (a : Act) (j : Nat) (s : Tmp) (h : b j = true → dstOf ops j ≠ some s) : (putB ops b V a j).tmps[s]? = a.tmps[s]? := by
  unfold putB
  split
  · rename_i hb
    have h2 := h hb
    cases hd : dstOf ops j with
    | none => rfl
    | some d =>
      have hne : d ≠ s := fun e => h2 (by rw [hd, e])
      simp [Act.put, Array.getElem?_setIfInBounds_ne hne]
  · rfl

theorem frB_skip (b : Nat → Bool) (V : Nat → Value) (s : Tmp) : ∀ (l : List Nat) (a : Act), (∀ j ∈ l, b j = true → dstOf ops j ≠ some s) → (frB ops b V l a).tmps[s]? = a.tmps[s]?
  | [], _, _ => rfl
  | j :: l, a, h => by
    show (frB ops b V l (putB ops b V a j)).tmps[s]? = _
    rw [frB_skip b V s l _ (fun k hk => h k (List.mem_cons_of_mem _ hk)), putB_look b V a j s (h j List.mem_cons_self)]

theorem putB_size (b : Nat → Bool) (V : Nat → Value) (a : Act) (j : Nat) : (putB ops b V a j).tmps.size = a.tmps.size := by
  unfold putB
  split
  · cases dstOf ops j <;> simp [Act.put]
  · rfl

/-- At slot s the two frames agree where whoever writes s is listed in the one as in the other. -/
theorem frB_agree (b b' : Nat → Bool) (V V' : Nat → Value) (s : Tmp) : ∀ (l : List Nat) (a a' : Act), a.tmps[s]? = a'.tmps[s]? →
    (∀ j ∈ l, dstOf ops j = some s → b j = b' j ∧ (b j = true → V j = V' j)) → (frB ops b V l a).tmps[s]? = (frB ops b' V' l a').tmps[s]?
  | [], _, _, h0, _ => h0
  | j :: l, a, a', h0, h => by
    refine frB_agree b b' V V' s l _ _ ?_ (fun k hk => h k (List.mem_cons_of_mem _ hk))
    have hj := h j List.mem_cons_self
    by_cases hd : dstOf ops j = some s
    · obtain ⟨h1, h2⟩ := hj hd
      unfold putB
      cases hb : b j with
      | false => rw [← h1, hb]; simpa using h0
      | true =>
        rw [← h1, hb, hd, h2 hb]
        simp only [if_true, Act.put]
        rw [Array.getElem?_setIfInBounds, Array.getElem?_setIfInBounds]
        simp only [if_true]
        have hs : (s < a.tmps.size) ↔ (s < a'.tmps.size) := by
          constructor
          · intro hlt
            rcases Nat.lt_or_ge s a'.tmps.size with h' | h'
            · exact h'
            · rw [Array.getElem?_eq_none h', Array.getElem?_eq_getElem hlt] at h0; cases h0
          · intro hlt
            rcases Nat.lt_or_ge s a.tmps.size with h' | h'
            · exact h'
            · rw [Array.getElem?_eq_none h', Array.getElem?_eq_getElem hlt] at h0; cases h0
        by_cases hlt : s < a.tmps.size
        · rw [if_pos hlt, if_pos (hs.1 hlt)]
        · rw [if_neg hlt, if_neg (fun h => hlt (hs.2 h))]
    · rw [putB_look b V a j s (fun _ => hd), putB_look b' V' a' j s (fun _ => hd)]
      exact h0

theorem frB_defers (b : Nat → Bool) (V : Nat → Value) : ∀ (l : List Nat) (a : Act), (frB ops b V l a).defers = a.defers
  | [], _ => rfl
  | j :: l, a => by
    show (frB ops b V l (putB ops b V a j)).defers = _
    rw [frB_defers b V l]
    unfold putB
    split
    · cases dstOf ops j <;> rfl
    · rfl

theorem eval_agree {a a' : Act} {x : Operand} (h : ∀ t, x = .tmp t → a.tmps[t]? = a'.tmps[t]?) : a.eval x = a'.eval x := by
  cases x with
  | tmp t => simp [Act.eval, h t rfl]
  | _ => rfl

/-- What the region's text must be: edges lead to elder operations; whoever writes a slot that i looks at, or that i writes, stands in a direct edge with i. -/
def relOk (ops : Array Oper) : Bool :=
  Region.noSelect ops && (List.range ops.size).all fun i => match ops[i]? with
    | none => true
    | some o => (o.after.all fun e => !Region.binds .any e || decide (e.on < i)) &&
        (List.range ops.size).all fun j => j == i || match dstOf ops j with
          | none => true
          | some d => (!((o.looksAt ops).contains d) && !(o.dst == some d)) ||
              (if j < i then o.after.any (fun e => Region.binds .any e && e.on == j)
               else match ops[j]? with | some oj => oj.after.any (fun e => Region.binds .any e && e.on == i) | none => false)

theorem relOk_spec (h : relOk ops = true) {i : Nat} {o : Oper} (ho : ops[i]? = some o) :
    (∀ e ∈ o.after, Region.binds .any e = true → e.on < i) ∧
    (∀ j d, j ≠ i → dstOf ops j = some d → (d ∈ o.looksAt ops ∨ o.dst = some d) →
      (j < i ∧ ∃ e ∈ o.after, Region.binds .any e = true ∧ e.on = j) ∨ (i < j ∧ ∃ oj, ops[j]? = some oj ∧ ∃ e ∈ oj.after, Region.binds .any e = true ∧ e.on = i)) := by
  unfold relOk at h
  simp only [Bool.and_eq_true] at h
  have hi : i < ops.size := (Array.getElem?_eq_some_iff.1 ho).1
  have h1 := List.all_eq_true.1 h.2 i (List.mem_range.2 hi)
  rw [ho] at h1
  simp only [Bool.and_eq_true] at h1
  refine ⟨fun e he hb => ?_, fun j d hj hd hl => ?_⟩
  · have h2 := Array.all_eq_true_iff_forall_mem.1 h1.1 e he
    rw [hb] at h2
    simpa using h2
  · have hjs : j < ops.size := by
      rcases Nat.lt_or_ge j ops.size with h' | h'
      · exact h'
      · simp [dstOf, Array.getElem?_eq_none h'] at hd
    have h2 := List.all_eq_true.1 h1.2 j (List.mem_range.2 hjs)
    rw [hd] at h2
    simp only [Bool.or_eq_true, beq_iff_eq, Bool.and_eq_true, Bool.not_eq_true', List.contains_eq_mem, decide_eq_false_iff_not] at h2
    rcases h2 with h2 | h2
    · exact absurd h2 hj
    · rcases h2 with ⟨h2, h3⟩ | h2
      · rcases hl with hl | hl
        · exact absurd hl h2
        · exfalso; rw [hl] at h3; simp at h3
      · by_cases hlt : j < i
        · rw [if_pos hlt] at h2
          refine .inl ⟨hlt, ?_⟩
          obtain ⟨k, hk, hk2⟩ := Array.any_eq_true.1 h2
          simp only [Bool.and_eq_true, beq_iff_eq] at hk2
          exact ⟨_, Array.getElem_mem hk, hk2.1, hk2.2⟩
        · rw [if_neg hlt] at h2
          refine .inr ⟨by omega, ?_⟩
          have hoj : ops[j]? = some ops[j] := Array.getElem?_eq_getElem hjs
          rw [hoj] at h2
          refine ⟨_, hoj, ?_⟩
          obtain ⟨k, hk, hk2⟩ := Array.any_eq_true.1 h2
          simp only [Bool.and_eq_true, beq_iff_eq] at hk2
          exact ⟨_, Array.getElem_mem hk, hk2.1, hk2.2⟩

/-- What an operation comes to, said by R of its value and the world behind it. -/
def givesR (P : Program) (R : Value → World → Prop) : Result Next → Prop
  | .ok (.value u) w' => R u w'
  | .ok .skip w' => R undef w'
  | .ok (.enter f args) w' => Calls P f args w' (fun e w'' => ∃ u, e = .returned u ∧ R u w'')
  | _ => False
def stepR (P : Program) (ops : Array Oper) (o : Oper) (a : Act) (w : World) (R : Value → World → Prop) : Prop :=
  if Region.wanted o (yielded ops a.tmps) = true then givesR P R ((execOp a.eval o).run P w) else R undef w

theorem wp_of_givesR {o : Oper} {a a' : Act} {w : World} {R : Value → World → Prop} {K : Act → World → Prop} {Q : Exit → Act → World → Prop} (he : execOp a'.eval o = execOp a.eval o)
    (h : givesR P R ((execOp a.eval o).run P w)) (hK : ∀ u w', R u w' → K (a'.put o.dst u) w') : o.wp P a' w K Q := by
  unfold Oper.wp
  rw [he]
  generalize (execOp a.eval o).run P w = r at *
  cases r with
  | ok x w' =>
    cases x <;> simp only [givesR] at h <;> simp only [Oper.upon]
    case value u => exact hK _ _ h
    case skip => exact hK _ _ h
    case enter f args => exact Calls.mono h fun e w'' ⟨u, he, hu⟩ => by subst he; exact hK _ _ hu
  | halt x w' => simp only [givesR] at h

/-- What is listed, as a function. -/
def bOf (l : Array Bool) : Nat → Bool := fun j => l.getD j false
theorem bOf_set {l : Array Bool} {i : Nat} (hi : i < l.size) : bOf (l.setIfInBounds i true) = up1 (bOf l) i := by
  funext j
  by_cases h : j = i
  · subst h; simp [bOf, up1, hi]
  · simp only [bOf, up1_ne h]; exact getD_set_ne false (fun e => h e.symm)

def allTrue : Nat → Bool := fun _ => true

theorem frB_congr {b b' : Nat → Bool} {V : Nat → Value} : ∀ (l : List Nat) (a : Act), (∀ j ∈ l, b j = b' j) → frB ops b V l a = frB ops b' V l a
  | [], _, _ => rfl
  | j :: l, a, h => by
    show frB ops b V l (putB ops b V a j) = frB ops b' V l (putB ops b' V a j)
    have e : putB ops b V a j = putB ops b' V a j := by unfold putB; rw [h j List.mem_cons_self]
    rw [e]; exact frB_congr l _ (fun k hk => h k (List.mem_cons_of_mem _ hk))

theorem put_size (a : Act) (d : Option Tmp) (u : Value) : (a.put d u).tmps.size = a.tmps.size := by cases d <;> simp [Act.put]
theorem frB_size (b : Nat → Bool) (V : Nat → Value) : ∀ (l : List Nat) (a : Act), (frB ops b V l a).tmps.size = a.tmps.size
  | [], _ => rfl
  | j :: l, a => by
    show (frB ops b V l (putB ops b V a j)).tmps.size = _
    rw [frB_size b V l, putB_size]

theorem act_ext {a a' : Act} (h : ∀ s : Nat, a.tmps[s]? = a'.tmps[s]?) (hd : a.defers = a'.defers) : a = a' := by
  obtain ⟨t, d⟩ := a
  obtain ⟨t', d'⟩ := a'
  simp only at h hd
  subst hd
  have : t = t' := Array.ext_getElem? h
  rw [this]

theorem put_look_ne {a : Act} {d : Option Tmp} {u : Value} {s : Tmp} (h : d ≠ some s) : (a.put d u).tmps[s]? = a.tmps[s]? := by
  cases d with
  | none => rfl
  | some d =>
    have hne : d ≠ s := fun e => h (by rw [e])
    simp [Act.put, Array.getElem?_setIfInBounds_ne hne]
theorem put_look_self {a a' : Act} {u : Value} {s : Tmp} (h : a.tmps.size = a'.tmps.size) : (a.put (some s) u).tmps[s]? = (a'.put (some s) u).tmps[s]? := by
  simp only [Act.put]
  rw [Array.getElem?_setIfInBounds, Array.getElem?_setIfInBounds, h]
  simp

/-- What is listed waits for nothing that isn't. -/
def ClosedB (ops : Array Oper) (b : Nat → Bool) : Prop := ∀ j oj, ops[j]? = some oj → b j = true → ∀ e ∈ oj.after, Region.binds .any e = true → b e.on = true

/-- Operation i, which may come up, finds the frame as in the text's order. -/
theorem look_lex (hchk : relOk ops = true) {b : Nat → Bool} {V : Nat → Value} {a0 : Act} {i : Nat} {o : Oper} (ho : ops[i]? = some o) (hcl : ClosedB ops b) (hbi : b i = false)
    (hanc : ∀ e ∈ o.after, Region.binds .any e = true → b e.on = true) (s : Tmp) (hs : s ∈ o.looksAt ops ∨ o.dst = some s) :
    (frB ops b V (List.range ops.size) a0).tmps[s]? = (frB ops allTrue V (List.range i) a0).tmps[s]? := by
  have hi : i < ops.size := (Array.getElem?_eq_some_iff.1 ho).1
  have hsplit : List.range ops.size = List.range i ++ (List.range (ops.size - i)).map (i + ·) := by
    rw [show ops.size = i + (ops.size - i) from by omega, List.range_add]
    simp
  rw [hsplit, frB_append]
  have hspec := relOk_spec hchk ho
  rw [frB_skip b V s _ _ (fun j hj hb hd => ?_)]
  · refine frB_agree b allTrue V V s _ _ _ rfl (fun j hj hd => ?_)
    have hlt : j < i := List.mem_range.1 hj
    rcases hspec.2 j s (by omega) hd hs with ⟨_, e, he, heb, hon⟩ | ⟨h, _⟩
    · have := hanc e he heb
      rw [hon] at this
      exact ⟨by rw [this]; rfl, fun _ => rfl⟩
    · omega
  · obtain ⟨k, _, rfl⟩ := List.mem_map.1 hj
    have hne : i + k ≠ i := fun e => by rw [e, hbi] at hb; cases hb
    rcases hspec.2 (i + k) s hne hd hs with ⟨h, _⟩ | ⟨_, oj, hoj, e, he, heb, hon⟩
    · omega
    · have := hcl _ _ hoj hb e he heb
      rw [hon, hbi] at this
      cases this

theorem exec_lex (hchk : relOk ops = true) {b : Nat → Bool} {V : Nat → Value} {a0 : Act} {i : Nat} {o : Oper} (ho : ops[i]? = some o) (hcl : ClosedB ops b) (hbi : b i = false)
    (hanc : ∀ e ∈ o.after, Region.binds .any e = true → b e.on = true) :
    execOp (frB ops b V (List.range ops.size) a0).eval o = execOp (frB ops allTrue V (List.range i) a0).eval o ∧
    Region.wanted o (yielded ops (frB ops b V (List.range ops.size) a0).tmps) = Region.wanted o (yielded ops (frB ops allTrue V (List.range i) a0).tmps) := by
  have hns : Region.noSelect ops = true := by unfold relOk at hchk; simp only [Bool.and_eq_true] at hchk; exact hchk.1
  refine ⟨execOp_congr o (fun cs bb => Region.noSelect_spec hns i o cs bb ho) (fun x hx => eval_agree fun t ht => ?_), ?_⟩
  · refine look_lex hchk ho hcl hbi hanc t (.inl ?_)
    subst ht
    exact List.mem_append_left _ (List.mem_filterMap.2 ⟨.tmp t, by simpa using hx, rfl⟩)
  · unfold Region.wanted
    cases hg : o.guard with
    | none => rfl
    | some gw =>
      obtain ⟨g, want⟩ := gw
      have hy : yielded ops (frB ops b V (List.range ops.size) a0).tmps g = yielded ops (frB ops allTrue V (List.range i) a0).tmps g := by
        unfold yielded
        cases ht : (ops[g]?).bind (·.dst) with
        | none => rfl
        | some t =>
          have := look_lex (V := V) (a0 := a0) hchk ho hcl hbi hanc t (.inl (by simp [Oper.looksAt, hg, ht]))
          simp only [Option.bind_some, this]
      simp only [hy]

theorem put_lex (hchk : relOk ops = true) {b : Nat → Bool} {V : Nat → Value} {a0 : Act} {i : Nat} {o : Oper} (ho : ops[i]? = some o) (hcl : ClosedB ops b) (hbi : b i = false) (u : Value) :
    (frB ops b V (List.range ops.size) a0).put o.dst u = frB ops (up1 b i) (updV V i u) (List.range ops.size) a0 := by
  have hi : i < ops.size := (Array.getElem?_eq_some_iff.1 ho).1
  have hdi : dstOf ops i = o.dst := by simp [dstOf, ho]
  have hspec := relOk_spec hchk ho
  refine act_ext (fun s => ?_) ?_
  · by_cases hs : o.dst = some s
    · -- slot of i's own
      have hsplit : List.range ops.size = List.range i ++ i :: (List.range (ops.size - i - 1)).map (i + 1 + ·) := by
        rw [show ops.size = i + ((ops.size - i - 1) + 1) from by omega, List.range_add, List.range_succ_eq_map]
        simp [List.map_map, Function.comp_def, Nat.add_assoc, Nat.add_comm 1]
      rw [hs, hsplit, frB_append, frB_append]
      show _ = (frB ops (up1 b i) (updV V i u) ((List.range (ops.size - i - 1)).map (i + 1 + ·)) (putB ops (up1 b i) (updV V i u) (frB ops (up1 b i) (updV V i u) (List.range i) a0) i)).tmps[s]?
      rw [frB_skip (up1 b i) (updV V i u) s]
      · unfold putB
        rw [up1_self, updV_self, hdi, hs, if_pos rfl]
        refine put_look_self ?_
        rw [frB_size, frB_size, frB_size]
      · intro j hj hb hd
        obtain ⟨k, _, rfl⟩ := List.mem_map.1 hj
        rw [up1_ne (by omega)] at hb
        rcases hspec.2 (i + 1 + k) s (by omega) hd (.inr hs) with ⟨h, _⟩ | ⟨_, oj, hoj, e, he, heb, hon⟩
        · omega
        · have := hcl _ _ hoj hb e he heb
          rw [hon, hbi] at this
          cases this
    · rw [put_look_ne hs]
      refine frB_agree _ _ _ _ s _ _ _ rfl (fun j hj hd => ?_)
      have hne : j ≠ i := fun e => by subst e; exact hs (hdi ▸ hd)
      exact ⟨(up1_ne hne).symm, fun _ => (updV_ne hne).symm⟩
  · have : ((frB ops b V (List.range ops.size) a0).put o.dst u).defers = (frB ops b V (List.range ops.size) a0).defers := by cases o.dst <;> rfl
    rw [this, frB_defers, frB_defers]

/-- THE THEOREM: a relation I over what is listed, the values and the world. -/
theorem wpAny_rel (hchk : relOk ops = true) {Q : Exit → Act → World → Prop} {a0 : Act} (I : (Nat → Bool) → (Nat → Value) → World → Prop)
    (hstep : ∀ i o, ops[i]? = some o → ∀ b V w, I b V w → b i = false → (∀ e ∈ o.after, Region.binds .any e = true → b e.on = true) →
      stepR P ops o (frB ops allTrue V (List.range i) a0) w (fun u w' => I (up1 b i) (updV V i u) w'))
    (hend : ∀ b V w, I b V w → (∀ j, j < ops.size → b j = true) → Q .normal (frB ops allTrue V (List.range ops.size) a0) w) :
    ∀ (fuel : Nat) (listed : Array Bool) (V : Nat → Value) (w : World), listed.size = ops.size → ((List.range ops.size).filter fun j => !bOf listed j).length = fuel → ClosedB ops (bOf listed) → I (bOf listed) V w →
      wpAny P .any ops Q fuel listed (frB ops (bOf listed) V (List.range ops.size) a0) w := by
  have hready : ∀ (listed : Array Bool), listed.size = ops.size → Region.ready .any ops listed = [] → ∀ j, j < ops.size → bOf listed j = true := by
    intro listed hsz hr j
    induction j using Nat.strongRecOn with
    | _ j ih =>
      intro hj
      cases hb : bOf listed j with
      | true => rfl
      | false =>
        exfalso
        have hoj : ops[j]? = some ops[j] := Array.getElem?_eq_getElem hj
        have hm : j ∈ Region.ready .any ops listed := mem_ready.2 ⟨by
          have : j < listed.size := by omega
          simp [bOf, this] at hb ⊢; exact hb, _, hoj, fun e he heb => by
            have h1 := (relOk_spec hchk hoj).1 e he heb
            exact ih e.on h1 (by omega)⟩
        rw [hr] at hm
        cases hm
  have hfin : ∀ (listed : Array Bool) (V : Nat → Value) (w : World), listed.size = ops.size → I (bOf listed) V w → (∀ j, j < ops.size → bOf listed j = true) → Q .normal (frB ops (bOf listed) V (List.range ops.size) a0) w := by
    intro listed V w hsz hI hall
    rw [frB_congr (b := bOf listed) (b' := allTrue) _ _ (fun j hj => hall j (List.mem_range.1 hj))]
    exact hend _ _ _ hI hall
  intro fuel
  induction fuel with
  | zero =>
    intro listed V w hsz hc hcl hI
    have hall : ∀ j, j < ops.size → bOf listed j = true := fun j hj => by
      cases hb : bOf listed j with
      | true => rfl
      | false =>
        have := List.eq_nil_of_length_eq_zero hc
        have hm : j ∈ (List.range ops.size).filter fun j => !bOf listed j := List.mem_filter.2 ⟨List.mem_range.2 hj, by simp [hb]⟩
        rw [this] at hm
        cases hm
    refine ⟨?_, hfin listed V w hsz hI hall⟩
    cases hr : Region.ready .any ops listed with
    | nil => rfl
    | cons j r =>
      exfalso
      have hm : j ∈ Region.ready .any ops listed := by rw [hr]; exact List.mem_cons_self
      obtain ⟨h0, o, ho, _⟩ := mem_ready.1 hm
      have hj : j < ops.size := (Array.getElem?_eq_some_iff.1 ho).1
      have := hall j hj
      have hj2 : j < listed.size := by omega
      simp [bOf, hj2] at this h0
      rw [h0] at this
      cases this
  | succ fuel ih =>
    intro listed V w hsz hc hcl hI
    refine ⟨fun hr => hfin listed V w hsz hI (hready listed hsz hr), fun i hi => ?_⟩
    obtain ⟨h0, o, ho, hanc⟩ := mem_ready.1 hi
    have hio : i < ops.size := (Array.getElem?_eq_some_iff.1 ho).1
    have hil : i < listed.size := by omega
    have hbi : bOf listed i = false := by simp [bOf, hil] at h0 ⊢; exact h0
    have hst := hstep i o ho _ V w hI hbi hanc
    obtain ⟨he, hwt⟩ := exec_lex (V := V) (a0 := a0) hchk ho hcl hbi hanc
    have hK : ∀ u w', I (up1 (bOf listed) i) (updV V i u) w' → wpAny P .any ops Q fuel (listed.setIfInBounds i true) ((frB ops (bOf listed) V (List.range ops.size) a0).put o.dst u) w' := by
      intro u w' hI'
      rw [put_lex hchk ho hcl hbi u, ← bOf_set hil]
      refine ih _ _ _ (by simpa using hsz) ?_ ?_ (by rw [bOf_set hil]; exact hI')
      · rw [bOf_set hil]
        have hcount : ∀ (l : List Nat), l.Nodup → i ∈ l → (l.filter fun j => !up1 (bOf listed) i j).length + 1 = (l.filter fun j => !bOf listed j).length := by
          intro l
          induction l with
          | nil => intro _ h; cases h
          | cons x r ihl =>
            intro hn hm
            rw [List.nodup_cons] at hn
            by_cases hx : x = i
            · subst hx
              have h1 : (r.filter fun j => !up1 (bOf listed) x j) = r.filter fun j => !bOf listed j :=
                List.filter_congr fun j hj => by rw [up1_ne (fun e => hn.1 (by rw [← e]; exact hj))]
              rw [List.filter_cons, List.filter_cons, up1_self, hbi, h1]
              simp
            · have hm' : i ∈ r := by
                rcases List.mem_cons.1 hm with h | h
                · exact absurd h.symm hx
                · exact h
              have h1 := ihl hn.2 hm'
              rw [List.filter_cons, List.filter_cons, up1_ne hx]
              cases hbx : bOf listed x
              · simp only [Bool.not_false, if_true, List.length_cons]; omega
              · simpa using h1
        have := hcount (List.range ops.size) List.nodup_range (List.mem_range.2 hio)
        omega
      · rw [bOf_set hil]
        intro j oj hoj hb e hej heb
        by_cases hji : j = i
        · subst hji
          rw [ho] at hoj
          cases hoj
          by_cases hei : e.on = j
          · rw [hei]; exact up1_self _ _
          · rw [up1_ne hei]; exact hanc e hej heb
        · rw [up1_ne hji] at hb
          by_cases hei : e.on = i
          · rw [hei]; exact up1_self _ _
          · rw [up1_ne hei]; exact hcl j oj hoj hb e hej heb
    unfold wpOp
    rw [ho]
    simp only
    unfold stepR at hst
    rw [hwt]
    by_cases hw : Region.wanted o (yielded ops (frB ops allTrue V (List.range i) a0).tmps) = true
    · rw [if_pos hw] at hst ⊢
      exact .inl (wp_of_givesR he hst hK)
    · rw [if_neg hw] at hst ⊢
      exact hK _ _ hst

theorem wp_region_rel0 {id : Nat} {Q : Exit → Act → World → Prop} {a0 : Act} {w : World} (hm : P.follows .mixedOrders = true) (hchk : relOk ops = true)
    (I : (Nat → Bool) → (Nat → Value) → World → Prop) (V0 : Nat → Value) (h0 : I (fun _ => false) V0 w.drew)
    (hstep : ∀ i o, ops[i]? = some o → ∀ b V w, I b V w → b i = false → (∀ e ∈ o.after, Region.binds .any e = true → b e.on = true) →
      stepR P ops o (frB ops allTrue V (List.range i) a0) w (fun u w' => I (up1 b i) (updV V i u) w'))
    (hend : ∀ b V w, I b V w → (∀ j, j < ops.size → b j = true) → Q .normal (frB ops allTrue V (List.range ops.size) a0) w) : (Code.region id ops true).wp P Q a0 w := by
  refine wp_region_any hm ?_
  have hb : bOf (Array.replicate ops.size false) = fun _ => false := by
    funext j
    simp only [bOf, Array.getD_eq_getD_getElem?, Array.getElem?_replicate]
    split <;> rfl
  have key := wpAny_rel hchk I hstep hend ops.size (Array.replicate ops.size false) V0 w.drew (by simp) (by rw [hb]; show (List.filter (fun _ => true) _).length = _; rw [List.filter_eq_self.2 (fun _ _ => rfl), List.length_range]) (by rw [hb]; intro j oj _ h; cases h) (by rw [hb]; exact h0)
  rw [hb] at key
  have e : frB ops (fun _ => false) V0 (List.range ops.size) a0 = a0 := by
    generalize List.range ops.size = l
    induction l with
    | nil => rfl
    | cons j l ih => exact ih
  rw [e] at key
  exact key

theorem stepR_mono {o : Oper} {a : Act} {w : World} {R R' : Value → World → Prop} (hR : ∀ u w', R u w' → R' u w') (h : stepR P ops o a w R) : stepR P ops o a w R' := by
  unfold stepR at *
  split
  · rename_i hw
    rw [if_pos hw] at h
    generalize (execOp a.eval o).run P w = r at *
    cases r with
    | ok x w' =>
      cases x <;> simp only [givesR] at h ⊢
      case value u => exact hR _ _ h
      case skip => exact hR _ _ h
      case enter f args => exact Calls.mono h fun e w'' ⟨u, he, hu⟩ => ⟨u, he, hR _ _ hu⟩
    | halt x w' => simp only [givesR] at h
  · rename_i hw
    rw [if_neg hw] at h
    exact hR _ _ h

/-- The user's form: the operations one by one, in the text's order; aV: the frame so far, over the values V. 'v' given: what the operation yields is that, whatever came up before it. -/
def relSteps (P : Program) (ops : Array Oper) (I : (Nat → Bool) → (Nat → Value) → World → Prop) (E : ((Nat → Value) → Act) → (Nat → Option Value) → Prop) : List Oper → Nat → ((Nat → Value) → Act) → (Nat → Option Value) → Prop
  | [], _, aV, F => E aV F
  | o :: rest, i, aV, F =>
    (∃ v, (∀ b V w, I b V w → b i = false → (∀ e ∈ o.after, Region.binds .any e = true → b e.on = true) → (∀ j u, F j = some u → V j = u) → stepR P ops o (aV V) w (fun u w' => u = v ∧ I (up1 b i) V w')) ∧
      relSteps P ops I E rest (i + 1) (fun V => (aV V).put o.dst v) (fun j => if j = i then some v else F j)) ∨
    ((∀ b V w, I b V w → b i = false → (∀ e ∈ o.after, Region.binds .any e = true → b e.on = true) → (∀ j u, F j = some u → V j = u) → stepR P ops o (aV V) w (fun u w' => I (up1 b i) (updV V i u) w')) ∧
      relSteps P ops I E rest (i + 1) (fun V => (aV V).put o.dst (V i)) F)


/-- The values that are known. -/
def Fits (F : Nat → Option Value) (V : Nat → Value) : Prop := ∀ j u, F j = some u → V j = u

theorem relSteps_spec {I : (Nat → Bool) → (Nat → Value) → World → Prop} {E : ((Nat → Value) → Act) → (Nat → Option Value) → Prop} {a0 : Act} :
    ∀ (l : List Oper) (i : Nat) (aV : (Nat → Value) → Act) (F : Nat → Option Value), (∀ j, l[j]? = ops[i + j]?) → (∀ V, Fits F V → aV V = frB ops allTrue V (List.range i) a0) → (∀ j, i ≤ j → F j = none) →
      relSteps P ops I E l i aV F →
      ∃ (F' : Nat → Option Value) (aV' : (Nat → Value) → Act), (∀ j, j < i → F' j = F j) ∧ (∀ j, i + l.length ≤ j → F' j = none) ∧ (∀ V, Fits F' V → aV' V = frB ops allTrue V (List.range (i + l.length)) a0) ∧ E aV' F' ∧
        ∀ k o, i ≤ k → ops[k]? = some o → ∀ b V w, I b V w → b k = false → (∀ e ∈ o.after, Region.binds .any e = true → b e.on = true) → Fits F' V →
          stepR P ops o (frB ops allTrue V (List.range k) a0) w (fun u w' => I (up1 b k) (updV V k u) w' ∧ Fits F' (updV V k u))
  | [], i, aV, F, hl, haV, hF, h => by
    refine ⟨F, aV, fun _ _ => rfl, fun j hj => hF j (by simpa using hj), fun V hV => by simpa using haV V hV, h, fun k o hk ho => ?_⟩
    have := hl (k - i)
    rw [show i + (k - i) = k from by omega, ho] at this
    simp at this
  | o :: rest, i, aV, F, hl, haV, hF, h => by
    have h0 : ops[i]? = some o := by simpa using (hl 0).symm
    have hd : dstOf ops i = o.dst := by simp [dstOf, h0]
    have hl' : ∀ j, rest[j]? = ops[i + 1 + j]? := fun j => by have := hl (j + 1); simpa [Nat.add_assoc, Nat.add_comm 1 j] using this
    have hlast : ∀ (V : Nat → Value), frB ops allTrue V (List.range (i + 1)) a0 = (frB ops allTrue V (List.range i) a0).put o.dst (V i) := fun V => by
      rw [List.range_succ, frB_append]
      show putB ops allTrue V _ i = _
      unfold putB
      rw [hd]; rfl
    rcases h with ⟨v, hs, hr⟩ | ⟨hs, hr⟩
    · have hfits : ∀ V, Fits (fun j => if j = i then some v else F j) V → Fits F V ∧ V i = v := fun V hV => ⟨fun j u hj => hV j u (by
        by_cases e : j = i
        · subst e; rw [hF j (Nat.le_refl _)] at hj; cases hj
        · simpa [e] using hj), hV i v (by simp)⟩
      obtain ⟨F', aV', h1, h2, h3, h4, h5⟩ := relSteps_spec rest (i + 1) _ _ hl' (fun V hV => by
        obtain ⟨g1, g2⟩ := hfits V hV
        rw [hlast, haV V g1, g2]) (fun j hj => by simp [show j ≠ i from by omega, hF j (by omega)]) hr
      have hF'i : F' i = some v := by rw [h1 i (by omega)]; simp
      refine ⟨F', aV', fun j hj => by rw [h1 j (by omega)]; simp [show j ≠ i from by omega], fun j hj => h2 j (by simp at hj; omega), fun V hV => by rw [h3 V hV]; congr 2; simp; omega, h4, ?_⟩
      intro k ok hk hok b V w hI hb ha hV
      by_cases e : k = i
      · subst e
        rw [h0] at hok
        cases hok
        have hVF : Fits F V := fun j u hj => hV j u (by
          by_cases hji : j < k
          · rw [h1 j (by omega)]; simp [show j ≠ k from by omega, hj]
          · rw [hF j (by omega)] at hj; cases hj)
        have := hs b V w hI hb ha hVF
        rw [haV V hVF] at this
        refine stepR_mono (fun u w' ⟨hu, hI'⟩ => ?_) this
        subst hu
        have : updV V k u = V := by have e := hV k u hF'i; rw [← e]; exact updV_same
        rw [this]
        exact ⟨hI', hV⟩
      · exact h5 k ok (by omega) hok b V w hI hb ha hV
    · obtain ⟨F', aV', h1, h2, h3, h4, h5⟩ := relSteps_spec rest (i + 1) _ _ hl' (fun V hV => by rw [hlast, haV V hV]) (fun j hj => hF j (by omega)) hr
      have hF'i : F' i = none := by rw [h1 i (by omega)]; exact hF i (Nat.le_refl _)
      refine ⟨F', aV', fun j hj => h1 j (by omega), fun j hj => h2 j (by simp at hj; omega), fun V hV => by rw [h3 V hV]; congr 2; simp; omega, h4, ?_⟩
      intro k ok hk hok b V w hI hb ha hV
      by_cases e : k = i
      · subst e
        rw [h0] at hok
        cases hok
        have hVF : Fits F V := fun j u hj => hV j u (by
          by_cases hji : j < k
          · rw [h1 j (by omega)]; exact hj
          · rw [hF j (by omega)] at hj; cases hj)
        have := hs b V w hI hb ha hVF
        rw [haV V hVF] at this
        refine stepR_mono (fun u w' hI' => ⟨hI', fun j u' hj => ?_⟩) this
        have hne : j ≠ k := fun e => by subst e; rw [hF'i] at hj; cases hj
        rw [updV_ne hne]
        exact hV j u' hj
      · exact h5 k ok (by omega) hok b V w hI hb ha hV

theorem wp_region_rel {id : Nat} {Q : Exit → Act → World → Prop} {a0 : Act} {w : World} {l : List Oper} (hm : P.follows .mixedOrders = true) (hchk : relOk l.toArray = true)
    (I : (Nat → Bool) → (Nat → Value) → World → Prop) (h0 : ∀ V, I (fun _ => false) V w.drew)
    (h : relSteps P l.toArray I (fun aV F => ∀ b V w, I b V w → (∀ j, j < l.length → b j = true) → Fits F V → Q .normal (aV V) w) l 0 (fun _ => a0) (fun _ => none)) : (Code.region id l.toArray true).wp P Q a0 w := by
  obtain ⟨F', aV', _, _, h3, h4, h5⟩ := relSteps_spec (ops := l.toArray) (a0 := a0) l 0 _ _ (fun j => by simp) (fun V _ => rfl) (fun _ _ => rfl) h
  refine wp_region_rel0 hm hchk (fun b V w => I b V w ∧ Fits F' V) (fun j => (F' j).getD undef) ⟨h0 _, fun j u hj => by simp [hj]⟩ ?_ ?_
  · intro i o ho b V w ⟨hI, hV⟩ hb ha
    exact h5 i o (Nat.zero_le _) ho b V w hI hb ha hV
  · intro b V w ⟨hI, hV⟩ hall
    have := h4 b V w hI (fun j hj => hall j (by simpa using hj)) hV
    rw [h3 V hV] at this
    simpa using this

section
variable {I : (Nat → Bool) → (Nat → Value) → World → Prop} {E : ((Nat → Value) → Act) → (Nat → Option Value) → Prop} {o : Oper} {rest : List Oper} {i : Nat} {aV : (Nat → Value) → Act} {F : Nat → Option Value}
/-- The operation's value is known. -/
theorem relSteps_det (v : Value) (h : ∀ b V w, I b V w → b i = false → (∀ e ∈ o.after, Region.binds .any e = true → b e.on = true) → Fits F V → stepR P ops o (aV V) w (fun u w' => u = v ∧ I (up1 b i) V w'))
    (hr : relSteps P ops I E rest (i + 1) (fun V => (aV V).put o.dst v) (fun j => if j = i then some v else F j)) : relSteps P ops I E (o :: rest) i aV F := .inl ⟨v, h, hr⟩
/-- It isn't: it stands as V i. -/
theorem relSteps_any (h : ∀ b V w, I b V w → b i = false → (∀ e ∈ o.after, Region.binds .any e = true → b e.on = true) → Fits F V → stepR P ops o (aV V) w (fun u w' => I (up1 b i) (updV V i u) w'))
    (hr : relSteps P ops I E rest (i + 1) (fun V => (aV V).put o.dst (V i)) F) : relSteps P ops I E (o :: rest) i aV F := .inr ⟨h, hr⟩
end

/-! ### The class 'what there was, is': reads, and calls that lay blocks of their own; then, if need be, operations in a forced order -/
/-- Operation by operation; E of what is left, where one stops. -/
def belSteps (P : Program) (ops : Array Oper) (w : World) (E : List Oper → Act → Prop) : List Oper → Act → Prop
  | [], a => E [] a
  | o :: rest, a => E (o :: rest) a ∨ ∃ v, (∀ W, Below w.heap.size w W → stepR P ops o a W (fun u w' => u = v ∧ Below w.heap.size w w')) ∧ belSteps P ops w E rest (a.put o.dst v)
section
variable {w : World} {E : List Oper → Act → Prop} {o : Oper} {rest : List Oper} {a : Act} {g : Nat} {want : Bool} {d : Tmp}
theorem belSteps_cons (v : Value) (h : ∀ W, Below w.heap.size w W → stepR P ops o a W (fun u w' => u = v ∧ Below w.heap.size w w'))
    (hr : belSteps P ops w E rest (a.put o.dst v)) : belSteps P ops w E (o :: rest) a := .inr ⟨v, h, hr⟩
theorem belSteps_plain (hg : o.guard = none) (v : Value)
    (h : ∀ W, Below w.heap.size w W → givesR P (fun u w' => u = v ∧ Below w.heap.size w w') ((execOp a.eval o).run P W)) (hr : belSteps P ops w E rest (a.put o.dst v)) : belSteps P ops w E (o :: rest) a :=
  .inr ⟨v, fun W hW => by unfold stepR; rw [if_pos (by simp [Region.wanted, hg])]; exact h W hW, hr⟩
/-- The guard, read off the frame. -/
theorem wanted_of (hg : o.guard = some (g, want)) {b : Bool} (hd : (ops[g]?).bind (·.dst) = some d) (ha : a.tmps[d]? = some (.bool b)) : Region.wanted o (yielded ops a.tmps) = (b == want) := by
  simp [Region.wanted, hg, yielded, hd, ha]
theorem wanted_undef (hg : o.guard = some (g, want)) (hd : (ops[g]?).bind (·.dst) = some d) (ha : a.tmps[d]? = some undef) : Region.wanted o (yielded ops a.tmps) = false := by
  simp [Region.wanted, hg, yielded, hd, ha, undef]
theorem belSteps_yes (hg : o.guard = some (g, want)) (hd : (ops[g]?).bind (·.dst) = some d) (ha : a.tmps[d]? = some (.bool want)) (v : Value)
    (h : ∀ W, Below w.heap.size w W → givesR P (fun u w' => u = v ∧ Below w.heap.size w w') ((execOp a.eval o).run P W)) (hr : belSteps P ops w E rest (a.put o.dst v)) : belSteps P ops w E (o :: rest) a :=
  .inr ⟨v, fun W hW => by unfold stepR; rw [if_pos (by rw [wanted_of hg hd ha]; simp)]; exact h W hW, hr⟩
theorem belSteps_no (hg : o.guard = some (g, want)) (hd : (ops[g]?).bind (·.dst) = some d) (ha : a.tmps[d]? = some (.bool (!want)))
    (hr : belSteps P ops w E rest (a.put o.dst undef)) : belSteps P ops w E (o :: rest) a :=
  .inr ⟨undef, fun W hW => by unfold stepR; rw [if_neg (by rw [wanted_of hg hd ha]; cases want <;> simp)]; exact ⟨rfl, hW⟩, hr⟩
theorem belSteps_never (hg : o.guard = some (g, want)) (hd : (ops[g]?).bind (·.dst) = some d) (ha : a.tmps[d]? = some undef)
    (hr : belSteps P ops w E rest (a.put o.dst undef)) : belSteps P ops w E (o :: rest) a :=
  .inr ⟨undef, fun W hW => by unfold stepR; rw [if_neg (by rw [wanted_undef hg hd ha]; simp)]; exact ⟨rfl, hW⟩, hr⟩
theorem belSteps_nil (h : E [] a) : belSteps P ops w E [] a := h
theorem belSteps_stop (h : E (o :: rest) a) : belSteps P ops w E (o :: rest) a := .inl h
end

/-- All of it. -/
theorem relSteps_of_bel {w : World} {Q : Act → World → Prop} {n : Nat} : ∀ (l : List Oper) (i : Nat) (a : Act) (F : Nat → Option Value), belSteps P ops w (fun l a => l = [] ∧ ∀ W, Below w.heap.size w W → Q a W) l a →
    relSteps P ops (fun _ _ W => Below w.heap.size w W) (fun aV F => ∀ (b : Nat → Bool) (V : Nat → Value) (W : World), Below w.heap.size w W → (∀ j, j < n → b j = true) → Fits F V → Q (aV V) W) l i (fun _ => a) F
  | [], _, _, _, h => fun _ _ W hW _ _ => h.2 W hW
  | o :: rest, i, a, F, h => by
    rcases h with h | ⟨v, h1, h2⟩
    · exact absurd h.1 (by simp)
    · exact .inl ⟨v, fun _ _ W hW _ _ _ => h1 W hW, relSteps_of_bel rest (i + 1) _ _ h2⟩
theorem wp_region_bel {id : Nat} {Q : Exit → Act → World → Prop} {a : Act} {w : World} {l : List Oper} (hm : P.follows .mixedOrders = true) (hchk : relOk l.toArray = true)
    (h : ∀ w1, Hid (w1 = w) → belSteps P l.toArray w1 (fun l a => l = [] ∧ ∀ W, Below w1.heap.size w1 W → Q .normal a W) l a) : (Code.region id l.toArray true).wp P Q a w :=
  have h := h w rfl
  wp_region_rel hm hchk (fun _ _ W => Below w.heap.size w W) (fun _ => (Below.refl _ w).drew) (relSteps_of_bel (Q := fun a W => Q .normal a W) (n := l.length) l 0 a _ h)

/-! #### a tail in a forced order -/
/-- Whom j waits for, as bits. -/
def maskOf (o : Option Oper) (ms : List Nat) : Nat := match o with
  | none => 0
  | some o => o.after.toList.foldl (fun m e => if Region.binds .any e = true then m ||| (1 <<< e.on) ||| (ms.getD e.on 0) else m) 0
def masks (ops : Array Oper) : Nat → List Nat
  | 0 => []
  | j + 1 => masks ops j ++ [maskOf ops[j]? (masks ops j)]
theorem masks_length : ∀ n, (masks ops n).length = n
  | 0 => rfl
  | n + 1 => by simp [masks, masks_length n]
theorem masks_get : ∀ n j, j < n → (masks ops n).getD j 0 = maskOf ops[j]? (masks ops j)
  | n + 1, j, h => by
    rw [show masks ops (n + 1) = masks ops n ++ [maskOf ops[n]? (masks ops n)] from rfl]
    by_cases hj : j < n
    · rw [List.getD_eq_getElem?_getD, List.getElem?_append_left (by rw [masks_length]; exact hj), ← List.getD_eq_getElem?_getD]
      exact masks_get n j hj
    · have : j = n := by omega
      subst this
      rw [List.getD_eq_getElem?_getD, List.getElem?_append_right (by rw [masks_length]; omega), masks_length]
      simp
theorem fold_bits {ms : List Nat} {i : Nat} : ∀ (l : List Edge) (m : Nat), (l.foldl (fun m e => if Region.binds .any e = true then m ||| (1 <<< e.on) ||| (ms.getD e.on 0) else m) m).testBit i = true →
    m.testBit i = true ∨ ∃ e ∈ l, Region.binds .any e = true ∧ (e.on = i ∨ (ms.getD e.on 0).testBit i = true)
  | [], m, h => .inl h
  | e :: l, m, h => by
    rw [List.foldl_cons] at h
    rcases fold_bits l _ h with h2 | ⟨e2, h3, h4⟩
    · by_cases hb : Region.binds .any e = true
      · rw [if_pos hb, Nat.testBit_or, Nat.testBit_or, Bool.or_eq_true, Bool.or_eq_true] at h2
        rcases h2 with (h2 | h2) | h2
        · exact .inl h2
        · refine .inr ⟨e, List.mem_cons_self, hb, .inl ?_⟩
          rw [Nat.one_shiftLeft, Nat.testBit_two_pow] at h2
          simpa using h2
        · exact .inr ⟨e, List.mem_cons_self, hb, .inr h2⟩
      · rw [if_neg hb] at h2; exact .inl h2
    · exact .inr ⟨e2, List.mem_cons_of_mem _ h3, h4⟩
/-- What j waits for is listed, if all that stands in its edges is. -/
theorem mask_listed (hchk : relOk ops = true) {b : Nat → Bool} (hcl : ClosedB ops b) : ∀ (n j : Nat), j < n → ∀ o, ops[j]? = some o → (∀ e ∈ o.after, Region.binds .any e = true → b e.on = true) → ∀ i, (maskOf ops[j]? (masks ops j)).testBit i = true → b i = true
  | n + 1, j, hj, o, ho, he, i, hi => by
    rw [ho] at hi
    rcases fold_bits _ _ hi with h | ⟨e, hm, hb, h⟩
    · simp at h
    · have hem : e ∈ o.after := by simpa using hm
      have hlt := (relOk_spec hchk ho).1 e hem hb
      have hbe := he e hem hb
      rcases h with h | h
      · rw [← h]; exact hbe
      · have hsz : e.on < ops.size := by have := (Array.getElem?_eq_some_iff.1 ho).1; omega
        have hoe : ops[e.on]? = some ops[e.on] := Array.getElem?_eq_getElem hsz
        rw [masks_get j e.on hlt] at h
        exact mask_listed hchk hcl n e.on (by omega) _ hoe (fun e' he' hb' => hcl _ _ hoe hbe e' he' hb') i h
/-- From m on each waits for all ahead of it. -/
def tailOk (ops : Array Oper) (m : Nat) : Bool := (List.range ops.size).all fun k => decide (k < m) || decide ((maskOf ops[k]? (masks ops k)) &&& (2 ^ k - 1) = 2 ^ k - 1)
theorem tailOk_spec {m : Nat} (hchk : relOk ops = true) (ht : tailOk ops m = true) {b : Nat → Bool} (hcl : ClosedB ops b) {k : Nat} {o : Oper} (hk : m ≤ k) (ho : ops[k]? = some o) (he : ∀ e ∈ o.after, Region.binds .any e = true → b e.on = true) :
    ∀ i, i < k → b i = true := by
  intro i hi
  have hks : k < ops.size := (Array.getElem?_eq_some_iff.1 ho).1
  have h1 := List.all_eq_true.1 ht k (List.mem_range.2 hks)
  simp only [Bool.or_eq_true, decide_eq_true_eq] at h1
  rcases h1 with h1 | h1
  · omega
  · refine mask_listed hchk hcl (k + 1) k (by omega) o ho he i ?_
    have h2 : ((maskOf ops[k]? (masks ops k)) &&& (2 ^ k - 1)).testBit i = true := by rw [h1, Nat.testBit_two_pow_sub_one]; simpa using hi
    rw [Nat.testBit_and, Bool.and_eq_true] at h2
    exact h2.1

/-- The tail, one behind the other. -/
theorem wpAny_tail {Q : Exit → Act → World → Prop} {m : Nat} (hchk : relOk ops = true) (ht : tailOk ops m = true) : ∀ (l : List Oper) (k : Nat) (listed : Array Bool) (a : Act) (w : World), m ≤ k → listed.size = ops.size → (∀ j, l[j]? = ops[k + j]?) → (∀ j, bOf listed j = decide (j < k)) →
    wpList P ops Q l a w → wpAny P .any ops Q l.length listed a w
  | [], k, listed, a, w, hk, hsz, hl, hb, h => by
    refine ⟨?_, h⟩
    cases hr : Region.ready .any ops listed with
    | nil => rfl
    | cons j r =>
      exfalso
      obtain ⟨h0, o, ho, _⟩ := mem_ready.1 (show j ∈ Region.ready .any ops listed by rw [hr]; exact List.mem_cons_self)
      have hj : j < ops.size := (Array.getElem?_eq_some_iff.1 ho).1
      have h1 : j < k := by
        rcases Nat.lt_or_ge j k with h' | h'
        · exact h'
        · have := hl (j - k)
          rw [show k + (j - k) = j from by omega, ho] at this
          simp at this
      have := hb j
      simp [bOf, show j < listed.size from by omega] at this h0
      rw [h0] at this
      simp at this
      omega
  | o :: l, k, listed, a, w, hk, hsz, hl, hb, h => by
    have ho : ops[k]? = some o := by simpa using (hl 0).symm
    have hks : k < ops.size := (Array.getElem?_eq_some_iff.1 ho).1
    have hkl : k < listed.size := by omega
    have hcl : ClosedB ops (bOf listed) := fun j oj hoj hj e he heb => by
      have h1 := (relOk_spec hchk hoj).1 e he heb
      rw [hb] at hj ⊢
      simp at hj ⊢
      omega
    have hrk : k ∈ Region.ready .any ops listed := mem_ready.2 ⟨by have := hb k; simp [bOf, hkl] at this ⊢; exact this, o, ho, fun e he heb => by
      have h1 := (relOk_spec hchk ho).1 e he heb
      have := hb e.on
      unfold bOf at this
      rw [this]
      simpa using h1⟩
    have hwp : wpOp P ops Q k (wpList P ops Q l) a w := by unfold wpOp; rw [ho]; exact h
    refine ⟨fun hr => (by rw [hr] at hrk; cases hrk), fun i hi => ?_⟩
    have hik : i = k := by
      obtain ⟨h0, oi, hoi, hanc⟩ := mem_ready.1 hi
      have hio : i < ops.size := (Array.getElem?_eq_some_iff.1 hoi).1
      have hbi : bOf listed i = false := by simp [bOf, show i < listed.size from by omega] at h0 ⊢; exact h0
      have hge : k ≤ i := by
        rw [hb] at hbi
        simp at hbi
        omega
      rcases Nat.lt_or_ge k i with h' | h'
      · have := tailOk_spec hchk ht hcl (k := i) (by omega) hoi hanc k h'
        rw [hb] at this
        simp at this
      · omega
    subst hik
    refine wpOp_mono (fun a' w' h' => wpAny_tail hchk ht l (i + 1) (listed.setIfInBounds i true) a' w' (by omega) (by simpa using hsz) (fun j => by have := hl (j + 1); simpa [Nat.add_assoc, Nat.add_comm 1 j] using this) (fun j => ?_) h') hwp
    rw [bOf_set hkl]
    by_cases hji : j = i
    · subst hji; rw [up1_self]; simp
    · rw [up1_ne hji, hb]
      simp only [decide_eq_decide]
      omega

theorem count_up {b : Nat → Bool} {i : Nat} (hbi : b i = false) : ∀ (l : List Nat), l.Nodup → i ∈ l → (l.filter fun j => !up1 b i j).length + 1 = (l.filter fun j => !b j).length := by
  intro l
  induction l with
  | nil => intro _ h; cases h
  | cons x r ihl =>
    intro hn hm
    rw [List.nodup_cons] at hn
    by_cases hx : x = i
    · subst hx
      have h1 : (r.filter fun j => !up1 b x j) = r.filter fun j => !b j :=
        List.filter_congr fun j hj => by rw [up1_ne (fun e => hn.1 (by rw [← e]; exact hj))]
      rw [List.filter_cons, List.filter_cons, up1_self, hbi, h1]
      simp
    · have hm' : i ∈ r := by
        rcases List.mem_cons.1 hm with h | h
        · exact absurd h.symm hx
        · exact h
      have h1 := ihl hn.2 hm'
      rw [List.filter_cons, List.filter_cons, up1_ne hx]
      cases hbx : b x
      · simp only [Bool.not_false, if_true, List.length_cons]; omega
      · simpa using h1
theorem closed_up {b : Nat → Bool} {i : Nat} {o : Oper} (hcl : ClosedB ops b) (ho : ops[i]? = some o) (hanc : ∀ e ∈ o.after, Region.binds .any e = true → b e.on = true) : ClosedB ops (up1 b i) := by
  intro j oj hoj hb e hej heb
  by_cases hji : j = i
  · subst hji
    rw [ho] at hoj
    cases hoj
    by_cases hei : e.on = j
    · rw [hei]; exact up1_self _ _
    · rw [up1_ne hei]; exact hanc e hej heb
  · rw [up1_ne hji] at hb
    by_cases hei : e.on = i
    · rw [hei]; exact up1_self _ _
    · rw [up1_ne hei]; exact hcl j oj hoj hb e hej heb

/-- Reads and growing calls first, in whatever order; then the tail. -/
theorem wpAny_rel_tail (hchk : relOk ops = true) {m : Nat} (hmn : m ≤ ops.size) (ht : tailOk ops m = true) {Q : Exit → Act → World → Prop} {a0 : Act} (I : World → Prop) (V : Nat → Value)
    (hstep : ∀ i o, i < m → ops[i]? = some o → ∀ w, I w → stepR P ops o (frB ops allTrue V (List.range i) a0) w (fun u w' => u = V i ∧ I w'))
    (hend : ∀ w, I w → wpList P ops Q (ops.toList.drop m) (frB ops allTrue V (List.range m) a0) w) :
    ∀ (fuel : Nat) (listed : Array Bool) (w : World), listed.size = ops.size → ((List.range m).filter fun j => !bOf listed j).length = fuel → (∀ j, m ≤ j → bOf listed j = false) → ClosedB ops (bOf listed) → I w →
      wpAny P .any ops Q (fuel + (ops.size - m)) listed (frB ops (bOf listed) V (List.range ops.size) a0) w := by
  intro fuel
  induction fuel with
  | zero =>
    intro listed w hsz hc hge hcl hI
    have hall : ∀ j, bOf listed j = decide (j < m) := fun j => by
      by_cases hj : j < m
      · cases hb : bOf listed j with
        | true => simp [hj]
        | false =>
          have := List.eq_nil_of_length_eq_zero hc
          have hm : j ∈ (List.range m).filter fun j => !bOf listed j := List.mem_filter.2 ⟨List.mem_range.2 hj, by simp [hb]⟩
          rw [this] at hm
          cases hm
      · rw [hge j (by omega)]; simp [hj]
    have e : frB ops (bOf listed) V (List.range ops.size) a0 = frB ops allTrue V (List.range m) a0 := by
      rw [show ops.size = m + (ops.size - m) from by omega, List.range_add, frB_append]
      rw [frB_congr (b := bOf listed) (b' := allTrue) (List.range m) a0 (fun j hj => by rw [hall]; simpa [allTrue] using List.mem_range.1 hj)]
      generalize frB ops allTrue V (List.range m) a0 = a
      have hall2 : ∀ l : List Nat, (∀ j ∈ l, m ≤ j) → ∀ a : Act, frB ops (bOf listed) V l a = a := by
        intro l
        induction l with
        | nil => intro _ a; rfl
        | cons j l ih =>
          intro hl a
          show frB ops (bOf listed) V l (putB ops (bOf listed) V a j) = a
          have : putB ops (bOf listed) V a j = a := by unfold putB; rw [hge j (hl j List.mem_cons_self)]; rfl
          rw [this]; exact ih (fun k hk => hl k (List.mem_cons_of_mem _ hk)) a
      exact hall2 _ (fun j hj => by simp at hj; omega) a
    rw [e]
    have hlen : (ops.toList.drop m).length = 0 + (ops.size - m) := by simp
    rw [← hlen]
    exact wpAny_tail hchk ht (ops.toList.drop m) m listed _ w (Nat.le_refl _) hsz (fun j => by rw [List.getElem?_drop, Array.getElem?_toList]) hall (hend w hI)
  | succ fuel ih =>
    intro listed w hsz hc hge hcl hI
    have hex : ∃ j, j < m ∧ bOf listed j = false := by
      cases hl : (List.range m).filter fun j => !bOf listed j with
      | nil => rw [hl] at hc; simp at hc
      | cons j r =>
        have : j ∈ (List.range m).filter fun j => !bOf listed j := by rw [hl]; exact List.mem_cons_self
        obtain ⟨h1, h2⟩ := List.mem_filter.1 this
        exact ⟨j, List.mem_range.1 h1, by simpa using h2⟩
    have e1 : fuel + 1 + (ops.size - m) = (fuel + (ops.size - m)) + 1 := by omega
    rw [e1]
    have hnot : ∀ i o, ops[i]? = some o → bOf listed i = false → (∀ e ∈ o.after, Region.binds .any e = true → bOf listed e.on = true) → i < m := by
      intro i o ho hbi hanc
      rcases Nat.lt_or_ge i m with h' | h'
      · exact h'
      · obtain ⟨j, hj, hbj⟩ := hex
        have := tailOk_spec hchk ht hcl h' ho hanc j (by omega)
        rw [hbj] at this
        cases this
    refine ⟨fun hr => ?_, fun i hi => ?_⟩
    · exfalso
      obtain ⟨j, hj, hbj⟩ := hex
      have : ∀ n j, j < n → j < m → bOf listed j = true := by
        intro n
        induction n with
        | zero => intro j h; omega
        | succ n ihn =>
          intro j hjn hjm
          cases hb : bOf listed j with
          | true => rfl
          | false =>
            exfalso
            have hoj : ops[j]? = some ops[j] := Array.getElem?_eq_getElem (by omega)
            have hm : j ∈ Region.ready .any ops listed := mem_ready.2 ⟨by
              have : j < listed.size := by omega
              simp [bOf, this] at hb ⊢; exact hb, _, hoj, fun e he heb => by
                have h1 := (relOk_spec hchk hoj).1 e he heb
                exact ihn e.on (by omega) (by omega)⟩
            rw [hr] at hm
            cases hm
      have := this (j + 1) j (by omega) hj
      rw [hbj] at this
      cases this
    · obtain ⟨h0, o, ho, hanc⟩ := mem_ready.1 hi
      have hio : i < ops.size := (Array.getElem?_eq_some_iff.1 ho).1
      have hil : i < listed.size := by omega
      have hbi : bOf listed i = false := by simp [bOf, hil] at h0 ⊢; exact h0
      have him := hnot i o ho hbi hanc
      have hst := hstep i o him ho w hI
      obtain ⟨he, hwt⟩ := exec_lex (V := V) (a0 := a0) hchk ho hcl hbi hanc
      have hK : ∀ u w', (u = V i ∧ I w') → wpAny P .any ops Q (fuel + (ops.size - m)) (listed.setIfInBounds i true) ((frB ops (bOf listed) V (List.range ops.size) a0).put o.dst u) w' := by
        rintro u w' ⟨rfl, hI'⟩
        rw [put_lex hchk ho hcl hbi, updV_same, ← bOf_set hil]
        refine ih _ _ (by simpa using hsz) ?_ ?_ ?_ hI'
        · rw [bOf_set hil]
          have := count_up hbi (List.range m) List.nodup_range (List.mem_range.2 him)
          omega
        · intro j hj
          rw [bOf_set hil, up1_ne (by omega)]
          exact hge j hj
        · rw [bOf_set hil]
          exact closed_up hcl ho hanc
      unfold wpOp
      rw [ho]
      simp only
      unfold stepR at hst
      rw [hwt]
      by_cases hw : Region.wanted o (yielded ops (frB ops allTrue V (List.range i) a0).tmps) = true
      · rw [if_pos hw] at hst ⊢
        exact .inl (wp_of_givesR he hst hK)
      · rw [if_neg hw] at hst ⊢
        exact hK _ _ hst

theorem bel_spec {w : World} {E : List Oper → Act → Prop} {a0 : Act} : ∀ (l : List Oper) (i : Nat) (a : Act) (V0 : Nat → Value), (∀ j, l[j]? = ops[i + j]?) → (∀ V : Nat → Value, (∀ j, j < i → V j = V0 j) → frB ops allTrue V (List.range i) a0 = a) →
    belSteps P ops w E l a → ∃ (m : Nat) (V : Nat → Value), i ≤ m ∧ m ≤ i + l.length ∧ (∀ j, j < i → V j = V0 j) ∧ E (l.drop (m - i)) (frB ops allTrue V (List.range m) a0) ∧
      ∀ k o, i ≤ k → k < m → ops[k]? = some o → ∀ W, Below w.heap.size w W → stepR P ops o (frB ops allTrue V (List.range k) a0) W (fun u w' => u = V k ∧ Below w.heap.size w w')
  | [], i, a, V0, hl, ha, h => ⟨i, V0, Nat.le_refl _, by simp, fun _ _ => rfl, by rw [ha V0 (fun _ _ => rfl)]; have h' : E [] a := h; simpa using h', fun k o h1 h2 => by omega⟩
  | o :: rest, i, a, V0, hl, ha, h => by
    rcases h with h | ⟨v, h1, h2⟩
    · exact ⟨i, V0, Nat.le_refl _, by simp, fun _ _ => rfl, by rw [ha V0 (fun _ _ => rfl)]; simpa using h, fun k o h1 h2 => by omega⟩
    · have h0 : ops[i]? = some o := by simpa using (hl 0).symm
      have hd : dstOf ops i = o.dst := by simp [dstOf, h0]
      obtain ⟨m, V, g1, g2, g3, g4, g5⟩ := bel_spec rest (i + 1) (a.put o.dst v) (updV V0 i v) (fun j => by have := hl (j + 1); simpa [Nat.add_assoc, Nat.add_comm 1 j] using this) (fun V hV => by
        rw [List.range_succ, frB_append, ha V (fun j hj => by rw [hV j (by omega), updV_ne (by omega)])]
        show putB ops allTrue V a i = _
        unfold putB
        rw [hd, hV i (by omega), updV_self]
        rfl) h2
      refine ⟨m, V, by omega, by simp at g2 ⊢; omega, fun j hj => by rw [g3 j (by omega), updV_ne (by omega)], ?_, fun k ok hk hkm hok W hW => ?_⟩
      · rw [show m - i = (m - (i + 1)) + 1 from by omega]
        exact g4
      · by_cases e : k = i
        · subst e
          rw [h0] at hok
          cases hok
          have := h1 W hW
          rw [← ha V (fun j hj => by rw [g3 j (by omega), updV_ne (by omega)])] at this
          have hv : V k = v := by rw [g3 k (by omega), updV_self]
          rw [hv]
          exact this
        · exact g5 k ok (by omega) hkm hok W hW

/-- A region that draws: reads and growing calls, then a tail in a forced order. -/
theorem wp_region_tail {id : Nat} {Q : Exit → Act → World → Prop} {a : Act} {w : World} {l : List Oper} (m : Nat) (hm : P.follows .mixedOrders = true) (hchk : relOk l.toArray = true) (ht : tailOk l.toArray m = true)
    (h : ∀ w1, Hid (w1 = w) → belSteps P l.toArray w1 (fun r a => r.length + m = l.length ∧ ∀ W, Below w1.heap.size w1 W → wpList P l.toArray Q r a W) l a) : (Code.region id l.toArray true).wp P Q a w := by
  have h := h w rfl
  obtain ⟨m', V, _, g2, _, ⟨g4, g5⟩, g6⟩ := bel_spec (ops := l.toArray) (a0 := a) l 0 a (fun _ => undef) (fun j => by simp) (fun _ _ => rfl) h
  have hmm : m' = m := by simp at g4 g2; omega
  subst hmm
  refine wp_region_any hm ?_
  have hb : bOf (Array.replicate l.toArray.size false) = fun _ => false := by
    funext j
    simp only [bOf, Array.getD_eq_getD_getElem?, Array.getElem?_replicate]
    split <;> rfl
  have hml : m' ≤ l.toArray.size := by simp at g2 ⊢; exact g2
  have key := wpAny_rel_tail (P := P) (Q := Q) (a0 := a) hchk (m := m') hml ht (fun W => Below w.heap.size w W) V (fun i o hi ho W hW => g6 i o (Nat.zero_le _) hi ho W hW) (fun W hW => by simpa using g5 W hW)
    m' (Array.replicate l.toArray.size false) w.drew (by simp) (by rw [hb]; show (List.filter (fun _ => true) _).length = _; rw [List.filter_eq_self.2 (fun _ _ => rfl), List.length_range]) (fun j _ => by rw [hb]) (by rw [hb]; intro j oj _ h; cases h) (Below.refl _ w).drew
  rw [hb] at key
  have e : frB l.toArray (fun _ => false) V (List.range l.toArray.size) a = a := by
    generalize List.range l.toArray.size = r
    induction r with
    | nil => rfl
    | cons j r ih => exact ih
  rw [e, show m' + (l.toArray.size - m') = l.toArray.size from by omega] at key
  exact key
end
attribute [go_sem] givesR
end Go.Proofs.YtghfjgacnbcclaaGreat
