/- A region that draws its order, whose operations give the same in whatever order they come: each gives its value in every world of S, and leaves one of S; the last, behind all others, leaves one of T. -/
import Derived.OrdersIn
import Derived.TacticsIn
namespace Go.Proofs.Ytdilfdjhablnpaa

variable {F : Fence} {n : Nat} {P : Program}

/-- What an operation gives: its value, in a world of S. -/
def Gives (F : Fence) (n : Nat) (P : Program) (v : Value) (S : World → Prop) : Result Next → Prop
  | .ok (.value u) w => u = v ∧ S w
  | .ok .skip w => v = undef ∧ S w
  | .ok (.enter f args) w => (F.depth.isSome = true → 1 ≤ n) ∧ CallsIn F (n - 1) P f args w fun e w' => e = .returned v ∧ S w'
  | _ => False

theorem Gives.upon {v : Value} {S : World → Prop} {r : Result Next} {o : Oper} {a : Act} {next : Act → World → Prop} {Q : Exit → Act → World → Prop}
    (h : Gives F n P v S r) (hn : ∀ w, S w → next (a.put o.dst v) w) : o.uponIn F n P a next Q r := by
  cases r with
  | ok x w =>
    cases x <;> simp only [Gives] at h <;> try exact h.elim
    · obtain ⟨rfl, h⟩ := h; exact hn _ h
    · obtain ⟨rfl, h⟩ := h; exact hn _ h
    · exact ⟨h.1, h.2.mono (fun e w' he => by obtain ⟨rfl, hs⟩ := he; exact hn _ hs)⟩
  | halt x w => simp only [Gives] at h

/-- Each operand that an operation of the region writes is one of those behind which it comes; no guard; no defer, no select; edges lead back. -/
def goodOp (ops : Array Oper) (i : Nat) (o : Oper) : Bool :=
  o.guard.isNone &&
  (match o.op with | .defer _ | .select .. => false | _ => true) &&
  o.after.all (fun e => decide (e.on < i)) &&
  o.op.operands.all fun x => match x with
    | .tmp t => (List.range ops.size).all fun j => !(((ops[j]?).bind (·.dst)) == some t) || o.after.any fun e => e.on == j && Region.binds .any e
    | _ => true

def goodOps (ops : Array Oper) : Bool := (List.range ops.size).all fun i => (ops[i]?).all (goodOp ops i)

/-- The act, some operations having come, against the one in which all have. -/
structure Agree (ops : Array Oper) (listed : Array Bool) (fin a : Act) : Prop where
  defers : a.defers = fin.defers
  size : a.tmps.size = fin.tmps.size
  same : ∀ t, (∀ j o, ops[j]? = some o → o.dst = some t → listed.getD j false = true) → a.tmps[t]? = fin.tmps[t]?

theorem Agree.put {ops : Array Oper} {listed : Array Bool} {fin a : Act} (h : Agree ops listed fin a) {i : Nat} {o : Oper} (ho : ops[i]? = some o) (v : Value)
    (hv : ∀ t, o.dst = some t → t < fin.tmps.size → fin.tmps[t]? = some v) : Agree ops (listed.setIfInBounds i true) fin (a.put o.dst v) := by
  cases hd : o.dst with
  | none =>
    refine ⟨h.defers, h.size, fun t ht => h.same t fun j oj hj hdj => ?_⟩
    have := ht j oj hj hdj
    by_cases e : i = j
    · subst e; rw [ho] at hj; cases hj; rw [hd] at hdj; cases hdj
    · rwa [getD_set_ne false e] at this
  | some d =>
    refine ⟨h.defers, by simp [Act.put, h.size], fun t ht => ?_⟩
    simp only [Act.put]
    rw [Array.getElem?_setIfInBounds]
    by_cases e : d = t
    · subst e
      rw [if_pos rfl]
      by_cases hl : d < a.tmps.size
      · rw [if_pos hl]; exact (hv d hd (by rw [← h.size]; exact hl)).symm
      · have hz : fin.tmps.size ≤ d := h.size ▸ Nat.le_of_not_lt hl
        rw [if_neg hl]; exact (Array.getElem?_eq_none hz).symm
    · rw [if_neg e]
      refine h.same t fun j oj hj hdj => ?_
      have := ht j oj hj hdj
      by_cases e' : i = j
      · subst e'; rw [ho] at hj; cases hj; rw [hd] at hdj; cases hdj; exact absurd rfl e
      · rwa [getD_set_ne false e'] at this

theorem Agree.done {ops : Array Oper} {listed : Array Bool} {fin a : Act} (h : Agree ops listed fin a) (hall : ∀ j, j < ops.size → listed.getD j false = true) : a = fin := by
  obtain ⟨at_, ad⟩ := a
  obtain ⟨ft, fd⟩ := fin
  have h1 := h.defers
  have h2 : at_ = ft := by
    apply Array.ext_getElem?
    intro t
    exact h.same t fun j o hj _ => hall j (Array.getElem?_eq_some_iff.1 hj).1
  simp only at h1
  rw [h1, h2]

theorem ready_dep {ops : Array Oper} {listed : Array Bool} {i : Nat} (hr : i ∈ Region.ready .any ops listed) : ∃ o, ops[i]? = some o ∧ listed.getD i true = false ∧ ∀ e ∈ o.after, Region.binds .any e = true → listed.getD e.on false = true := by
  obtain ⟨h1, o, ho, h2⟩ := mem_ready.1 hr
  exact ⟨o, ho, h1, h2⟩

theorem good_spec {ops : Array Oper} (h : goodOps ops = true) {i : Nat} {o : Oper} (ho : ops[i]? = some o) : goodOp ops i o = true := by
  have hi : i < ops.size := (Array.getElem?_eq_some_iff.1 ho).1
  have := List.all_eq_true.1 h i (List.mem_range.2 hi)
  rw [ho] at this
  exact this

theorem eval_agree {ops : Array Oper} (hg : goodOps ops = true) {listed : Array Bool} {fin a : Act} (h : Agree ops listed fin a) {i : Nat} (hr : i ∈ Region.ready .any ops listed) {o : Oper} (ho : ops[i]? = some o) :
    execOp a.eval o = execOp fin.eval o := by
  obtain ⟨o', ho', _, hdep⟩ := ready_dep hr
  rw [ho] at ho'; cases ho'
  have hgo := good_spec hg ho
  simp only [goodOp, Bool.and_eq_true] at hgo
  obtain ⟨⟨⟨_, hsel⟩, _⟩, hops⟩ := hgo
  refine execOp_congr o (fun cs b e => by rw [e] at hsel; cases hsel) fun x hx => ?_
  cases x with
  | tmp t =>
    have ht := Array.all_eq_true_iff_forall_mem.1 hops _ hx
    simp only [List.all_eq_true, List.mem_range] at ht
    have := h.same t fun j oj hj hdj => by
      have hj' := ht j (Array.getElem?_eq_some_iff.1 hj).1
      rw [hj] at hj'
      simp only [Option.bind_some, hdj, beq_self_eq_true, Bool.not_true, Bool.false_or, Array.any_eq_true', Bool.and_eq_true, beq_iff_eq] at hj'
      obtain ⟨e, he, rfl, hb⟩ := hj'
      exact hdep e he hb
    show a.tmps.getD t undef = fin.tmps.getD t undef
    rw [Array.getD_eq_getD_getElem?, Array.getD_eq_getD_getElem?, this]
  | const v => rfl
  | global g => rfl
  | func f => rfl

/-- How many have not come. -/
def left (ops : Array Oper) (listed : Array Bool) : Nat := ((List.range ops.size).filter fun j => !listed.getD j false).length

theorem left_set {ops : Array Oper} {listed : Array Bool} {i : Nat} (hsz : listed.size = ops.size) (hi : i < ops.size) (hl : listed.getD i true = false) : left ops (listed.setIfInBounds i true) + 1 = left ops listed := by
  unfold left
  have hl' : listed.getD i false = false := by
    rw [Array.getD_eq_getD_getElem?] at hl ⊢
    rw [Array.getElem?_eq_getElem (by omega)] at hl ⊢
    simpa using hl
  have key : ∀ m, ((List.range m).filter fun j => !(listed.setIfInBounds i true).getD j false).length + (if i < m then 1 else 0) = ((List.range m).filter fun j => !listed.getD j false).length := by
    intro m
    induction m with
    | zero => simp
    | succ m ih =>
      rw [List.range_succ, List.filter_append, List.filter_append, List.length_append, List.length_append]
      by_cases e : i = m
      · subst e
        have h1 : (listed.setIfInBounds i true).getD i false = true := by
          rw [Array.getD_eq_getD_getElem?, Array.getElem?_setIfInBounds, if_pos rfl, if_pos (by omega)]; rfl
        rw [if_neg (Nat.lt_irrefl i)] at ih
        rw [if_pos (Nat.lt_succ_self i)]
        simp only [List.filter_cons, h1, hl', List.filter_nil]
        simp at ih ⊢
        omega
      · rw [List.filter_cons, List.filter_cons, getD_set_ne false e]
        split <;> split <;> split at ih <;> simp at ih ⊢ <;> omega
  have := key ops.size
  rw [if_pos hi] at this
  exact this

theorem left_zero {ops : Array Oper} {listed : Array Bool} (h : left ops listed = 0) : ∀ j, j < ops.size → listed.getD j false = true := by
  intro j hj
  unfold left at h
  have := List.filter_eq_nil_iff.1 (List.length_eq_zero_iff.1 h) j (List.mem_range.2 hj)
  simpa using this

/-- Something can come, as long as something hasn't. -/
theorem some_ready {ops : Array Oper} (hg : goodOps ops = true) {listed : Array Bool} (hsz : listed.size = ops.size) (h : left ops listed ≠ 0) : Region.ready .any ops listed ≠ [] := by
  intro hr
  apply h
  have : ∀ j, j < ops.size → listed.getD j false = true := by
    intro j
    induction j using Nat.strongRecOn with
    | ind j ih =>
      intro hj
      cases hl : listed.getD j false with
      | true => rfl
      | false =>
        exfalso
        obtain ⟨o, ho⟩ : ∃ o, ops[j]? = some o := ⟨_, Array.getElem?_eq_getElem hj⟩
        have hgo := good_spec hg ho
        simp only [goodOp, Bool.and_eq_true] at hgo
        obtain ⟨⟨_, hlt⟩, _⟩ := hgo
        have hmem : j ∈ Region.ready .any ops listed := mem_ready.2 ⟨by
          rw [Array.getD_eq_getD_getElem?] at hl ⊢
          rw [Array.getElem?_eq_getElem (by omega)] at hl ⊢
          simpa using hl, o, ho, fun e he _ => ih e.on (by have := Array.all_eq_true_iff_forall_mem.1 hlt e he; simpa using this) (by
            have := Array.all_eq_true_iff_forall_mem.1 hlt e he
            have : e.on < j := by simpa using this
            omega)⟩
        rw [hr] at hmem
        cases hmem
  unfold left
  rw [List.length_eq_zero_iff, List.filter_eq_nil_iff]
  intro j hj
  simp [this j (List.mem_range.1 hj)]

/-- The last operation comes behind all others. -/
def lastOp (ops : Array Oper) : Bool := (ops[ops.size - 1]?).any fun o => (List.range (ops.size - 1)).all fun j => o.after.any fun e => e.on == j && Region.binds .any e

theorem any_steps {ops : Array Oper} {Q : Exit → Act → World → Prop} (hg : goodOps ops = true) (hlast : lastOp ops = true) (hFn : ∀ f, F.fn f) (fin : Act) (S T : World → Prop) (vals : Nat → Value)
    (hv : ∀ i o t, ops[i]? = some o → o.dst = some t → t < fin.tmps.size → fin.tmps[t]? = some (vals i))
    (hS : ∀ i o, i + 1 < ops.size → ops[i]? = some o → ∀ w, S w → Gives F n P (vals i) S ((execOp fin.eval o).run P w))
    (hT : ∀ o, ops[ops.size - 1]? = some o → ∀ w, S w → Gives F n P (vals (ops.size - 1)) T ((execOp fin.eval o).run P w))
    (hQ : ∀ w, T w → Q .normal fin w) :
    ∀ (fuel : Nat) (listed : Array Bool) (a : Act) (w : World), listed.size = ops.size → left ops listed = fuel → listed.getD (ops.size - 1) true = false → Agree ops listed fin a → S w → wpAnyIn F n P .any ops Q fuel listed a w := by
  intro fuel
  induction fuel with
  | zero =>
    intro listed a w hsz hl hlst ha hw
    exfalso
    have hall := left_zero hl
    by_cases h0 : ops.size = 0
    · rw [Array.getD_eq_getD_getElem?, Array.getElem?_eq_none (by omega)] at hlst; simp at hlst
    · have := hall (ops.size - 1) (by omega)
      rw [Array.getD_eq_getD_getElem?] at this hlst
      rw [Array.getElem?_eq_getElem (by omega)] at this hlst
      simp_all
  | succ fuel ih =>
    intro listed a w hsz hl hlst ha hw
    refine ⟨fun hr => absurd hr (some_ready hg hsz (by omega)), fun i hi => ?_⟩
    obtain ⟨o, ho, hli, hdep⟩ := ready_dep hi
    have hio : i < ops.size := (Array.getElem?_eq_some_iff.1 ho).1
    have hgo := good_spec hg ho
    have hev := eval_agree hg ha hi ho
    simp only [goodOp, Bool.and_eq_true] at hgo
    obtain ⟨⟨⟨hguard, hsel⟩, _⟩, _⟩ := hgo
    have hgd : o.guard = none := by simpa using hguard
    have hdf : ∀ c, o.op ≠ .defer c := fun c e => by rw [e] at hsel; cases hsel
    unfold wpOpIn
    simp only [ho]
    have hwant : Region.wanted o (yielded ops a.tmps) = true := by unfold Region.wanted; rw [hgd]
    rw [if_pos hwant]
    refine ⟨fun f _ => hFn f, ?_⟩
    rw [Oper.semAt_eq _ _ _ hdf, hev]
    have hleft := left_set hsz hio hli
    by_cases hil : i = ops.size - 1
    · subst hil
      refine (hT o ho w hw).upon fun w' hw' => ?_
      have hag := ha.put ho (vals (ops.size - 1)) (fun t ht hlt => hv _ o t ho ht hlt)
      have hall : ∀ j, j < ops.size → (listed.setIfInBounds (ops.size - 1) true).getD j false = true := by
        intro j hj
        by_cases e : ops.size - 1 = j
        · rw [← e, Array.getD_eq_getD_getElem?, Array.getElem?_setIfInBounds, if_pos rfl, if_pos (by omega)]; rfl
        · rw [getD_set_ne false e]
          unfold lastOp at hlast
          rw [ho] at hlast
          have := List.all_eq_true.1 hlast j (List.mem_range.2 (by omega))
          rw [Array.any_eq_true'] at this
          obtain ⟨e', he', hb⟩ := this
          simp only [Bool.and_eq_true, beq_iff_eq] at hb
          obtain ⟨rfl, hb⟩ := hb
          exact hdep e' he' hb
      have hfin := hag.done hall
      rw [hfin]
      have hr0 : Region.ready .any ops (listed.setIfInBounds (ops.size - 1) true) = [] := by
        rw [List.eq_nil_iff_forall_not_mem]
        intro j hj
        obtain ⟨oj, hoj, hlj, _⟩ := ready_dep hj
        have hjs := (Array.getElem?_eq_some_iff.1 hoj).1
        have := hall j hjs
        rw [Array.getD_eq_getD_getElem?] at this hlj
        rw [Array.getElem?_eq_getElem (by simp; omega)] at this hlj
        simp_all
      cases fuel with
      | zero => exact ⟨hr0, hQ _ hw'⟩
      | succ f => exact ⟨fun _ => hQ _ hw', fun j hj => by rw [hr0] at hj; cases hj⟩
    · refine (hS i o (by omega) ho w hw).upon fun w' hw' => ?_
      refine ih _ _ _ (by simpa using hsz) (by omega) ?_ (ha.put ho (vals i) (fun t ht hlt => hv _ o t ho ht hlt)) hw'
      rw [getD_set_ne true (by omega)]; exact hlst

/-- The region. -/
theorem region_steps {id : Nat} {ops : Array Oper} {Q : Exit → Act → World → Prop} {a : Act} {w : World} (hm : P.follows .mixedOrders = true) (hg : goodOps ops = true) (hlast : lastOp ops = true) (hne : 0 < ops.size) (hFn : ∀ f, F.fn f) (fin : Act) (S T : World → Prop) (vals : Nat → Value)
    (hag : Agree ops (Array.replicate ops.size false) fin a)
    (hv : ∀ i o t, ops[i]? = some o → o.dst = some t → t < fin.tmps.size → fin.tmps[t]? = some (vals i))
    (h0 : S { w with drawn := w.drawn + 1 })
    (hS : ∀ i o, i + 1 < ops.size → ops[i]? = some o → ∀ w, S w → Gives F n P (vals i) S ((execOp fin.eval o).run P w))
    (hT : ∀ o, ops[ops.size - 1]? = some o → ∀ w, S w → Gives F n P (vals (ops.size - 1)) T ((execOp fin.eval o).run P w))
    (hQ : ∀ w, T w → Q .normal fin w) : (Code.region id ops true).wpIn F n P Q a w := by
  refine wpIn_region_any hm (any_steps hg hlast hFn fin S T vals hv hS hT hQ ops.size _ a _ (by simp) ?_ ?_ hag h0)
  · unfold left
    have : ((List.range ops.size).filter fun j => !(Array.replicate ops.size false).getD j false) = List.range ops.size := by
      rw [List.filter_eq_self]
      intro j hj
      rw [Array.getD_eq_getD_getElem?, Array.getElem?_replicate]
      split <;> rfl
    rw [this, List.length_range]
  · rw [Array.getD_eq_getD_getElem?, Array.getElem?_replicate, if_pos (by omega)]; rfl

/-- The act behind the first m operations. -/
def putsTo (ops : Array Oper) (vals : Nat → Value) (a : Act) : Nat → Act
  | 0 => a
  | m + 1 => (putsTo ops vals a m).put ((ops[m]?).bind (·.dst)) (vals m)

/-- No two operations write one slot. -/
def apartOps (ops : Array Oper) : Bool := (List.range ops.size).all fun i => (List.range i).all fun j =>
  match (ops[i]?).bind (·.dst), (ops[j]?).bind (·.dst) with | some s, some t => s != t | _, _ => true

theorem putsTo_spec {ops : Array Oper} (hap : apartOps ops = true) (vals : Nat → Value) (a : Act) : ∀ m, m ≤ ops.size →
    (putsTo ops vals a m).defers = a.defers ∧ (putsTo ops vals a m).tmps.size = a.tmps.size ∧
    (∀ t, (∀ j, j < m → (ops[j]?).bind (·.dst) ≠ some t) → (putsTo ops vals a m).tmps[t]? = a.tmps[t]?) ∧
    (∀ i t, i < m → (ops[i]?).bind (·.dst) = some t → t < a.tmps.size → (putsTo ops vals a m).tmps[t]? = some (vals i)) := by
  intro m
  induction m with
  | zero => exact fun _ => ⟨rfl, rfl, fun _ _ => rfl, fun i t hi => by omega⟩
  | succ m ih =>
    intro hm
    obtain ⟨h1, h2, h3, h4⟩ := ih (by omega)
    cases hd : (ops[m]?).bind (·.dst) with
    | none =>
      have e : putsTo ops vals a (m + 1) = putsTo ops vals a m := by simp only [putsTo, hd, Act.put]
      rw [e]
      refine ⟨h1, h2, fun t ht => h3 t (fun j hj => ht j (by omega)), fun i t hi hit hlt => ?_⟩
      by_cases em : i = m
      · subst em; rw [hd] at hit; cases hit
      · exact h4 i t (by omega) hit hlt
    | some d =>
      have e : putsTo ops vals a (m + 1) = { putsTo ops vals a m with tmps := (putsTo ops vals a m).tmps.setIfInBounds d (vals m) } := by simp only [putsTo, hd, Act.put]
      rw [e]
      refine ⟨h1, by simp [h2], fun t ht => ?_, fun i t hi hit hlt => ?_⟩
      · have hne : d ≠ t := fun e => ht m (by omega) (by rw [hd, e])
        simp only [Array.getElem?_setIfInBounds, if_neg hne]
        exact h3 t (fun j hj => ht j (by omega))
      · by_cases em : i = m
        · subst em
          rw [hd] at hit
          cases hit
          have : d < (putsTo ops vals a i).tmps.size := h2 ▸ hlt
          simp only [Array.getElem?_setIfInBounds, if_pos, this]
        · have hne : d ≠ t := fun e => by
            have := List.all_eq_true.1 (List.all_eq_true.1 hap m (List.mem_range.2 (by omega))) i (List.mem_range.2 (by omega))
            rw [hd, hit, e] at this
            simp at this
          simp only [Array.getElem?_setIfInBounds, if_neg hne]
          exact h4 i t (by omega) hit hlt

theorem region_puts {id : Nat} {ops : Array Oper} {Q : Exit → Act → World → Prop} {a : Act} {w : World} (hm : P.follows .mixedOrders = true) (hg : goodOps ops = true) (hlast : lastOp ops = true) (hap : apartOps ops = true) (hne : 0 < ops.size) (hFn : ∀ f, F.fn f) (S T : World → Prop) (vals : Nat → Value)
    (fin : Act) (hfin : putsTo ops vals a ops.size = fin) (h0 : S { w with drawn := w.drawn + 1 })
    (hS : ∀ i o, i + 1 < ops.size → ops[i]? = some o → ∀ w, S w → Gives F n P (vals i) S ((execOp fin.eval o).run P w))
    (hT : ∀ o, ops[ops.size - 1]? = some o → ∀ w, S w → Gives F n P (vals (ops.size - 1)) T ((execOp fin.eval o).run P w))
    (hQ : ∀ w, T w → Q .normal fin w) : (Code.region id ops true).wpIn F n P Q a w := by
  obtain ⟨h1, h2, h3, h4⟩ := putsTo_spec hap vals a ops.size (Nat.le_refl _)
  rw [hfin] at h1 h2 h3 h4
  refine region_steps hm hg hlast hne hFn fin S T vals ⟨h1.symm, h2.symm, fun t ht => (h3 t fun j hj e => ?_).symm⟩ (fun i o t ho hd hlt => h4 i t (Array.getElem?_eq_some_iff.1 ho).1 (by rw [ho]; exact hd) (h2 ▸ hlt)) h0 hS hT hQ
  obtain ⟨o, ho⟩ : ∃ o, ops[j]? = some o := ⟨_, Array.getElem?_eq_getElem hj⟩
  rw [ho] at e
  have := ht j o ho e
  rw [Array.getD_eq_getD_getElem?, Array.getElem?_replicate] at this
  split at this <;> cases this

end Go.Proofs.Ytdilfdjhablnpaa
