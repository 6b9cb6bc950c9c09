/- How a region of operations is walked over such values, in the text's order or in any order. -/
import Derived.Test.YtpkfagbllafehaaAmA
namespace Go.Proofs.Am
open Go Go.RowKit
set_option linter.unusedVariables false

def look {α : Type} : List (Nat × α) → Nat → Option α
  | [], _ => none
  | (k, v) :: l, n => bif Nat.beq k n then some v else look l n

structure Gam (E0 : Env) (H0 : Nat → Option Blk) (N : Nat) (F : Nat → Prop) (T : Nat → AV) (H : Nat → Option Blk) (E : Env) (a : Act) : Prop where
  defers : a.defers = []
  size : a.tmps.size = N
  tmp : ∀ t, Rep E (T t) (a.tmps.getD t undef)
  heap : HeapOk E H
  own : ∀ id k r, H id = some k → E.e id = some r → 0 < r.cap → E0.w.heap.size ≤ r.b ∨ Owns E0 H0 r.b
  fresh : ∀ id, F id → E.e id = none
  okb : ∀ b, E.ok b → b < E.w.heap.size
  e : ∀ id r, E0.e id = some r → E.e id = some r
  ok : ∀ b, E0.ok b → E.ok b
  okn : ∀ b, E.ok b → E0.ok b ∨ E0.w.heap.size ≤ b ∨ Owns E0 H0 b
  kp : Kp (Owns E0 H0) E0.w E.w

theorem HeapOk.sub {E : Env} {H H' : Nat → Option Blk} (h : HeapOk E H) (hs : ∀ id k, H' id = some k → H id = some k) : HeapOk E H' :=
  ⟨fun id k hk => h.live id k (hs _ _ hk), fun id id' k k' r r' hk hk' => h.inj id id' k k' r r' (hs _ _ hk) (hs _ _ hk')⟩

def cut (D : Nat → Bool) (H : Nat → Option Blk) : Nat → Option Blk := fun id => bif D id then H id else none
theorem cut_some {D : Nat → Bool} {H : Nat → Option Blk} {id : Nat} {k : Blk} (h : cut D H id = some k) : D id = true ∧ H id = some k := by
  unfold cut at h; cases hd : D id <;> simp [hd] at h; exact ⟨rfl, h⟩

theorem put_getD (a : Act) (dst : Option Nat) (v : Value) (t : Nat) (hd : ∀ d, dst = some d → d < a.tmps.size) : (a.put dst v).tmps.getD t undef = if dst = some t then v else a.tmps.getD t undef := by
  cases dst with
  | none => simp [Act.put]
  | some d =>
    have := hd d rfl
    simp only [Act.put, Array.getD_eq_getD_getElem?, Array.getElem?_setIfInBounds]
    by_cases h : d = t
    · subst h; simp [this]
    · simp [h]

theorem Gam.step {E0 : Env} {H0 : Nat → Option Blk} {N : Nat} {F F1 F' : Nat → Prop} {T : Nat → AV} {H H' : Nat → Option Blk} {E E' : Env} {a : Act} {D : Nat → Bool} {x : AV} {v : Value} {dst : Option Nat}
    (g : Gam E0 H0 N F T H E a) (p : Post E (cut D H) F1 E' (cut D H') x v) (h2 : ∀ id, F' id → F id ∧ ¬ F1 id) (hd : ∀ d, dst = some d → d < N) :
    Gam E0 H0 N F' (fun t => if dst = some t then x else T t) (fun id => bif D id then H' id else H id) E' (a.put dst v) := by
  have sub : HeapOk E (cut D H) := g.heap.sub fun id k h => (cut_some h).2
  have ex := p.ext sub g.okb
  have hsize : (a.put dst v).tmps.size = N := by rw [← g.size]; cases dst <;> simp [Act.put]
  have ow : ∀ b, Owns E (cut D H) b → E0.w.heap.size ≤ b ∨ Owns E0 H0 b := fun b ⟨id, k, r, q1, q2, q3, q4⟩ => q4 ▸ g.own id k r (cut_some q1).2 q2 q3
  refine ⟨?_, hsize, ?_, ?_, ?_, ?_, p.okb, fun id r h => p.e _ _ (g.e _ _ h), fun b h => p.ok _ (g.ok _ h), ?_, ?_⟩
  · have := g.defers; cases dst <;> simpa [Act.put] using this
  · intro t
    rw [put_getD a dst v t (by rw [g.size]; exact hd)]
    by_cases h : dst = some t
    · simp only [h, if_true]; exact p.rep
    · simp only [h, if_false]; exact (g.tmp t).ext ex
  · have hh : HeapOk E' (fun id => bif D id then cut D H' id else H id) := HeapOk.frame (D := D) g.heap g.okb p
    exact hh.sub fun id k h => by
      cases hd : D id <;> simp [hd, cut] at h ⊢ <;> exact h
  · intro id k r h he hc
    cases hd : D id <;> simp [hd] at h
    · obtain ⟨r0, q1, _, q2⟩ := g.heap.live id k h
      have := p.e _ _ q1; rw [he] at this; cases this
      exact g.own id k r h q1 hc
    · rcases p.blk id k r (by simp [cut, hd, h]) he hc with q | q
      · exact .inl (Nat.le_trans g.kp.size q)
      · exact ow _ q
  · intro id hf
    obtain ⟨q1, q2⟩ := h2 id hf
    cases hq : E'.e id with
    | none => rfl
    | some r => exact (q2 (p.new id (g.fresh id q1) (by rw [hq]; simp))).elim
  · intro b hb
    rcases p.okn b hb with q | q | q
    · exact g.okn b q
    · exact .inr (.inl (Nat.le_trans g.kp.size q))
    · exact .inr (ow b q)
  · exact g.kp.trans p.kp fun b hb ho => (ow b ho).resolve_left (by omega)

/-- What an operation does, wherever it stands: it looks at its operands and at the part H of the own variables. -/
def OpSem (P : Program) (o : Oper) (ρ : Operand → AV) (H : Nat → Option Blk) (F : Nat → Prop) (H' : Nat → Option Blk) (x : AV) : Prop :=
  ∀ (Q : Exit → Act → World → Prop) (K : Act → World → Prop) (a : Act) (E : Env), (∀ u, u ∈ o.op.operands → Rep E (ρ u) (a.eval u)) → HeapOk E H → (∀ id, F id → E.e id = none) →
    (∀ b, E.ok b → b < E.w.heap.size) → (∀ v E', Post E H F E' H' x v → K (a.put o.dst v) E'.w) → o.wp P a E.w K Q

theorem OpSem.congr {P : Program} {o : Oper} {ρ ρ' : Operand → AV} {H : Nat → Option Blk} {F : Nat → Prop} {H' : Nat → Option Blk} {x : AV} (h : OpSem P o ρ H F H' x) (hr : ∀ u, u ∈ o.op.operands → ρ' u = ρ u) : OpSem P o ρ' H F H' x :=
  fun Q K a E h1 => h Q K a E (fun u hu => by rw [← hr u hu]; exact h1 u hu)

def cellAV (v : Value) : AV :=
  match v with
  | .slice none 0 0 => .nil
  | v => bif v.oneCell' then .p (.sc v) else .any
def constAV (v : Value) : AV :=
  match v with
  | .agg cs => bif cs.toList.all (fun u => u.oneCell') then .agg (cs.toList.map cellAV) else .any
  | .tuple _ => .any
  | v => cellAV v
def opAV (T : Nat → AV) : Operand → AV
  | .tmp t => T t
  | .const v => constAV v
  | .global _ => .any
  | .func f => .fn f []

theorem rep1_cellAV (E : Env) (v : Value) : Rep1 E (cellAV v) v := by
  unfold cellAV
  split
  · rfl
  · cases h : v.oneCell'
    · exact trivial
    · exact RepP.sc v h
theorem All2.map_self {α β : Type} {R : α → β → Prop} (f : β → α) : ∀ (l : List β), (∀ x, x ∈ l → R (f x) x) → All2 R (l.map f) l
  | [], _ => .nil
  | x :: l, h => .cons (h x List.mem_cons_self) (All2.map_self f l fun y hy => h y (List.mem_cons_of_mem _ hy))
theorem rep_of_rep1 {E : Env} {x : AV} {v : Value} (h : Rep1 E x v) : Rep E x v := by
  cases x <;> first | exact h | exact h.elim
theorem rep_constAV (E : Env) (v : Value) : Rep E (constAV v) v := by
  unfold constAV
  split
  · rename_i cs
    cases h : cs.toList.all (fun u => u.oneCell')
    · exact trivial
    · exact ⟨cs.toList, by simp, All2.map_self _ _ fun u hu => ⟨rep1_cellAV E u, List.all_eq_true.1 h u hu⟩⟩
  · exact trivial
  · exact rep_of_rep1 (rep1_cellAV E v)
theorem rep_opAV {E : Env} {T : Nat → AV} {a : Act} (h : ∀ t, Rep E (T t) (a.tmps.getD t undef)) (u : Operand) : Rep E (opAV T u) (a.eval u) := by
  cases u with
  | tmp t => exact h t
  | const v => exact rep_constAV E v
  | global g => exact trivial
  | func f => exact ⟨[], rfl, .nil⟩

/-- An operation as it came up in the text's order. -/
structure TE where
  dst : Option Nat
  uses : List Nat
  skip : Bool
  touch : List Nat
  put : List (Nat × Option Blk)
  val : AV
def TE.dom (e : TE) (id : Nat) : Bool := e.touch.any (fun k => Nat.beq k id) || (look e.put id).isSome
def TE.T (e : TE) (T : Nat → AV) : Nat → AV := fun t => if e.dst = some t then e.val else T t
def TE.H (e : TE) (H : Nat → Option Blk) : Nat → Option Blk := fun id => match look e.put id with
  | some b => b
  | none => H id
def idsOf (nx i id : Nat) : Prop := nx + 16 * i ≤ id ∧ id < nx + 16 * i + 16

/-- The local whose answer decides whether an operation comes up. -/
def guardTmp (ops : Array Oper) (o : Oper) : Option Nat := o.guard.bind fun g => (ops[g.1]?).bind (·.dst)
def wantedBy (ops : Array Oper) (o : Oper) (T : Nat → AV) : Option Bool :=
  match o.guard with
  | none => some true
  | some (j, want) => match (ops[j]?).bind (·.dst) with
    | none => some false
    | some d => match T d with
      | .p (.sc (.bool b)) => some (b == want)
      | .und => some false
      | _ => none

theorem wanted_of {ops : Array Oper} {o : Oper} {T : Nat → AV} {E : Env} {a : Act} {r : Bool} (h : wantedBy ops o T = some r) (hr : ∀ d, guardTmp ops o = some d → Rep E (T d) (a.tmps.getD d undef)) :
    Region.wanted o (yielded ops a.tmps) = r := by
  unfold wantedBy at h
  unfold Region.wanted
  cases hg : o.guard with
  | none => rw [hg] at h; simpa using h
  | some g =>
    obtain ⟨j, want⟩ := g
    rw [hg] at h
    simp only [yielded] at h ⊢
    cases hd : (ops[j]?).bind (·.dst) with
    | none => rw [hd] at h; simp at h ⊢; exact h
    | some d =>
      rw [hd] at h
      simp only [Option.bind_some] at h ⊢
      have hrep := hr d (by simp [guardTmp, hg, hd])
      rw [Array.getD_eq_getD_getElem?] at hrep
      split at h
      · rename_i b hT
        rw [hT] at hrep
        have hv : a.tmps[d]?.getD undef = .bool b := by
          have hrep' : RepP E.ok E.w (.sc (.bool b)) (a.tmps[d]?.getD undef) := hrep
          generalize a.tmps[d]?.getD undef = q at hrep'
          cases hrep'; rfl
        cases ht : a.tmps[d]? with
        | none => rw [ht] at hv; cases hv
        | some v => rw [ht] at hv; simp at hv; subst hv; simp at h ⊢; exact h
      · rename_i hT
        rw [hT] at hrep
        have hv : a.tmps[d]?.getD undef = undef := hrep
        cases ht : a.tmps[d]? with
        | none => simp at h ⊢; exact h
        | some v => rw [ht] at hv; simp at hv; subst hv; simp [undef] at h ⊢; exact h
      · cases h

structure EntryOk (P : Program) (ops : Array Oper) (N nx i : Nat) (o : Oper) (T : Nat → AV) (H : Nat → Option Blk) (te : TE) : Prop where
  dst : te.dst = o.dst
  dstN : ∀ d, o.dst = some d → d < N
  uses : ∀ t, (Operand.tmp t ∈ o.op.operands ∨ guardTmp ops o = some t) → t ∈ te.uses
  want : wantedBy ops o T = some (!te.skip)
  skip : te.skip = true → te.touch = [] ∧ te.put = [] ∧ te.val = .und
  sem : te.skip = false → OpSem P o (opAV T) (cut te.dom H) (idsOf nx i) (cut te.dom (te.H H)) te.val

def TraceOk (P : Program) (ops : Array Oper) (N nx : Nat) : Nat → List Oper → (Nat → AV) → (Nat → Option Blk) → List TE → Prop
  | _, [], _, _, tr => tr = []
  | i, o :: l, T, H, tr => ∃ te tr', tr = te :: tr' ∧ EntryOk P ops N nx i o T H te ∧ TraceOk P ops N nx (i + 1) l (te.T T) (te.H H) tr'

def allT : List TE → (Nat → AV) → (Nat → AV)
  | [], T => T
  | te :: tr, T => allT tr (te.T T)
def allH : List TE → (Nat → Option Blk) → (Nat → Option Blk)
  | [], H => H
  | te :: tr, H => allH tr (te.H H)

/-- One entry, carried out in a state that agrees with the one in which it was looked at. -/
theorem EntryOk.run {P : Program} {ops : Array Oper} {N nx i : Nat} {o : Oper} {T T' : Nat → AV} {H H' : Nat → Option Blk} {te : TE} (h : EntryOk P ops N nx i o T H te)
    (hT : ∀ t, t ∈ te.uses → T' t = T t) (hH : ∀ id, te.dom id = true → H' id = H id)
    {E0 : Env} {H0 : Nat → Option Blk} {F F' : Nat → Prop} {E : Env} {a : Act} (g : Gam E0 H0 N F T' H' E a) (hF : ∀ id, idsOf nx i id → F id) (hF' : ∀ id, F' id → F id ∧ ¬ idsOf nx i id)
    {Q : Exit → Act → World → Prop} {K : Act → World → Prop} (k : ∀ a E, Gam E0 H0 N F' (te.T T') (te.H H') E a → K a E.w) :
    (if Region.wanted o (yielded ops a.tmps) then o.wp P a E.w K Q ∨ (o.asks P a E.w ∧ LetsOut Q) else K (a.put o.dst undef) E.w) := by
  have hw : Region.wanted o (yielded ops a.tmps) = !te.skip := wanted_of (T := T) h.want fun d hd => by rw [← hT d (h.uses d (.inr hd))]; exact g.tmp d
  rw [hw]
  cases hs : te.skip
  · simp only [Bool.not_false, if_true]
    refine .inl ?_
    have hcut : cut te.dom H' = cut te.dom H := funext fun id => by
      unfold cut; cases hd : te.dom id
      · rfl
      · simp [hH id hd]
    have hcut' : cut te.dom (te.H H') = cut te.dom (te.H H) := funext fun id => by
      unfold cut TE.H; cases hd : te.dom id
      · rfl
      · simp only [cond_true, hH id hd]
    refine h.sem hs Q K a E (fun u hu => ?_) (by rw [← hcut]; exact g.heap.sub fun id k hk => (cut_some hk).2) (fun id hi => g.fresh id (hF id hi)) g.okb (fun v E' p => ?_)
    · have : opAV T u = opAV T' u := by
        cases u with
        | tmp t => exact (hT t (h.uses t (.inl hu))).symm
        | _ => rfl
      rw [this]; exact rep_opAV g.tmp u
    · rw [← hcut, ← hcut'] at p
      have := g.step (dst := o.dst) p hF' h.dstN
      refine k _ _ ?_
      have e1 : te.T T' = fun t => if o.dst = some t then te.val else T' t := by funext t; simp only [TE.T, h.dst]
      have e2 : te.H H' = fun id => bif te.dom id then te.H H' id else H' id := by
        funext id
        cases hd : te.dom id
        · have hl : look te.put id = none := by
            unfold TE.dom at hd; rw [Bool.or_eq_false_iff] at hd
            cases hq : look te.put id with
            | none => rfl
            | some b => rw [hq] at hd; simp at hd
          simp [TE.H, hl]
        · simp
      rw [e1, e2]; exact this
  · simp only [Bool.not_true, Bool.false_eq_true, if_false]
    obtain ⟨s1, s2, s3⟩ := h.skip hs
    have p : Post E (cut (fun _ => false) H') (idsOf nx i) E (cut (fun _ => false) H') .und undef := Post.refl (g.heap.sub fun id k hk => (cut_some hk).2) g.okb rfl
    have := g.step (dst := o.dst) p hF' h.dstN
    refine k _ E ?_
    have e1 : te.T T' = fun t => if o.dst = some t then .und else T' t := by funext t; simp only [TE.T, h.dst, s3]
    have e2 : te.H H' = fun id => bif (fun _ => false) id then H' id else H' id := by funext id; simp [TE.H, s2, look]
    rw [e1, e2]; exact this

/-- In the text's order. -/
theorem TraceOk.text {P : Program} {ops : Array Oper} {N nx : Nat} {E0 : Env} {H0 : Nat → Option Blk} {Q : Exit → Act → World → Prop} : ∀ (l : List Oper) (i : Nat) {T : Nat → AV} {H : Nat → Option Blk} {tr : List TE}, TraceOk P ops N nx i l T H tr →
    ∀ {E : Env} {a : Act}, Gam E0 H0 N (fun id => nx + 16 * i ≤ id) T H E a → (∀ a E, Gam E0 H0 N (fun id => nx + 16 * (i + l.length) ≤ id) (allT tr T) (allH tr H) E a → Q .normal a E.w) → wpList P ops Q l a E.w
  | [], i, T, H, tr, h, E, a, g, k => by
    simp only [TraceOk] at h; subst h
    exact k a E (by simpa [allT, allH] using g)
  | o :: l, i, T, H, tr, h, E, a, g, k => by
    obtain ⟨te, tr', rfl, h1, h2⟩ := h
    unfold wpList
    refine h1.run (fun _ _ => rfl) (fun _ _ => rfl) g (F' := fun id => nx + 16 * (i + 1) ≤ id) (fun id hi => hi.1) (fun id hi => ⟨by omega, fun hq => by unfold idsOf at hq; omega⟩) (fun a' E' g' => ?_)
    exact TraceOk.text l (i + 1) h2 g' (fun a E g2 => k a E (by
      have : i + (o :: l).length = i + 1 + l.length := by simp; omega
      rw [this]; exact g2))

end Go.Proofs.Am
