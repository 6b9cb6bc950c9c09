/- A region whose order Go leaves open: what was found in the text's order holds in any order. -/
import Derived.Test.YtpkfagbllafehaaAmB
namespace Go.Proofs.Am
open Go Go.RowKit
set_option linter.unusedVariables false
set_option linter.unusedSimpArgs false

theorem Gam.world {E0 : Env} {H0 : Nat → Option Blk} {N : Nat} {F : Nat → Prop} {T : Nat → AV} {H : Nat → Option Blk} {E : Env} {a : Act} (g : Gam E0 H0 N F T H E a) (w' : World)
    (h1 : w'.heap = E.w.heap) (h2 : w'.os = E.w.os) (h3 : w'.tape = E.w.tape) (h4 : w'.output = E.w.output) : Gam E0 H0 N F T H ⟨E.e, E.ok, w'⟩ a := by
  have ex : Ext E ⟨E.e, E.ok, w'⟩ := ⟨fun _ _ h => h, fun _ h => h, fun b _ => by rw [h1]⟩
  refine ⟨g.defers, g.size, fun t => (g.tmp t).ext ex, ⟨fun id k hk => ?_, g.heap.inj⟩, g.own, g.fresh, fun b hb => by rw [h1]; exact g.okb b hb, g.e, g.ok, g.okn, ?_⟩
  · obtain ⟨r, q1, q2, q3⟩ := g.heap.live id k hk
    exact ⟨r, q1, q2.ext ex (fun _ => by rw [h1]), fun hc => by rw [h1]; exact q3 hc⟩
  · exact ⟨h2.trans g.kp.os, h3.trans g.kp.tape, h4.trans g.kp.output, by rw [h1]; exact g.kp.size, fun b hb hm => by rw [h1]; exact g.kp.block b hb hm⟩

def applyT (D : Nat → Bool) : Nat → List TE → (Nat → AV) → (Nat → AV)
  | _, [], T => T
  | i, te :: tr, T => applyT D (i + 1) tr (bif D i then te.T T else T)
def applyH (D : Nat → Bool) : Nat → List TE → (Nat → Option Blk) → (Nat → Option Blk)
  | _, [], T => T
  | i, te :: tr, T => applyH D (i + 1) tr (bif D i then te.H T else T)

theorem applyT_none {D : Nat → Bool} : ∀ (tr : List TE) (i : Nat) (T : Nat → AV), (∀ k, i ≤ k → D k = false) → applyT D i tr T = T
  | [], _, _, _ => rfl
  | te :: tr, i, T, h => by unfold applyT; rw [h i (Nat.le_refl _)]; exact applyT_none tr (i + 1) T fun k hk => h k (by omega)
theorem applyH_none {D : Nat → Bool} : ∀ (tr : List TE) (i : Nat) (T : Nat → Option Blk), (∀ k, i ≤ k → D k = false) → applyH D i tr T = T
  | [], _, _, _ => rfl
  | te :: tr, i, T, h => by unfold applyH; rw [h i (Nat.le_refl _)]; exact applyH_none tr (i + 1) T fun k hk => h k (by omega)
theorem applyT_all : ∀ (tr : List TE) (i : Nat) (T : Nat → AV) {D : Nat → Bool}, (∀ k, k < tr.length → D (i + k) = true) → applyT D i tr T = allT tr T
  | [], _, _, _, _ => rfl
  | te :: tr, i, T, D, h => by
    unfold applyT allT
    rw [show D i = true from h 0 (by simp)]
    exact applyT_all tr (i + 1) _ fun k hk => by have := h (k + 1) (by simpa using hk); rw [show i + 1 + k = i + (k + 1) by omega]; exact this
theorem applyH_all : ∀ (tr : List TE) (i : Nat) (T : Nat → Option Blk) {D : Nat → Bool}, (∀ k, k < tr.length → D (i + k) = true) → applyH D i tr T = allH tr T
  | [], _, _, _, _ => rfl
  | te :: tr, i, T, D, h => by
    unfold applyH allH
    rw [show D i = true from h 0 (by simp)]
    exact applyH_all tr (i + 1) _ fun k hk => by have := h (k + 1) (by simpa using hk); rw [show i + 1 + k = i + (k + 1) by omega]; exact this

theorem applyT_congr {D D' : Nat → Bool} (t : Nat) : ∀ (tr : List TE) (i : Nat) (T T' : Nat → AV), T t = T' t → (∀ k te, tr[k]? = some te → te.dst = some t → D (i + k) = D' (i + k)) → applyT D i tr T t = applyT D' i tr T' t
  | [], _, _, _, h, _ => h
  | te :: tr, i, T, T', h, hd => by
    unfold applyT
    refine applyT_congr t tr (i + 1) _ _ ?_ fun k te' hk hte => by have := hd (k + 1) te' (by simpa using hk) hte; rw [show i + 1 + k = i + (k + 1) by omega]; exact this
    by_cases hw : te.dst = some t
    · have := hd 0 te rfl hw
      rw [Nat.add_zero] at this
      rw [this]
      cases D' i
      · exact h
      · simp [TE.T, hw]
    · cases D i <;> cases D' i <;> simp [TE.T, hw, h]
theorem applyT_last {D : Nat → Bool} (t : Nat) : ∀ (tr : List TE) (i j : Nat) (T : Nat → AV) (te : TE), tr[j]? = some te → te.dst = some t → D (i + j) = true → (∀ k te', j < k → tr[k]? = some te' → te'.dst = some t → D (i + k) = false) → applyT D i tr T t = te.val
  | [], _, _, _, _, h, _, _, _ => by simp at h
  | te0 :: tr, i, 0, T, te, h, hd, hD, hk => by
    simp at h; subst h
    unfold applyT
    rw [show D i = true from hD]
    have : applyT D (i + 1) tr (te0.T T) t = applyT (fun _ => false) (i + 1) tr (te0.T T) t := applyT_congr t tr (i + 1) _ _ rfl fun k te' hq hte => by
      have := hk (k + 1) te' (by omega) (by simpa using hq) hte
      rw [show i + 1 + k = i + (k + 1) by omega]; exact this
    simp only [cond_true]
    rw [this, applyT_none _ _ _ (fun _ _ => rfl)]
    simp [TE.T, hd]
  | te0 :: tr, i, j + 1, T, te, h, hd, hD, hk => by
    unfold applyT
    exact applyT_last t tr (i + 1) j _ te (by simpa using h) hd (by rw [show i + 1 + j = i + (j + 1) by omega]; exact hD) fun k te' hjk hq hte => by
      have := hk (k + 1) te' (by omega) (by simpa using hq) hte
      rw [show i + 1 + k = i + (k + 1) by omega]; exact this
theorem applyH_congr {D D' : Nat → Bool} (id : Nat) : ∀ (tr : List TE) (i : Nat) (T T' : Nat → Option Blk), T id = T' id → (∀ k te, tr[k]? = some te → (look te.put id).isSome = true → D (i + k) = D' (i + k)) → applyH D i tr T id = applyH D' i tr T' id
  | [], _, _, _, h, _ => h
  | te :: tr, i, T, T', h, hd => by
    unfold applyH
    refine applyH_congr id tr (i + 1) _ _ ?_ fun k te' hk hte => by have := hd (k + 1) te' (by simpa using hk) hte; rw [show i + 1 + k = i + (k + 1) by omega]; exact this
    cases hw : look te.put id with
    | some b =>
      have := hd 0 te rfl (by rw [hw]; rfl)
      rw [Nat.add_zero] at this
      rw [this]
      cases D' i
      · exact h
      · simp [TE.H, hw]
    | none => cases D i <;> cases D' i <;> simp [TE.H, hw, h]
theorem applyH_last {D : Nat → Bool} (id : Nat) {b : Option Blk} : ∀ (tr : List TE) (i j : Nat) (T : Nat → Option Blk) (te : TE), tr[j]? = some te → look te.put id = some b → D (i + j) = true → (∀ k te', j < k → tr[k]? = some te' → (look te'.put id).isSome = true → D (i + k) = false) → applyH D i tr T id = b
  | [], _, _, _, _, h, _, _, _ => by simp at h
  | te0 :: tr, i, 0, T, te, h, hd, hD, hk => by
    simp at h; subst h
    unfold applyH
    rw [show D i = true from hD]
    have : applyH D (i + 1) tr (te0.H T) id = applyH (fun _ => false) (i + 1) tr (te0.H T) id := applyH_congr id tr (i + 1) _ _ rfl fun k te' hq hte => by
      have := hk (k + 1) te' (by omega) (by simpa using hq) hte
      rw [show i + 1 + k = i + (k + 1) by omega]; exact this
    simp only [cond_true]
    rw [this, applyH_none _ _ _ (fun _ _ => rfl)]
    simp [TE.H, hd]
  | te0 :: tr, i, j + 1, T, te, h, hd, hD, hk => by
    unfold applyH
    exact applyH_last id tr (i + 1) j _ te (by simpa using h) hd (by rw [show i + 1 + j = i + (j + 1) by omega]; exact hD) fun k te' hjk hq hte => by
      have := hk (k + 1) te' (by omega) (by simpa using hq) hte
      rw [show i + 1 + k = i + (k + 1) by omega]; exact this

theorem TraceOk.entry {P : Program} {ops : Array Oper} {N nx : Nat} : ∀ (l : List Oper) (i : Nat) {T : Nat → AV} {H : Nat → Option Blk} {tr : List TE}, TraceOk P ops N nx i l T H tr →
    ∀ (j : Nat) (o : Oper), l[j]? = some o → ∃ te, tr[j]? = some te ∧ EntryOk P ops N nx (i + j) o (applyT (fun k => decide (k < i + j)) i tr T) (applyH (fun k => decide (k < i + j)) i tr H) te
  | [], _, _, _, _, _, _, _, h => by simp at h
  | o0 :: l, i, T, H, tr, h, 0, o, hj => by
    obtain ⟨te, tr', rfl, h1, h2⟩ := h
    simp at hj; subst hj
    refine ⟨te, rfl, ?_⟩
    rw [applyT_none _ _ _ (fun k hk => by simp; omega), applyH_none _ _ _ (fun k hk => by simp; omega)]
    exact h1
  | o0 :: l, i, T, H, tr, h, j + 1, o, hj => by
    obtain ⟨te, tr', rfl, h1, h2⟩ := h
    obtain ⟨te', g1, g2⟩ := TraceOk.entry l (i + 1) h2 j o (by simpa using hj)
    refine ⟨te', by simpa using g1, ?_⟩
    unfold applyT applyH
    rw [show decide (i < i + (j + 1)) = true by simp]
    rw [show i + 1 + j = i + (j + 1) by omega] at g2
    exact g2
theorem TraceOk.length {P : Program} {ops : Array Oper} {N nx : Nat} : ∀ (l : List Oper) (i : Nat) {T : Nat → AV} {H : Nat → Option Blk} {tr : List TE}, TraceOk P ops N nx i l T H tr → tr.length = l.length
  | [], _, _, _, _, h => by simp only [TraceOk] at h; subst h; rfl
  | o0 :: l, i, T, H, tr, h => by
    obtain ⟨te, tr', rfl, h1, h2⟩ := h
    simp [TraceOk.length l (i + 1) h2]

/-- May two not change places? -/
def conf (a b : TE) : Bool :=
  (match a.dst with
    | some d => b.uses.any (fun t => Nat.beq t d) || (match b.dst with | some e => Nat.beq d e | none => false)
    | none => false) ||
  (match b.dst with
    | some d => a.uses.any (fun t => Nat.beq t d)
    | none => false) || a.put.any (fun p => b.dom p.1) || b.put.any (fun p => a.dom p.1)

def upB (B : List Nat) (j : Nat) : List Edge → Nat
  | [] => 0
  | e :: r => (bif Region.binds .any e then (2 ^ e.on ||| (bif Nat.blt e.on j then B.getD e.on 0 else 0)) else 0) ||| upB B j r
/-- Each operation's forerunners, as bits. -/
def bits : List Oper → Nat → List Nat → List Nat
  | [], _, B => B
  | o :: l, j, B => bits l (j + 1) (B ++ [upB B j o.after.toList])
def edgesOk (o : Oper) (j : Nat) : Bool := o.after.toList.all fun e => !Region.binds .any e || Nat.blt e.on j
def opsOk (B : List Nat) : List Oper → Nat → Bool
  | [], _ => true
  | o :: l, j => edgesOk o j && Nat.beq (B.getD j 0) (upB B j o.after.toList) && opsOk B l (j + 1)
def laterOk (te : TE) (i : Nat) : List TE → List Nat → Bool
  | [], _ => true
  | _ :: _, [] => false
  | x :: tr, b :: bs => (!conf te x || b.testBit i) && laterOk te i tr bs
def pairsOk : List TE → Nat → List Nat → Bool
  | [], _, _ => true
  | _ :: _, _, [] => false
  | te :: tr, i, _ :: bs => laterOk te i tr bs && pairsOk tr (i + 1) bs
def indep (l : List Oper) (tr : List TE) : Bool :=
  let B := bits l 0 []
  opsOk B l 0 && pairsOk tr 0 B

theorem nbeq {a b : Nat} : Nat.beq a b = true ↔ a = b := Nat.beq_eq ▸ Iff.rfl

theorem look_any {α : Type} {p : List (Nat × α)} {id : Nat} : (look p id).isSome = true → ∃ q, q ∈ p ∧ q.1 = id := by
  induction p with
  | nil => intro h; simp [look] at h
  | cons x l ih =>
    intro h
    unfold look at h
    cases hb : Nat.beq x.1 id
    · rw [hb] at h; simp only [cond_false] at h
      obtain ⟨q, h1, h2⟩ := ih h
      exact ⟨q, List.mem_cons_of_mem _ h1, h2⟩
    · exact ⟨x, List.mem_cons_self, Nat.eq_of_beq_eq_true hb⟩

theorem upB_bit {B : List Nat} {j i : Nat} : ∀ {l : List Edge}, (upB B j l).testBit i = true → ∃ e, e ∈ l ∧ Region.binds .any e = true ∧ (e.on = i ∨ (e.on < j ∧ (B.getD e.on 0).testBit i = true))
  | [], h => by simp [upB] at h
  | e :: r, h => by
    unfold upB at h
    rw [Nat.testBit_or, Bool.or_eq_true] at h
    rcases h with h | h
    · cases hb : Region.binds .any e
      · rw [hb] at h; simp at h
      · rw [hb] at h
        simp only [cond_true, Nat.testBit_or, Bool.or_eq_true] at h
        rcases h with h | h
        · rw [Nat.testBit_two_pow] at h
          exact ⟨e, List.mem_cons_self, hb, .inl (by simpa using h)⟩
        · cases hl : Nat.blt e.on j
          · rw [hl] at h; simp at h
          · rw [hl] at h
            refine ⟨e, List.mem_cons_self, hb, .inr ⟨by simpa [Nat.blt_eq] using hl, h⟩⟩
    · obtain ⟨e', h1, h2⟩ := upB_bit h
      exact ⟨e', List.mem_cons_of_mem _ h1, h2⟩

theorem opsOk_at {B : List Nat} : ∀ {l : List Oper} {j0 : Nat}, opsOk B l j0 = true → ∀ {j : Nat} {o : Oper}, l[j]? = some o → edgesOk o (j0 + j) = true ∧ B.getD (j0 + j) 0 = upB B (j0 + j) o.after.toList
  | [], _, _, j, o, h => by simp at h
  | o0 :: l, j0, h, 0, o, hj => by
    simp at hj; subst hj
    simp only [opsOk, Bool.and_eq_true] at h
    exact ⟨h.1.1, Nat.eq_of_beq_eq_true h.1.2⟩
  | o0 :: l, j0, h, j + 1, o, hj => by
    simp only [opsOk, Bool.and_eq_true] at h
    have := opsOk_at h.2 (j := j) (o := o) (by simpa using hj)
    rw [show j0 + 1 + j = j0 + (j + 1) by omega] at this
    exact this

theorem laterOk_at {te : TE} {i : Nat} : ∀ {tr : List TE} {bs : List Nat}, laterOk te i tr bs = true → ∀ {j : Nat} {x : TE}, tr[j]? = some x → conf te x = true → (bs.getD j 0).testBit i = true
  | [], _, _, j, x, h, _ => by simp at h
  | _ :: _, [], h, _, _, _, _ => by simp [laterOk] at h
  | x0 :: tr, b :: bs, h, 0, x, hj, hc => by
    simp at hj; subst hj
    simp only [laterOk, Bool.and_eq_true, hc] at h
    simpa using h.1
  | x0 :: tr, b :: bs, h, j + 1, x, hj, hc => by
    simp only [laterOk, Bool.and_eq_true] at h
    simpa using laterOk_at h.2 (j := j) (x := x) (by simpa using hj) hc
theorem pairsOk_at : ∀ {tr : List TE} {i0 : Nat} {bs : List Nat}, pairsOk tr i0 bs = true → ∀ {i j : Nat} {x y : TE}, i < j → tr[i]? = some x → tr[j]? = some y → conf x y = true → (bs.getD j 0).testBit (i0 + i) = true
  | [], _, _, _, i, j, x, y, _, h, _, _ => by simp at h
  | _ :: _, _, [], h, _, _, _, _, _, _, _, _ => by simp [pairsOk] at h
  | x0 :: tr, i0, b :: bs, h, 0, j + 1, x, y, _, hi, hj, hc => by
    simp at hi; subst hi
    simp only [pairsOk, Bool.and_eq_true] at h
    simpa using laterOk_at h.1 (j := j) (x := y) (by simpa using hj) hc
  | x0 :: tr, i0, b :: bs, h, i + 1, j + 1, x, y, hij, hi, hj, hc => by
    simp only [pairsOk, Bool.and_eq_true] at h
    have := pairsOk_at h.2 (i := i) (j := j) (x := x) (y := y) (by omega) (by simpa using hi) (by simpa using hj) hc
    rw [show i0 + 1 + i = i0 + (i + 1) by omega] at this
    simpa using this

theorem conf_use_l {a b : TE} {d : Nat} (h : a.dst = some d) (hb : d ∈ b.uses) : conf a b = true := by
  unfold conf; rw [h]
  have : b.uses.any (fun t => Nat.beq t d) = true := List.any_eq_true.2 ⟨d, hb, Nat.beq_refl d⟩
  simp [this]
theorem conf_use_r {a b : TE} {d : Nat} (h : b.dst = some d) (hb : d ∈ a.uses) : conf a b = true := by
  unfold conf; rw [h]
  have : a.uses.any (fun t => Nat.beq t d) = true := List.any_eq_true.2 ⟨d, hb, Nat.beq_refl d⟩
  simp [this]
theorem conf_dst {a b : TE} {d : Nat} (h : a.dst = some d) (hb : b.dst = some d) : conf a b = true := by
  unfold conf; rw [h, hb]; simp [Nat.beq_refl]
theorem conf_put_l {a b : TE} {id : Nat} (h : (look a.put id).isSome = true) (hb : b.dom id = true) : conf a b = true := by
  obtain ⟨q, h1, h2⟩ := look_any h
  have : a.put.any (fun p => b.dom p.1) = true := List.any_eq_true.2 ⟨q, h1, by rw [h2]; exact hb⟩
  unfold conf; simp [this]
theorem conf_put_r {a b : TE} {id : Nat} (h : (look b.put id).isSome = true) (hb : a.dom id = true) : conf a b = true := by
  obtain ⟨q, h1, h2⟩ := look_any h
  have : b.put.any (fun p => a.dom p.1) = true := List.any_eq_true.2 ⟨q, h1, by rw [h2]; exact hb⟩
  unfold conf; simp [this]
theorem dom_put {a : TE} {id : Nat} (h : (look a.put id).isSome = true) : a.dom id = true := by unfold TE.dom; rw [h]; simp

theorem filter_lt {α : Type} {p q : α → Bool} : ∀ (l : List α) (x : α), x ∈ l → (∀ y, q y = true → p y = true) → p x = true → q x = false → (l.filter q).length < (l.filter p).length
  | [], x, h, _, _, _ => by simp at h
  | y :: l, x, h, hs, h1, h2 => by
    have hle : ∀ l : List α, (l.filter q).length ≤ (l.filter p).length := by
      intro l
      induction l with
      | nil => simp
      | cons z l ih =>
        simp only [List.filter_cons]
        cases hq : q z
        · cases p z <;> simp <;> omega
        · rw [hs z hq]; simp; omega
    rcases List.mem_cons.1 h with rfl | h
    · simp only [List.filter_cons, h1, h2]
      have := hle l
      simp; omega
    · have ih := filter_lt l x h hs h1 h2
      simp only [List.filter_cons]
      cases hq : q y
      · cases p y <;> simp <;> omega
      · rw [hs y hq]; simp; omega

theorem TraceOk.anyOrder {P : Program} {ops : Array Oper} {N nx : Nat} {E0 : Env} {H0 : Nat → Option Blk} {Q : Exit → Act → World → Prop} {T : Nat → AV} {H : Nat → Option Blk} {tr : List TE}
    (h : TraceOk P ops N nx 0 ops.toList T H tr) (hi : indep ops.toList tr = true)
    (k : ∀ a E, Gam E0 H0 N (fun id => nx + 16 * ops.toList.length ≤ id) (allT tr T) (allH tr H) E a → Q .normal a E.w) :
    ∀ (fuel : Nat) (listed : Array Bool) (a : Act) (E : Env), listed.size = ops.size →
      (∀ j o, ops[j]? = some o → listed.getD j false = true → ∀ e, e ∈ o.after.toList → Region.binds .any e = true → listed.getD e.on false = true) →
      ((List.range ops.size).filter fun i => !listed.getD i true).length ≤ fuel →
      Gam E0 H0 N (fun id => (∃ j, j < ops.size ∧ listed.getD j false = false ∧ idsOf nx j id) ∨ nx + 16 * ops.size ≤ id) (applyT (fun j => listed.getD j false) 0 tr T) (applyH (fun j => listed.getD j false) 0 tr H) E a →
      wpAny P .any ops Q fuel listed a E.w := by
  simp only [indep, Bool.and_eq_true] at hi
  obtain ⟨hB, hP⟩ := hi
  generalize bits ops.toList 0 [] = B at hB hP
  have hlen : tr.length = ops.size := by rw [TraceOk.length _ _ h]; simp
  have hop : ∀ j o, ops[j]? = some o → edgesOk o j = true ∧ B.getD j 0 = upB B j o.after.toList := fun j o ho => by
    have := opsOk_at hB (j := j) (o := o) (by simpa using ho)
    simpa using this
  have hent : ∀ j o, ops[j]? = some o → ∃ te, tr[j]? = some te ∧ EntryOk P ops N nx j o (applyT (fun k => decide (k < j)) 0 tr T) (applyH (fun k => decide (k < j)) 0 tr H) te := fun j o ho => by
    have := TraceOk.entry _ _ h j o (by simpa using ho)
    simpa using this
  have size_lt : ∀ (j : Nat) (x : TE), tr[j]? = some x → j < ops.size := fun j x hx => by have := (List.getElem?_eq_some_iff.1 hx).1; omega
  intro fuel
  -- forerunners of what is ready, or done, are done
  have anc : ∀ (listed : Array Bool), (∀ j o, ops[j]? = some o → listed.getD j false = true → ∀ e, e ∈ o.after.toList → Region.binds .any e = true → listed.getD e.on false = true) →
      ∀ (j : Nat) (o : Oper), ops[j]? = some o → (∀ e, e ∈ o.after.toList → Region.binds .any e = true → listed.getD e.on false = true) → ∀ i, (B.getD j 0).testBit i = true → listed.getD i false = true := by
    intro listed hcl j
    induction j using Nat.strongRecOn with
    | _ j ih =>
      intro o ho he i hb
      rw [(hop j o ho).2] at hb
      obtain ⟨e, e1, e2, e3⟩ := upB_bit hb
      have hl := he e e1 e2
      rcases e3 with rfl | ⟨e3, e4⟩
      · exact hl
      · have : e.on < ops.size := by have := (Array.getElem?_eq_some_iff.1 ho).1; omega
        exact ih e.on e3 ops[e.on] (Array.getElem?_eq_getElem this) (hcl e.on _ (Array.getElem?_eq_getElem this) hl) i e4
  have getD_of : ∀ (listed : Array Bool) (j : Nat) (b : Bool), listed.size = ops.size → j < ops.size → listed.getD j b = listed.getD j false := fun listed j b hs hj => by
    simp [Array.getD_eq_getD_getElem?, Array.getElem?_eq_getElem (show j < listed.size by omega)]
  have ready_iff : ∀ (listed : Array Bool) (j : Nat), j ∈ Region.ready .any ops listed → ∃ o, ops[j]? = some o ∧ j < ops.size ∧ listed.getD j true = false ∧ ∀ e, e ∈ o.after.toList → Region.binds .any e = true → listed.getD e.on false = true := by
    intro listed j hj
    simp only [Region.ready, List.mem_filter, List.mem_range, Bool.and_eq_true, Bool.not_eq_true'] at hj
    obtain ⟨h1, h2, h3⟩ := hj
    refine ⟨ops[j], Array.getElem?_eq_getElem h1, h1, h2, fun e he hb => ?_⟩
    rw [Array.getElem?_eq_getElem h1] at h3
    simp only [Option.map_some, Option.getD_some, Array.all_eq_true'] at h3
    have := h3 e (by simpa using he)
    simpa [hb] using this
  have full : ∀ (listed : Array Bool), listed.size = ops.size → Region.ready .any ops listed = [] → ∀ j, j < ops.size → listed.getD j false = true := by
    intro listed hs hr j
    induction j using Nat.strongRecOn with
    | _ j ih =>
      intro hj
      cases hl : listed.getD j false
      · exfalso
        have : j ∈ Region.ready .any ops listed := by
          simp only [Region.ready, List.mem_filter, List.mem_range, Bool.and_eq_true, Bool.not_eq_true']
          refine ⟨hj, by rw [getD_of listed j true hs hj]; exact hl, ?_⟩
          rw [Array.getElem?_eq_getElem hj]
          simp only [Option.map_some, Option.getD_some, Array.all_eq_true']
          intro e he
          cases hb : Region.binds .any e
          · rfl
          · have h1 := (hop j _ (Array.getElem?_eq_getElem hj)).1
            have h2 := List.all_eq_true.1 h1 e (by simpa using he)
            rw [hb] at h2
            have h3 : e.on < j := by simpa [Nat.blt_eq] using h2
            simpa using ih e.on h3 (by omega)
        rw [hr] at this; simp at this
      · rfl
  have finish : ∀ (listed : Array Bool) (a : Act) (E : Env), listed.size = ops.size → Region.ready .any ops listed = [] →
      Gam E0 H0 N (fun id => (∃ j, j < ops.size ∧ listed.getD j false = false ∧ idsOf nx j id) ∨ nx + 16 * ops.size ≤ id) (applyT (fun j => listed.getD j false) 0 tr T) (applyH (fun j => listed.getD j false) 0 tr H) E a → Q .normal a E.w := by
    intro listed a E hs hr g
    have hf := full listed hs hr
    rw [applyT_all tr 0 T (fun k hk => by simpa using hf k (by omega)), applyH_all tr 0 H (fun k hk => by simpa using hf k (by omega))] at g
    refine k a E { g with fresh := fun id hid => g.fresh id (.inr (by simpa using hid)) }
  induction fuel with
  | zero =>
    intro listed a E hs hcl hc g
    have hr : Region.ready .any ops listed = [] := by
      refine List.eq_nil_iff_forall_not_mem.2 fun j hj => ?_
      obtain ⟨o, _, h1, h2, _⟩ := ready_iff listed j hj
      have h0 : ((List.range ops.size).filter fun i => !listed.getD i true) = [] := List.eq_nil_of_length_eq_zero (by omega)
      have : j ∈ ((List.range ops.size).filter fun i => !listed.getD i true) := List.mem_filter.2 ⟨List.mem_range.2 h1, by rw [h2]; rfl⟩
      rw [h0] at this; simp at this
    exact ⟨hr, finish listed a E hs hr g⟩
  | succ fuel ih =>
    intro listed a E hs hcl hc g
    refine ⟨fun hr => finish listed a E hs hr g, fun j hj => ?_⟩
    obtain ⟨o, ho, hjn, hnl, hedge⟩ := ready_iff listed j hj
    have hnl' : listed.getD j false = false := by rw [← getD_of listed j true hs hjn]; exact hnl
    obtain ⟨te, hte, hen⟩ := hent j o ho
    have hset : ∀ i, (listed.setIfInBounds j true).getD i false = if i = j then true else listed.getD i false := fun i => by
      by_cases hij : i = j
      · subst hij
        simp [Array.getD_eq_getD_getElem?, Array.getElem?_setIfInBounds, show i < listed.size by omega]
      · simp [Array.getD_eq_getD_getElem?, Array.getElem?_setIfInBounds, hij, Ne.symm hij]
    -- an earlier one that conflicts is done; a later one isn't
    have before : ∀ i x, i < j → tr[i]? = some x → conf x te = true → listed.getD i false = true := fun i x hij hx hcf => by
      have := pairsOk_at hP hij hx hte hcf
      simp only [Nat.zero_add] at this
      exact anc listed hcl j o ho hedge i this
    have behind : ∀ i x, j < i → tr[i]? = some x → conf te x = true → listed.getD i false = false := fun i x hij hx hcf => by
      cases hl : listed.getD i false
      · rfl
      · exfalso
        have := pairsOk_at hP hij hte hx hcf
        simp only [Nat.zero_add] at this
        have hin := size_lt i x hx
        have := anc listed hcl i _ (Array.getElem?_eq_getElem hin) (hcl i _ (Array.getElem?_eq_getElem hin) hl) j this
        rw [hnl'] at this; cases this
    show wpOp P ops Q j _ a E.w
    unfold wpOp
    rw [ho]
    refine hen.run (T' := applyT (fun j => listed.getD j false) 0 tr T) (H' := applyH (fun j => listed.getD j false) 0 tr H) ?_ ?_ g
      (F' := fun id => (∃ i, i < ops.size ∧ (listed.setIfInBounds j true).getD i false = false ∧ idsOf nx i id) ∨ nx + 16 * ops.size ≤ id) (fun id hid => .inl ⟨j, hjn, hnl', hid⟩) ?_ ?_
    · intro t ht
      refine applyT_congr t tr 0 _ _ rfl fun i x hx hd => ?_
      simp only [Nat.zero_add]
      rcases Nat.lt_trichotomy i j with hij | rfl | hij
      · rw [before i x hij hx (conf_use_l hd ht)]; simp [hij]
      · rw [hnl']; simp
      · rw [behind i x hij hx (conf_use_r hd ht)]; simp; omega
    · intro id hid
      refine applyH_congr id tr 0 _ _ rfl fun i x hx hd => ?_
      simp only [Nat.zero_add]
      rcases Nat.lt_trichotomy i j with hij | rfl | hij
      · rw [before i x hij hx (conf_put_l hd hid)]; simp [hij]
      · rw [hnl']; simp
      · rw [behind i x hij hx (conf_put_r hd hid)]; simp; omega
    · rintro id (⟨i, h1, h2, h3⟩ | h1)
      · rw [hset] at h2
        by_cases hij : i = j
        · simp [hij] at h2
        · simp only [hij, if_false] at h2
          exact ⟨.inl ⟨i, h1, h2, h3⟩, fun h4 => by unfold idsOf at h3 h4; omega⟩
      · exact ⟨.inr h1, fun h4 => by unfold idsOf at h4; omega⟩
    · intro a' E' g'
      refine ih (listed.setIfInBounds j true) a' E' (by simpa using hs) ?_ ?_ ?_
      · intro i o' ho' hl e he hb
        rw [hset] at hl ⊢
        by_cases hij : i = j
        · subst hij
          rw [ho] at ho'; cases ho'
          split
          · rfl
          · exact hedge e he hb
        · simp only [hij, if_false] at hl
          split
          · rfl
          · exact hcl i o' ho' hl e he hb
      · have hlt := filter_lt (p := fun i => !listed.getD i true) (q := fun i => !(listed.setIfInBounds j true).getD i true) (List.range ops.size) j (List.mem_range.2 hjn) (fun y hy => by
            by_cases hyj : y = j
            · subst hyj; simp [hnl]
            · simpa [Array.getD_eq_getD_getElem?, Array.getElem?_setIfInBounds, hyj, Ne.symm hyj] using hy) (by simp [hnl])
            (by simp [Array.getD_eq_getD_getElem?, Array.getElem?_setIfInBounds, show j < listed.size by omega])
        omega
      · have e1 : te.T (applyT (fun j => listed.getD j false) 0 tr T) = applyT (fun i => (listed.setIfInBounds j true).getD i false) 0 tr T := by
          funext t
          by_cases hd : te.dst = some t
          · rw [applyT_last t tr 0 j T te hte hd (by simp [hset]) (fun i x hij hx hxd => by
              simp only [Nat.zero_add, hset]
              rw [if_neg (by omega)]
              exact behind i x hij hx (conf_dst hd hxd))]
            simp [TE.T, hd]
          · simp only [TE.T, hd, if_false]
            refine applyT_congr t tr 0 _ _ rfl fun i x hx hxd => ?_
            simp only [Nat.zero_add, hset]
            rw [if_neg (fun hij => by subst hij; rw [hte] at hx; cases hx; exact hd hxd)]
        have e2 : te.H (applyH (fun j => listed.getD j false) 0 tr H) = applyH (fun i => (listed.setIfInBounds j true).getD i false) 0 tr H := by
          funext id
          cases hd : look te.put id with
          | some b =>
            rw [applyH_last id tr 0 j H te hte hd (by simp [hset]) (fun i x hij hx hxd => by
              simp only [Nat.zero_add, hset]
              rw [if_neg (by omega)]
              exact behind i x hij hx (conf_put_r hxd (dom_put (by rw [hd]; rfl))))]
            simp [TE.H, hd]
          | none =>
            simp only [TE.H, hd]
            refine applyH_congr id tr 0 _ _ rfl fun i x hx hxd => ?_
            simp only [Nat.zero_add, hset]
            rw [if_neg (fun hij => by subst hij; rw [hte] at hx; cases hx; rw [hd] at hxd; cases hxd)]
        rw [e1, e2] at g'
        exact g'

/-- A region that draws its order. -/
theorem TraceOk.any {P : Program} {ops : Array Oper} {N nx id : Nat} {E0 : Env} {H0 : Nat → Option Blk} {Q : Exit → Act → World → Prop} {T : Nat → AV} {H : Nat → Option Blk} {tr : List TE} (hm : P.follows .mixedOrders = true)
    (h : TraceOk P ops N nx 0 ops.toList T H tr) (hi : indep ops.toList tr = true) {E : Env} {a : Act} (g : Gam E0 H0 N (fun id => nx ≤ id) T H E a)
    (k : ∀ a E, Gam E0 H0 N (fun id => nx + 16 * ops.toList.length ≤ id) (allT tr T) (allH tr H) E a → Q .normal a E.w) : (Code.region id ops true).wp P Q a E.w := by
  refine wp_region_any hm ?_
  have hget : ∀ j, (Array.replicate ops.size false).getD j false = false := fun j => by simp [Array.getD_eq_getD_getElem?, Array.getElem?_replicate]; split <;> rfl
  refine h.anyOrder hi k ops.size (Array.replicate ops.size false) a ⟨E.e, E.ok, { E.w with drawn := E.w.drawn + 1 }⟩ (by simp) (fun j o _ hl => by rw [hget] at hl; cases hl) ?_ ?_
  · have := List.length_filter_le (fun i => !(Array.replicate ops.size false).getD i true) (List.range ops.size)
    simpa using this
  · rw [applyT_none _ _ _ (fun k _ => hget k), applyH_none _ _ _ (fun k _ => hget k)]
    have := g.world { E.w with drawn := E.w.drawn + 1 } rfl rfl rfl rfl
    exact { this with fresh := fun id hid => this.fresh id (by
      rcases hid with ⟨j, _, _, h3⟩ | h3
      · unfold idsOf at h3; omega
      · omega) }
/-- A region in the text's order. -/
theorem TraceOk.plain {P : Program} {ops : Array Oper} {N nx id : Nat} {E0 : Env} {H0 : Nat → Option Blk} {Q : Exit → Act → World → Prop} {T : Nat → AV} {H : Nat → Option Blk} {tr : List TE}
    (h : TraceOk P ops N nx 0 ops.toList T H tr) {E : Env} {a : Act} (g : Gam E0 H0 N (fun id => nx ≤ id) T H E a)
    (k : ∀ a E, Gam E0 H0 N (fun id => nx + 16 * ops.toList.length ≤ id) (allT tr T) (allH tr H) E a → Q .normal a E.w) : (Code.region id ops false).wp P Q a E.w := by
  refine wp_region_list ?_
  refine h.text ops.toList 0 (by simpa using g) (fun a E g => k a E (by simpa using g))

end Go.Proofs.Am
