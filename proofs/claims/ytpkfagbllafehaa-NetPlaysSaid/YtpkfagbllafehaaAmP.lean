/- Loops, names, and what a function does as a whole. -/
import Derived.Test.YtpkfagbllafehaaAmO
namespace Go.Proofs.Am
open Go Go.RowKit
set_option linter.unusedVariables false
set_option linter.unusedSimpArgs false

/-- What holds of memory, without the locals. -/
structure GamH (E0 : Env) (H0 : Nat → Option Blk) (H : Nat → Option Blk) (E : Env) : Prop where
  heap : HeapOk E H
  own : ∀ id k r, H id = some k → E.e id = some r → 0 < r.cap → E0.w.heap.size ≤ r.b ∨ Owns E0 H0 r.b
  okb : ∀ b, E.ok b → b < E.w.heap.size
  ok : ∀ b, E0.ok b → E.ok b
  okn : ∀ b, E.ok b → E0.ok b ∨ E0.w.heap.size ≤ b ∨ Owns E0 H0 b
  kp : Kp (Owns E0 H0) E0.w E.w
theorem Gam.h {E0 : Env} {H0 : Nat → Option Blk} {N : Nat} {F : Nat → Prop} {T : Nat → AV} {H : Nat → Option Blk} {E : Env} {a : Act} (g : Gam E0 H0 N F T H E a) : GamH E0 H0 H E := ⟨g.heap, g.own, g.okb, g.ok, g.okn, g.kp⟩

def keysOf {α : Type} (l : List (Nat × α)) : List Nat := l.map (·.1)
theorem hasKey_mem {α : Type} {l : List (Nat × α)} {id : Nat} : hasKey l id = true → id ∈ keysOf l := by
  intro h
  unfold hasKey at h
  cases hl : look l id with
  | none => rw [hl] at h; cases h
  | some x => exact List.mem_map.2 ⟨(id, x), look_mem hl, rfl⟩

/-- The names' own conditions, by looking: one to one, below n, the function's own ones as they are. -/
def namesB (π : List (Nat × Nat)) (new old : List Nat) (n : Nat) : Bool :=
  (new ++ old).all (fun a => Nat.blt a n) && new.all (fun a => new.all fun b => !(Nat.beq (renI π a) (renI π b)) || Nat.beq a b) && old.all fun a => Nat.beq (renI π a) a
theorem namesB_of {π : List (Nat × Nat)} {new old : List Nat} {n : Nat} (h : namesB π new old n = true) : (∀ a, a ∈ new ++ old → a < n) ∧ (∀ a b, a ∈ new → b ∈ new → renI π a = renI π b → a = b) ∧ (∀ a, a ∈ old → renI π a = a) := by
  unfold namesB at h
  rw [Bool.and_eq_true, Bool.and_eq_true] at h
  have h0 := List.all_eq_true.1 h.1.1
  have h1 := List.all_eq_true.1 h.1.2
  have h2 := List.all_eq_true.1 h.2
  refine ⟨fun a ha => ?_, fun a b ha hb hab => ?_, fun a ha => Nat.eq_of_beq_eq_true (h2 a ha)⟩
  · simpa [Nat.blt_eq] using h0 a ha
  · have := List.all_eq_true.1 (h1 a ha) b hb
    rw [hab, Nat.beq_refl] at this
    simpa using this

def nameS {α β : Type} (H : List (Nat × α)) (hp0 : List (Nat × β)) (id : Nat) : Bool := hasKey H id || hasKey hp0 id
theorem nameS_mem {α β : Type} {H : List (Nat × α)} {hp0 : List (Nat × β)} {id : Nat} (h : nameS H hp0 id = true) : id ∈ keysOf H ++ keysOf hp0 := by
  unfold nameS at h
  rw [Bool.or_eq_true] at h
  rcases h with h | h
  · exact List.mem_append_left _ (hasKey_mem h)
  · exact List.mem_append_right _ (hasKey_mem h)

def renE (π : List (Nat × Nat)) (SS : Nat → Bool) (E : Env) : Env := ⟨fun id => bif SS id then E.e (renI π id) else none, E.ok, E.w⟩
theorem renE_ok (π : List (Nat × Nat)) (SS : Nat → Bool) (E : Env) : RenEnv π SS E (renE π SS E) := ⟨rfl, rfl, fun id h => by simp [renE, h]⟩

/-- Other names for the own variables: memory. -/
theorem GamH.ren {E0 : Env} {hp0 : List (Nat × Blk)} {H : Nat → Option Blk} {H' : Nat → Option Blk} {E : Env} (g : GamH E0 (look hp0) H E) (π : List (Nat × Nat)) (SS : Nat → Bool)
    (hS : ∀ id b, H' id = some b → SS id = true) (hH : ∀ id b, H' id = some b → ∃ b0, H (renI π id) = some b0 ∧ SubB π SS b0 b) (hinj : ∀ a b k k', H' a = some k → H' b = some k' → renI π a = renI π b → a = b) :
    GamH E0 (look hp0) H' (renE π SS E) := by
  have hre := renE_ok π SS E
  refine ⟨⟨fun id b h => ?_, fun id id' k k' r r' h h' he he' hc hc' hbb => ?_⟩, fun id k r h he hc => ?_, g.okb, g.ok, g.okn, g.kp⟩
  · obtain ⟨b0, g1, g2⟩ := hH id b h
    obtain ⟨r, q1, q2, q3⟩ := g.heap.live _ _ g1
    exact ⟨r, by rw [hre.e id (hS _ _ h)]; exact q1, g2 E _ r hre q2, q3⟩
  · obtain ⟨b0, g1, _⟩ := hH id k h
    obtain ⟨b0', g1', _⟩ := hH id' k' h'
    rw [hre.e id (hS _ _ h)] at he
    rw [hre.e id' (hS _ _ h')] at he'
    exact hinj _ _ _ _ h h' (g.heap.inj _ _ _ _ _ _ g1 g1' he he' hc hc' hbb)
  · obtain ⟨b0, g1, _⟩ := hH id k h
    rw [hre.e id (hS _ _ h)] at he
    exact g.own _ _ _ g1 he hc

/-- The state S' says no more than S. -/
def SLe (hp0 : List (Nat × Blk)) (S S' : St) : Prop := ∀ E0, (∀ id, look hp0 id = none → E0.e id = none) → ∀ N E a, Gam E0 (look hp0) N (fun id => S.nx ≤ id) S.tf S.hf E a →
  ∃ E', E'.w = E.w ∧ Gam E0 (look hp0) N (fun id => S'.nx ≤ id) S'.tf S'.hf E' a

def TLe (π : List (Nat × Nat)) (SS : Nat → Bool) (f : Nat → AV) : List (Nat × AV) → Prop
  | [] => True
  | (t, x) :: l => SubT π SS (f t) x ∧ TLe π SS f l
def HLe (π : List (Nat × Nat)) (SS : Nat → Bool) (h : Nat → Option Blk) : List (Nat × Option Blk) → Prop
  | [] => True
  | (id, none) :: l => HLe π SS h l
  | (id, some b) :: l => (∃ b0, h (renI π id) = some b0 ∧ SubB π SS b0 b) ∧ HLe π SS h l
theorem TLe.get {π : List (Nat × Nat)} {SS : Nat → Bool} {f : Nat → AV} : ∀ {l : List (Nat × AV)}, TLe π SS f l → ∀ {t : Nat} {x : AV}, look l t = some x → SubT π SS (f t) x
  | [], _, t, x, h => by simp [look] at h
  | (k, y) :: l, h, t, x, hl => by
    unfold look at hl
    cases hb : Nat.beq k t
    · rw [hb] at hl; exact h.2.get hl
    · rw [hb] at hl
      simp only [cond_true, Option.some.injEq] at hl
      have := Nat.eq_of_beq_eq_true hb
      subst this; subst hl; exact h.1
theorem HLe.get {π : List (Nat × Nat)} {SS : Nat → Bool} {h : Nat → Option Blk} : ∀ {l : List (Nat × Option Blk)}, HLe π SS h l → ∀ {id : Nat} {b : Blk}, look l id = some (some b) → ∃ b0, h (renI π id) = some b0 ∧ SubB π SS b0 b
  | [], _, t, x, h => by simp [look] at h
  | (k, o) :: l, hh, t, x, hl => by
    unfold look at hl
    cases hb : Nat.beq k t
    · rw [hb] at hl
      cases o with
      | none => exact HLe.get (l := l) hh hl
      | some b => exact HLe.get (l := l) hh.2 hl
    · rw [hb] at hl
      simp only [cond_true, Option.some.injEq] at hl
      have := Nat.eq_of_beq_eq_true hb
      subst this
      cases o with
      | none => cases hl
      | some b => simp only [Option.some.injEq] at hl; subst hl; exact hh.1

theorem SLe.mk {hp0 : List (Nat × Blk)} {S S' : St} (π : List (Nat × Nat)) (hn : namesB π (keysOf S'.H) (keysOf hp0) S'.nx = true) (hT : TLe π (nameS S'.H hp0) S.tf S'.T) (hH : HLe π (nameS S'.H hp0) S.hf S'.H) : SLe hp0 S S' := by
  intro E0 h0 N E a g
  obtain ⟨n1, n2, n3⟩ := namesB_of hn
  have hre := renE_ok π (nameS S'.H hp0) E
  have hhf : ∀ id b, S'.hf id = some b → look S'.H id = some (some b) := fun id b h => by
    unfold St.hf at h
    cases hl : look S'.H id with
    | none => rw [hl] at h; cases h
    | some o => rw [hl] at h; simp only at h; rw [h]
  have hS : ∀ id b, S'.hf id = some b → nameS S'.H hp0 id = true := fun id b h => by simp [nameS, hasKey, hhf id b h]
  have gh := g.h.ren (H' := S'.hf) π (nameS S'.H hp0) hS (fun id b h => hH.get (hhf id b h)) (fun a b k k' ha hb => n2 a b (hasKey_mem (by simp [hasKey, hhf _ _ ha])) (hasKey_mem (by simp [hasKey, hhf _ _ hb])))
  refine ⟨renE π (nameS S'.H hp0) E, rfl, ⟨g.defers, g.size, fun t => ?_, gh.heap, gh.own, fun id hid => ?_, gh.okb, fun id r h => ?_, gh.ok, gh.okn, gh.kp⟩⟩
  · unfold St.tf
    cases hl : look S'.T t with
    | none => exact trivial
    | some x => exact hT.get hl _ _ _ hre (g.tmp t)
  · have hid : S'.nx ≤ id := hid
    cases hq : nameS S'.H hp0 id
    · simp [renE, hq]
    · have := n1 id (nameS_mem hq); omega
  · cases hl : look hp0 id with
    | none => rw [h0 id hl] at h; cases h
    | some b =>
      have hk : hasKey hp0 id = true := by simp [hasKey, hl]
      have hs : nameS S'.H hp0 id = true := by simp [nameS, hk]
      rw [hre.e id hs, n3 id (hasKey_mem hk)]
      exact g.e _ _ h
theorem SLe.refl (hp0 : List (Nat × Blk)) (S : St) : SLe hp0 S S := fun E0 h0 N E a g => ⟨E, rfl, g⟩
theorem SLe.trans {hp0 : List (Nat × Blk)} {S S' S'' : St} (h : SLe hp0 S S') (k : SLe hp0 S' S'') : SLe hp0 S S'' := fun E0 h0 N E a g => by
  obtain ⟨E1, e1, g1⟩ := h E0 h0 N E a g
  obtain ⟨E2, e2, g2⟩ := k E0 h0 N E1 a g1
  exact ⟨E2, e2.trans e1, g2⟩

section
variable {P : Program} {N : Nat} {hp0 : List (Nat × Blk)} {c : Code} {S : St} {K : Exit → St → Prop}
theorem Tri.weaken {S' : St} (h : SLe hp0 S S') (k : Tri P N hp0 c S' K) : Tri P N hp0 c S K := ⟨fun E0 h0 E a g => by
  obtain ⟨E', e, g'⟩ := h E0 h0 N E a g
  rw [← e]
  exact k.out E0 h0 E' a g'⟩
theorem Tri.seq {d : Code} (h : Tri P N hp0 c S (thenK (fun S' => Tri P N hp0 d S' K) K)) : Tri P N hp0 (.seq c d) S K := ⟨fun E0 h0 E a g => by
  refine wp_seq (wp_mono (h.out E0 h0 E a g) fun x a' w' ⟨S', E', e, hk, g'⟩ => ?_)
  cases x
  case normal => subst e; exact hk.out E0 h0 E' a' g'
  all_goals exact ⟨S', E', e, hk, g'⟩⟩
/-- A loop: states I, one for each i that is Inv, each round with a smaller measure. -/
theorem Tri.loop {ι : Type} (Inv : ι → Prop) (I : ι → St) (μ : ι → Nat) (i0 : ι) (hi : Inv i0) (h0 : SLe hp0 S (I i0))
    (round : ∀ i, Inv i → Tri P N hp0 c (I i) (thenK (fun S' => ∃ j, Inv j ∧ μ j < μ i ∧ SLe hp0 S' (I j)) K)) : Tri P N hp0 (.loop c) S K := ⟨fun E0 h0' E a g => by
  obtain ⟨E1, e1, g1⟩ := h0 E0 h0' N E a g
  rw [← e1]
  refine wp_loop_ghost (fun n a w => ∃ i E', Inv i ∧ μ i = n ∧ w = E'.w ∧ Gam E0 (look hp0) N (fun id => (I i).nx ≤ id) (I i).tf (I i).hf E' a) (μ i0) ⟨i0, E1, hi, rfl, rfl, g1⟩ ?_
  rintro n a w ⟨i, E', hI, rfl, rfl, g'⟩
  refine wp_mono ((round i hI).out E0 h0' E' a g') fun x a' w' ⟨S', E'', e, hk, g''⟩ => ?_
  cases x
  case normal =>
    obtain ⟨j, hj, hlt, hle⟩ := hk
    obtain ⟨E3, e3, g3⟩ := hle E0 h0' N E'' a' g''
    exact ⟨μ j, hlt, j, E3, hj, rfl, by rw [e, e3], g3⟩
  all_goals exact ⟨S', E'', e, hk, g''⟩⟩
end

/-- What is left behind, under the names that the function's sentence has. -/
def FinR (hp0 : List (Nat × Blk)) (H : Nat → Option Blk) (y : AV) (hp' : List (Nat × Blk)) (x : AV) : Prop :=
  ∀ E0 E v, (∀ id, look hp0 id = none → E0.e id = none) → (∀ id r, E0.e id = some r → E.e id = some r) → GamH E0 (look hp0) H E → Rep E y v →
    ∃ E', E'.w = E.w ∧ (∀ id r, E0.e id = some r → E'.e id = some r) ∧ GamH E0 (look hp0) (look hp') E' ∧ Rep E' x v

theorem FinR.mk {hp0 : List (Nat × Blk)} {H : Nat → Option Blk} {y x : AV} {hp' : List (Nat × Blk)} (π : List (Nat × Nat)) (n : Nat) (hn : namesB π (keysOf hp') (keysOf hp0) n = true)
    (hx : SubT π (nameS hp' hp0) y x) (hH : HLe π (nameS hp' hp0) H (hp'.map fun p => (p.1, some p.2))) : FinR hp0 H y hp' x := by
  intro E0 E v h0 he g hr
  obtain ⟨n1, n2, n3⟩ := namesB_of hn
  have hre := renE_ok π (nameS hp' hp0) E
  have hl : ∀ id b, look hp' id = some b → look (hp'.map fun p => (p.1, some p.2)) id = some (some b) := fun id b h => by
    clear hH hre n1 n2 n3 hn hx
    induction hp' with
    | nil => simp [look] at h
    | cons p l ih =>
      simp only [List.map_cons, look] at h ⊢
      cases hb : Nat.beq p.1 id
      · rw [hb] at h; exact ih h
      · rw [hb] at h; simp only [cond_true, Option.some.injEq] at h ⊢; exact h
  have gh := g.ren (H' := look hp') π (nameS hp' hp0) (fun id b h => by simp [nameS, hasKey, h]) (fun id b h => hH.get (hl id b h)) (fun a b k k' ha hb => n2 a b (hasKey_mem (by simp [hasKey, ha])) (hasKey_mem (by simp [hasKey, hb])))
  refine ⟨renE π (nameS hp' hp0) E, rfl, fun id r h => ?_, gh, hx _ _ _ hre hr⟩
  cases hlk : look hp0 id with
  | none => rw [h0 id hlk] at h; cases h
  | some b =>
    have hk : hasKey hp0 id = true := by simp [hasKey, hlk]
    rw [hre.e id (by simp [nameS, hk]), n3 id (hasKey_mem hk)]
    exact he _ _ h

/-! ### A list that is not written any more -/
def FrzR (id sz : Nat) (rows : List (List PV)) (x y : AV) : Prop := ∀ E E' v, Ext E E' → (∀ off len v, Rep1 E (.sl id off len) v → off + len ≤ rows.length → Rep1 E' (.p (.seq sz ((rows.drop off).take len))) v) → Rep E x v → Rep E' y v
def Frz1 (id sz : Nat) (rows : List (List PV)) (x y : AV) : Prop := x = y ∨ ∃ off len, x = .sl id off len ∧ off + len ≤ rows.length ∧ y = .p (.seq sz ((rows.drop off).take len))
theorem Frz1.rep {id sz : Nat} {rows : List (List PV)} {x y : AV} (h : Frz1 id sz rows x y) {E E' : Env} (ex : Ext E E') (hf : ∀ off len v, Rep1 E (.sl id off len) v → off + len ≤ rows.length → Rep1 E' (.p (.seq sz ((rows.drop off).take len))) v) {v : Value} (k : Rep1 E x v) : Rep1 E' y v := by
  rcases h with rfl | ⟨off, len, rfl, h1, rfl⟩
  · exact k.ext ex
  · exact hf _ _ _ k h1
theorem Frz1.same {id sz : Nat} {rows : List (List PV)} {x : AV} : Frz1 id sz rows x x := .inl rfl
theorem Frz1.all {id sz n : Nat} {rows : List (List PV)} (h : rows.length = n) : Frz1 id sz rows (.sl id 0 n) (.p (.seq sz rows)) := .inr ⟨0, n, rfl, by omega, by rw [List.drop_zero, List.take_of_length_le (by omega)]⟩
def FrzB (id sz : Nat) (rows : List (List PV)) : Blk → Blk → Prop
  | .box t cs, .box t' ds => t = t' ∧ All2 (Frz1 id sz rows) cs ds
  | .arr t s r, .arr t' s' r' => t = t' ∧ s = s' ∧ All2 (All2 (Frz1 id sz rows)) r r'
  | _, _ => False
theorem All2.refl {α : Type} {R : α → α → Prop} (h : ∀ x, R x x) : ∀ l, All2 R l l
  | [] => .nil
  | x :: l => .cons (h x) (All2.refl h l)
theorem FrzB.same {id sz : Nat} {rows : List (List PV)} : ∀ {b : Blk}, FrzB id sz rows b b
  | .box _ _ => ⟨rfl, All2.refl (fun _ => .inl rfl) _⟩
  | .arr _ _ _ => ⟨rfl, rfl, All2.refl (fun _ => All2.refl (fun _ => .inl rfl) _) _⟩
theorem FrzR.same {id sz : Nat} {rows : List (List PV)} {x : AV} : FrzR id sz rows x x := fun E E' v ex _ k => k.ext ex
theorem FrzR.one {id sz : Nat} {rows : List (List PV)} {x y : AV} (h : Frz1 id sz rows x y) : FrzR id sz rows x y := by
  rcases h with rfl | ⟨off, len, rfl, h1, rfl⟩
  · exact FrzR.same
  · exact fun E E' v ex hf k => hf _ _ _ k h1
theorem frz_agg {id sz : Nat} {rows : List (List PV)} {cs ds : List AV} (h : All2 (Frz1 id sz rows) cs ds) {E E' : Env} (ex : Ext E E') (hf : ∀ off len v, Rep1 E (.sl id off len) v → off + len ≤ rows.length → Rep1 E' (.p (.seq sz ((rows.drop off).take len))) v) {v : Value} (k : RepA E (.agg cs) v) : RepA E' (.agg ds) v := by
  obtain ⟨vs, k1, k2⟩ := k
  exact ⟨vs, k1, All2.comp (fun _ _ _ g k => ⟨g.rep ex hf k.1, k.2⟩) h k2⟩
theorem FrzR.agg {id sz : Nat} {rows : List (List PV)} {cs ds : List AV} (h : All2 (Frz1 id sz rows) cs ds) : FrzR id sz rows (.agg cs) (.agg ds) := fun E E' v ex hf k => frz_agg h ex hf k
/-- One result among several. -/
def FrzA (id sz : Nat) (rows : List (List PV)) (x y : AV) : Prop := x = y ∨ (∃ cs ds, x = .agg cs ∧ y = .agg ds ∧ All2 (Frz1 id sz rows) cs ds) ∨ (x.leaf = true ∧ y.leaf = true ∧ Frz1 id sz rows x y)
theorem FrzR.tup {id sz : Nat} {rows : List (List PV)} {cs ds : List AV} (h : All2 (FrzA id sz rows) cs ds) : FrzR id sz rows (.tup cs) (.tup ds) := fun E E' v ex hf ⟨vs, k1, k2⟩ => ⟨vs, k1, All2.comp (fun x y u g k => by
  rcases g with rfl | ⟨cs, ds, rfl, rfl, h⟩ | ⟨l1, l2, h⟩
  · exact k.ext ex
  · exact frz_agg h ex hf k
  · have k1 : Rep1 E x u := by cases x <;> first | exact k | (simp [AV.leaf] at l1)
    have := h.rep ex hf k1
    cases y <;> first | exact this | (simp [AV.leaf] at l2)) h k2⟩

theorem freezeE {E0 : Env} {H0 : Nat → Option Blk} {H H' : Nat → Option Blk} {E : Env} (g : GamH E0 H0 H E) {id t sz : Nat} {rows : List (List PV)} (hid : H id = some (.arr t sz (up rows)))
    (hH : ∀ j b', H' j = some b' → j ≠ id ∧ ∃ b, H j = some b ∧ FrzB id sz rows b b') :
    ∃ E', E'.w = E.w ∧ E'.e = E.e ∧ Ext E E' ∧ GamH E0 H0 H' E' ∧ ∀ off len v, Rep1 E (.sl id off len) v → off + len ≤ rows.length → Rep1 E' (.p (.seq sz ((rows.drop off).take len))) v := by
  obtain ⟨r, he, hk, hown⟩ := g.heap.live _ _ hid
  obtain ⟨k1, k2, k3, k4, k5, k6⟩ := hk
  let E' : Env := ⟨E.e, fun b => E.ok b ∨ (0 < r.cap ∧ b = r.b), E.w⟩
  have ex : Ext E E' := ⟨fun _ _ h => h, fun _ h => .inl h, fun _ _ => rfl⟩
  have hf : ∀ off len v, Rep1 E (.sl id off len) v → off + len ≤ rows.length → Rep1 E' (.p (.seq sz ((rows.drop off).take len))) v := by
    rintro off len v ⟨r', a, h1, h2, h3, rfl⟩ hle
    rw [he] at h1; cases h1
    have hlen : ((rows.drop off).take len).length = len := part_len hle
    show RepP E'.ok E'.w (.seq sz ((rows.drop off).take len)) (.slice a len (r.cap - off))
    by_cases h0 : len = 0
    · subst h0
      simp only [List.take_zero]
      refine RepP.emp _ _ _ fun hn => ?_
      rcases Nat.lt_or_ge off r.cap with hlt | hge
      · rw [h3 hlt] at hn; cases hn
      · omega
    · have ha := h3 (by omega)
      subst ha
      rcases k6 with k6 | ⟨cs, q1, q2, q3⟩
      · omega
      have hup : ∀ (i : Nat) (x : List PV), rows[i]? = some x → (up rows)[i]? = some (x.map .p) := fun i x hi => by simp [up, hi]
      have hxl : ∀ x, x ∈ rows → x.length = sz := fun x hx => by
        have := k5 (x.map .p) (List.mem_map.2 ⟨x, hx, rfl⟩)
        simpa using this
      have hcell : ∀ (i : Nat) (x : List PV) (j : Nat) (y : PV), rows[i]? = some x → x[j]? = some y → ∃ u, cs[i * sz + j]? = some u ∧ RepP E'.ok E'.w y u := fun i x j y hi hj => by
        obtain ⟨u, u1, u2⟩ := q3 i (x.map .p) j (.p y) (hup i x hi) (by simp [hj])
        exact ⟨u, u1, RepP.mono (fun _ h => .inl h) (fun _ _ => rfl) u2.1⟩
      have := RepP.seq (ok := E'.ok) (w := E'.w) sz ((rows.drop off).take len) r.b (off * r.sz) (r.cap - off) (fun i j => (cs[(off + i) * sz + j]?).getD undef) (.inr ⟨by omega, rfl⟩) (by rw [hlen]; omega) (by rw [hlen]; simp [up] at k4; omega)
        (fun x hx => hxl x (List.mem_of_mem_drop (List.mem_of_mem_take hx)))
        (fun i x j y hi hj => by
          obtain ⟨u, u1, u2⟩ := hcell _ _ _ _ (part_get hi) hj
          show E.w.cell? _ = _
          rw [cell_of_row _ _ _ _ _ _ q1, k1]
          have : off * sz + i * sz + j = (off + i) * sz + j := by rw [Nat.add_mul]
          rw [this, u1]; rfl)
        (fun i x j y hi hj => by
          obtain ⟨u, u1, u2⟩ := hcell _ _ _ _ (part_get hi) hj
          rw [u1]; exact u2)
      rw [hlen] at this
      exact this
  refine ⟨E', rfl, rfl, ex, ⟨⟨fun j b' h => ?_, fun i j k k' q q' h h' he1 he2 hc hc' hbb => ?_⟩, fun j b' q h he1 hc => ?_, fun b hb => ?_, fun b hb => .inl (g.ok b hb), fun b hb => ?_, g.kp⟩, hf⟩
  · obtain ⟨hne, b, h1, h2⟩ := hH j b' h
    obtain ⟨q, q1, q2, q3⟩ := g.heap.live _ _ h1
    refine ⟨q, q1, ?_, fun hc => ⟨(q3 hc).1, ?_⟩⟩
    · -- the block reads as it did, with the list frozen in it
      cases b <;> cases b' <;> simp only [FrzB] at h2
      · obtain ⟨rfl, h2⟩ := h2
        obtain ⟨p1, p2, cs, p3, p4⟩ := q2
        exact ⟨p1, by rw [p2, h2.length], cs, p3, All2.comp (fun _ _ _ g k => ⟨g.rep ex hf k.1, k.2⟩) h2 p4⟩
      · obtain ⟨rfl, rfl, h2⟩ := h2
        obtain ⟨p1, p2, p3, p4, p5, p6⟩ := q2
        rename_i tb s rws rws'
        have get : ∀ (i : Nat) (x : List AV), rws'[i]? = some x → ∃ y, rws[i]? = some y ∧ All2 (Frz1 id sz rows) y x := fun i x hi => by
          have hil : i < rws.length := by rw [h2.length]; exact (List.getElem?_eq_some_iff.1 hi).1
          obtain ⟨x', g1, g2⟩ := h2.get (List.getElem?_eq_getElem hil)
          rw [hi] at g1; cases g1
          exact ⟨_, List.getElem?_eq_getElem hil, g2⟩
        refine ⟨p1, by rw [← h2.length]; exact p2, p3, by rw [← h2.length]; exact p4, fun x hx => ?_, ?_⟩
        · obtain ⟨i, hi⟩ := List.getElem?_of_mem hx
          obtain ⟨y, y1, y2⟩ := get i x hi
          rw [← y2.length]; exact p5 y (List.mem_of_getElem? y1)
        · rcases p6 with p6 | ⟨cs, p6, p7, p8⟩
          · exact .inl p6
          · refine .inr ⟨cs, p6, p7, fun i x j y hi hj => ?_⟩
            obtain ⟨x0, y1, y2⟩ := get i x hi
            have hjl : j < x0.length := by rw [y2.length]; exact (List.getElem?_eq_some_iff.1 hj).1
            obtain ⟨y', g1, g2⟩ := y2.get (List.getElem?_eq_getElem hjl)
            rw [hj] at g1; cases g1
            obtain ⟨u, u1, u2⟩ := p8 i x0 j _ y1 (List.getElem?_eq_getElem hjl)
            exact ⟨u, u1, g2.rep ex hf u2.1, u2.2⟩
    · rintro (hok | ⟨hcr, hbr⟩)
      · exact (q3 hc).2 hok
      · exact hne (g.heap.inj j id b _ q r h1 hid q1 he hc hcr hbr)
  · obtain ⟨_, b, h1, _⟩ := hH i k h
    obtain ⟨_, b2, h2, _⟩ := hH j k' h'
    exact g.heap.inj _ _ _ _ _ _ h1 h2 he1 he2 hc hc' hbb
  · obtain ⟨_, b, h1, _⟩ := hH j b' h
    exact g.own _ _ _ h1 he1 hc
  · rcases hb with hb | ⟨hcr, rfl⟩
    · exact g.okb b hb
    · exact (hown hcr).1
  · rcases hb with hb | ⟨hcr, rfl⟩
    · exact g.okn b hb
    · exact .inr (g.own _ _ _ hid he hcr)

theorem FinR.freeze {hp0 : List (Nat × Blk)} {H : Nat → Option Blk} {y x : AV} {hp' : List (Nat × Blk)} (id : Nat) {t sz : Nat} (rows : List (List PV)) (H' : Nat → Option Blk) (y' : AV) (hid : H id = some (.arr t sz (up rows)))
    (hH : ∀ j b', H' j = some b' → j ≠ id ∧ ∃ b, H j = some b ∧ FrzB id sz rows b b') (hy : FrzR id sz rows y y') (h : FinR hp0 H' y' hp' x) : FinR hp0 H y hp' x := by
  intro E0 E v h0 he g hr
  obtain ⟨E1, e1, e2, ex, g1, hf⟩ := freezeE g hid hH
  obtain ⟨E2, q1, q2, q3, q4⟩ := h E0 E1 v h0 (fun id r h => by rw [e2]; exact he id r h) g1 (hy E E1 v ex hf hr)
  exact ⟨E2, q1.trans e1, q2, q3, q4⟩

/-- nil, as a list of one's own. -/
theorem FinR.adopt {hp0 : List (Nat × Blk)} {H : Nat → Option Blk} {y x : AV} {hp' : List (Nat × Blk)} (m t sz : Nat) (y' : AV) (hm : H m = none) (hm0 : look hp0 m = none) (hH : ∀ id b, H id = some b → True)
    (hy : ∀ E E' v, Ext E E' → (∀ v, Rep1 E .nil v → Rep1 E' (.sl m 0 0) v) → Rep E y v → Rep E' y' v) (hfresh : ∀ E v, Rep E y v → E.e m = none ∨ True)
    (h : FinR hp0 (fun id => if id = m then some (.arr t sz []) else H id) y' hp' x) : (∀ E0 E v, (∀ id, look hp0 id = none → E0.e id = none) → (∀ id r, E0.e id = some r → E.e id = some r) → GamH E0 (look hp0) H E → E.e m = none → Rep E y v →
    ∃ E', E'.w = E.w ∧ (∀ id r, E0.e id = some r → E'.e id = some r) ∧ GamH E0 (look hp0) (look hp') E' ∧ Rep E' x v) := by
  intro E0 E v h0 he g hem hr
  let r : Root := ⟨0, 0, sz⟩
  have ex : Ext E (E.new m r E.w) := Env.new_ext hem fun _ _ => rfl
  have hnil : ∀ v, Rep1 E .nil v → Rep1 (E.new m r E.w) (.sl m 0 0) v := fun v k => by
    have k : v = .slice none 0 0 := k
    subst k
    exact ⟨r, none, by simp [Env.new], by simp [r], by simp [r], by simp [r]⟩
  have g1 : GamH E0 (look hp0) (fun id => if id = m then some (.arr t sz []) else H id) (E.new m r E.w) := by
    refine ⟨⟨fun id k hk => ?_, fun i j k k' q q' h h' he1 he2 hc hc' hbb => ?_⟩, fun i k q hk he1 hc => ?_, g.okb, g.ok, g.okn, g.kp⟩
    · by_cases hid : id = m
      · subst hid
        simp only [if_true, Option.some.injEq] at hk
        subst hk
        exact ⟨r, by simp [Env.new], ⟨rfl, by simp, by simp [r], by simp, (fun _ h => by cases h), .inl rfl⟩, fun hc => by simp [r] at hc⟩
      · simp only [hid, if_false] at hk
        obtain ⟨q, q1, q2, q3⟩ := g.heap.live _ _ hk
        exact ⟨q, by simp [Env.new, hid, q1], q2.ext ex (fun _ => rfl), q3⟩
    · have him : i ≠ m := fun hi => by subst hi; simp only [Env.new, if_true, Option.some.injEq] at he1; subst he1; simp [r] at hc
      have hjm : j ≠ m := fun hi => by subst hi; simp only [Env.new, if_true, Option.some.injEq] at he2; subst he2; simp [r] at hc'
      simp only [him, hjm, if_false] at h h'
      simp only [Env.new, him, hjm, if_false] at he1 he2
      exact g.heap.inj _ _ _ _ _ _ h h' he1 he2 hc hc' hbb
    · have him : i ≠ m := fun hi => by subst hi; simp only [Env.new, if_true, Option.some.injEq] at he1; subst he1; simp [r] at hc
      simp only [him, if_false] at hk
      simp only [Env.new, him, if_false] at he1
      exact g.own _ _ _ hk he1 hc
  obtain ⟨E2, q1, q2, q3, q4⟩ := h E0 (E.new m r E.w) v h0 (fun id q hq => ex.e _ _ (he _ _ hq)) g1 (hy _ _ _ ex hnil hr)
  exact ⟨E2, q1, q2, q3, q4⟩

/-- The same, on the way. -/
theorem SLe.freeze {hp0 : List (Nat × Blk)} {S : St} (id : Nat) {t sz : Nat} (rows : List (List PV)) (S' : St) (hid : S.hf id = some (.arr t sz (up rows)))
    (hH : ∀ j b', S'.hf j = some b' → j ≠ id ∧ ∃ b, S.hf j = some b ∧ FrzB id sz rows b b') (hT : ∀ t, FrzR id sz rows (S.tf t) (S'.tf t)) (hnx : S'.nx = S.nx) : SLe hp0 S S' := by
  intro E0 h0 N E a g
  obtain ⟨E1, e1, e2, ex, g1, hf⟩ := freezeE g.h hid hH
  exact ⟨E1, e1, ⟨g.defers, g.size, fun t => hT t E E1 _ ex hf (g.tmp t), g1.heap, g1.own, fun id hid => by rw [e2]; exact g.fresh id (by rw [← hnx]; exact hid), g1.okb, fun id r h => by rw [e2]; exact g.e _ _ h, g1.ok, g1.okn, g1.kp⟩⟩

/-! ### A whole function -/
def resA (P : Program) (tab : List (Nat × TI)) (S : St) : ResultVar → Option AV
  | .tmp t => some (S.tf t)
  | .cell a t => match look tab t with
    | none => none
    | some ti => match S.tf a with
      | .ptr id row off => match S.hf id with
        | some (.box _ cells) => bif Nat.beq row 0 && Nat.ble (off + ti.size) cells.length then valA ti.agg ((cells.drop off).take ti.size) else none
        | _ => none
      | _ => none
def resL (P : Program) (tab : List (Nat × TI)) (S : St) : List ResultVar → Option (List AV)
  | [] => some []
  | r :: l => match resA P tab S r with
    | none => none
    | some x => match resL P tab S l with
      | none => none
      | some m => bif noTup x then some (x :: m) else none
def retA : List AV → AV
  | [x] => x
  | l => .tup l

def resF (a : Act) : ResultVar → Sem Value
  | .tmp t => pure (a.tmps.getD t undef)
  | .cell q t => do loadVar t (← asAddr (a.tmps.getD q undef))
theorem resA_run {P : Program} {tab : List (Nat × TI)} (hT : TabOk P tab) (h1 : oneB tab = true) {S : St} {N : Nat} {E0 : Env} {H0 : Nat → Option Blk} {F : Nat → Prop} {E : Env} {a : Act} (g : Gam E0 H0 N F S.tf S.hf E a) {r : ResultVar} {x : AV} (h : resA P tab S r = some x) :
    ∃ v, (resF a r).run P E.w = .ok v E.w ∧ Rep E x v := by
  cases r with
  | tmp t =>
    simp only [resA, Option.some.injEq] at h
    subst h
    exact ⟨_, rfl, g.tmp t⟩
  | cell q t =>
    simp only [resA] at h
    cases hl : look tab t with
    | none => rw [hl] at h; cases h
    | some ti =>
      rw [hl] at h
      simp only at h
      have hq := g.tmp q
      cases hx : S.tf q <;> rw [hx] at h hq <;> first | (cases h; done) | skip
      rename_i id row off
      simp only at h
      cases hH : S.hf id with
      | none => rw [hH] at h; cases h
      | some b =>
        rw [hH] at h
        cases b with
        | arr => cases h
        | box tb cells =>
          simp only at h
          cases hb : (Nat.beq row 0 && Nat.ble (off + ti.size) cells.length)
          · rw [hb] at h; cases h
          · rw [hb] at h
            simp only [cond_true] at h
            rw [Bool.and_eq_true] at hb
            have := Nat.eq_of_beq_eq_true hb.1; subst this
            have hle := Nat.le_of_ble_eq_true hb.2
            obtain ⟨i, z, d, tf⟩ := hT.get hl
            obtain ⟨rt, e1, e2⟩ := hq
            obtain ⟨rt', e1', hk, _⟩ := g.heap.live _ _ hH
            rw [e1] at e1'; cases e1'
            obtain ⟨_, _, cs, hbk, hc⟩ := hk
            have h2 := (hc.drop off).take ti.size
            refine ⟨valV ti.agg ((cs.toList.drop off).take ti.size), ?_, rep_val h h2⟩
            have := run_loadVar_cells tf E.w rt.b off ((cs.toList.drop off).take ti.size) (by rw [← h2.length]; exact part_len hle) (oneB_get h1 hl) fun j v hj => by
              rw [cell_of_row _ _ _ _ _ _ hbk, ← Array.getElem?_toList]; exact part_get hj
            simp [resF, e2, asAddr, this]
theorem resL_run {P : Program} {tab : List (Nat × TI)} (hT : TabOk P tab) (h1 : oneB tab = true) {S : St} {N : Nat} {E0 : Env} {H0 : Nat → Option Blk} {F : Nat → Prop} {E : Env} {a : Act} (g : Gam E0 H0 N F S.tf S.hf E a) : ∀ {l : List ResultVar} {m : List AV}, resL P tab S l = some m →
    ∃ vs : List Value, (l.mapM (resF a)).run P E.w = .ok vs E.w ∧ All2 (RepA E) m vs
  | [], m, h => by simp only [resL, Option.some.injEq] at h; subst h; exact ⟨[], by simp, .nil⟩
  | r :: l, m, h => by
    simp only [resL] at h
    cases hr : resA P tab S r with
    | none => rw [hr] at h; cases h
    | some x =>
      rw [hr] at h
      simp only at h
      cases hl : resL P tab S l with
      | none => rw [hl] at h; cases h
      | some m' =>
        rw [hl] at h
        simp only at h
        cases hn : noTup x
        · rw [hn] at h; cases h
        · rw [hn] at h
          simp only [cond_true, Option.some.injEq] at h
          subst h
          obtain ⟨v, e1, e2⟩ := resA_run hT h1 g hr
          obtain ⟨vs, e3, e4⟩ := resL_run hT h1 g hl
          refine ⟨v :: vs, ?_, .cons (by cases x <;> first | exact e2 | (simp [noTup] at hn)) e4⟩
          rw [List.mapM_cons]
          simp only [Sem.run_bind, e1, Result.andThen_ok, e3, Sem.run_pure]

theorem results_run {P : Program} {tab : List (Nat × TI)} (hT : TabOk P tab) (h1 : oneB tab = true) {S : St} {N : Nat} {E0 : Env} {H0 : Nat → Option Blk} {F : Nat → Prop} {E : Env} {a : Act} (g : Gam E0 H0 N F S.tf S.hf E a) {fn : Func} {m : List AV} (h : resL P tab S fn.results.toList = some m) :
    ∃ v, (results fn a.tmps).run P E.w = .ok v E.w ∧ Rep E (retA m) v := by
  obtain ⟨vs, e1, e2⟩ := resL_run hT h1 g h
  have hm : (fn.results.mapM (resF a)).run P E.w = .ok vs.toArray E.w := by
    rw [Array.mapM_eq_mapM_toList, Sem.run_map, e1]; rfl
  have hres : results fn a.tmps = (do let vs ← fn.results.mapM (resF a); pure (if h : vs.size = 1 then vs[0] else .tuple vs)) := by
    unfold results
    congr 1
  rw [hres]
  simp only [Sem.run_bind, hm, Result.andThen_ok, Sem.run_pure]
  by_cases hl : vs.length = 1
  · obtain ⟨v, rfl⟩ : ∃ v, vs = [v] := by
      match vs, hl with
      | [v], _ => exact ⟨v, rfl⟩
    refine ⟨v, by simp, ?_⟩
    cases e2 with
    | cons k t =>
      cases t
      rename_i x
      show Rep E x v
      cases x <;> first | exact k | (exact k.elim)
  · refine ⟨.tuple vs.toArray, by simp [hl], ?_⟩
    have : retA m = .tup m := by
      have hml := e2.length
      match m with
      | [] => rfl
      | [x] => simp at hml; omega
      | _ :: _ :: _ => rfl
    rw [this]
    exact ⟨vs, rfl, e2⟩

def zipA : List AV → Nat → List (Nat × AV)
  | [], _ => []
  | x :: l, i => (i, x) :: zipA l (i + 1)
theorem zipA_rep {E : Env} : ∀ {xs : List AV} {vs : List Value}, All2 (RepA E) xs vs → ∀ (i t : Nat) (x : AV), look (zipA xs i) t = some x → ∃ v, i ≤ t ∧ vs[t - i]? = some v ∧ RepA E x v
  | _, _, .nil, i, t, x, h => by simp [zipA, look] at h
  | _, _, .cons h k, i, t, x, hl => by
    simp only [zipA, look] at hl
    cases hb : Nat.beq i t
    · rw [hb] at hl
      obtain ⟨v, g1, g2, g3⟩ := zipA_rep k (i + 1) t x hl
      refine ⟨v, by omega, ?_, g3⟩
      rw [show t - i = (t - (i + 1)) + 1 by omega]
      simpa using g2
    · rw [hb] at hl
      simp only [cond_true, Option.some.injEq] at hl
      have := Nat.eq_of_beq_eq_true hb
      subst this; subst hl
      exact ⟨_, Nat.le_refl _, by simp, h⟩

theorem rep_of_repA {E : Env} {x : AV} {v : Value} (h : RepA E x v) : Rep E x v := by
  cases x <;> first | exact h | exact h.elim

/-- What a function ends in. -/
def EndA (P : Program) (tab : List (Nat × TI)) (fn : Func) (hp0 : List (Nat × Blk)) (x : AV) (hp' : List (Nat × Blk)) (e : Exit) (S : St) : Prop :=
  match e with
  | .normal => ∃ m, resL P tab S fn.results.toList = some m ∧ FinR hp0 S.hf (retA m) hp' x
  | .ret => ∃ m, resL P tab S fn.results.toList = some m ∧ FinR hp0 S.hf (retA m) hp' x
  | _ => False

theorem Con.mk {P : Program} {tab : List (Nat × TI)} (hT : TabOk P tab) (h1 : oneB tab = true) {f : FuncId} {fn : Func} {c : Code} {xs : List AV} {hp0 hp' : List (Nat × Blk)} {x : AV} (nx : Nat) (hf : P.funcs[f]? = some fn) (hb : fn.body = some c) (hname : (fn.name == "runtime.NumGoroutine") = false)
    (hnx : (keysOf hp0).all (fun k => Nat.blt k nx) = true)
    (h : Tri P (xs.length + (fn.ntmps - xs.length)) hp0 c ⟨zipA xs 0, hp0.map (fun p => (p.1, some p.2)), nx⟩ (EndA P tab fn hp0 x hp')) : Con P f xs hp0 x hp' := by
  refine ⟨⟨fn, hf, hname, by rw [hb]; rfl⟩, fun E vals he hv hh hok => ?_⟩
  refine calls_of_wp hf hb ?_
  have hlen := hv.length
  have hgam : Gam E (look hp0) (xs.length + (fn.ntmps - xs.length)) (fun id => nx ≤ id) (St.mk (zipA xs 0) (hp0.map (fun p => (p.1, some p.2))) nx).tf (St.mk (zipA xs 0) (hp0.map (fun p => (p.1, some p.2))) nx).hf E
      { tmps := vals.toArray ++ Array.replicate (fn.ntmps - vals.toArray.size) undef, defers := [] } := by
    have hhf : ∀ id, (St.mk (zipA xs 0) (hp0.map (fun p => (p.1, some p.2))) nx).hf id = look hp0 id := fun id => by
      simp only [St.hf]
      clear h hnx he hh
      induction hp0 with
      | nil => rfl
      | cons p l ih =>
        simp only [List.map_cons, look]
        cases Nat.beq p.1 id
        · exact ih
        · rfl
    have hhf' := funext hhf
    refine ⟨rfl, by simp [hlen], fun t => ?_, by rw [hhf']; exact hh, fun id k r h1 h2 h3 => by rw [hhf'] at h1; exact .inr ⟨id, k, r, h1, h2, h3, rfl⟩, fun id hid => ?_, hok, fun _ _ h => h, fun _ h => h, fun _ h => .inl h, Kp.refl _ _⟩
    · unfold St.tf
      cases hl : look (zipA xs 0) t with
      | none => exact trivial
      | some y =>
        obtain ⟨v, _, g2, g3⟩ := zipA_rep hv 0 t y hl
        rw [Nat.sub_zero] at g2
        have hlt := (List.getElem?_eq_some_iff.1 g2).1
        rw [Array.getD_eq_getD_getElem?, Array.getElem?_append_left (by simpa using hlt)]
        simp only [List.getElem?_toArray, g2, Option.getD_some]
        exact rep_of_repA g3
    · refine he id ?_
      cases hl : look hp0 id with
      | none => rfl
      | some b =>
        have hk : hasKey hp0 id = true := by simp [hasKey, hl]
        have := List.all_eq_true.1 hnx id (hasKey_mem hk)
        have : id < nx := by simpa [Nat.blt_eq] using this
        omega
  refine wp_mono (h.out E he E _ hgam) fun e a' w' ⟨S', E', hw, hk, g'⟩ => ?_
  subst hw
  have fin : (∃ m, resL P tab S' fn.results.toList = some m ∧ FinR hp0 S'.hf (retA m) hp' x) → a'.defers = [] ∧ ∃ v, (results fn a'.tmps).run P E'.w = .ok v E'.w ∧ ∃ v' E'', Ending.returned v = .returned v' ∧ E''.w = E'.w ∧ Post E (look hp0) (fun _ => True) E'' (look hp') x v' := by
    rintro ⟨m, hm, hfin⟩
    obtain ⟨v, e1, e2⟩ := results_run hT h1 g' hm
    obtain ⟨E2, q1, q2, q3, q4⟩ := hfin E E' v he g'.e g'.h e2
    refine ⟨g'.defers, v, e1, v, E2, rfl, q1, ⟨q2, fun _ _ _ => trivial, q3.ok, q3.okn, q3.okb, q4, q3.heap, q3.own, ?_⟩⟩
    exact q3.kp
  cases e with
  | normal => exact fin hk
  | ret => exact fin hk
  | exit id => exact hk.elim
  | goto l => exact hk.elim
  | panic c => exact hk.elim
  | outgrown => exact hk.elim

end Go.Proofs.Am
