/- What a function does (Con), and how a call uses it. -/
import Derived.Test.YtpkfagbllafehaaAmJ
namespace Go.Proofs.Am
open Go Go.RowKit
set_option linter.unusedVariables false
set_option linter.unusedSimpArgs false

theorem All2.comp {α β γ : Type} {R : α → β → Prop} {S : α → γ → Prop} {T : β → γ → Prop} (f : ∀ a b c, R a b → S a c → T b c) : ∀ {as : List α} {bs : List β} {cs : List γ}, All2 R as bs → All2 S as cs → All2 T bs cs
  | _, _, _, .nil, .nil => .nil
  | _, _, _, .cons h t, .cons h' t' => .cons (f _ _ _ h h') (t.comp f t')
theorem All2.of_map_l {α β γ : Type} {R : α → β → Prop} (f : γ → α) : ∀ {as : List γ} {bs : List β}, All2 R (as.map f) bs → All2 (fun x b => R (f x) b) as bs
  | [], [], .nil => .nil
  | a :: as, b :: bs, .cons h t => .cons h (All2.of_map_l f t)
theorem All2.imp_mem {α β : Type} {R S : α → β → Prop} : ∀ {as : List α} {bs : List β}, (∀ a, a ∈ as → ∀ b, R a b → S a b) → All2 R as bs → All2 S as bs
  | _, _, _, .nil => .nil
  | _, _, f, .cons h t => .cons (f _ List.mem_cons_self _ h) (All2.imp_mem (fun a ha => f a (List.mem_cons_of_mem _ ha)) t)
def renI (π : List (Nat × Nat)) (id : Nat) : Nat := (look π id).getD id

/-- The same world, own variables under other names: what E' calls id (in S) is what E calls π id. -/
structure RenEnv (π : List (Nat × Nat)) (S : Nat → Bool) (E E' : Env) : Prop where
  w : E'.w = E.w
  ok : E'.ok = E.ok
  e : ∀ id, S id = true → E'.e id = E.e (renI π id)

def Sub1 (π : List (Nat × Nat)) (S : Nat → Bool) (x y : AV) : Prop := ∀ E E' v, RenEnv π S E E' → Rep1 E x v → v.oneCell' = true → Rep1 E' y v
def SubA (π : List (Nat × Nat)) (S : Nat → Bool) (x y : AV) : Prop := ∀ E E' v, RenEnv π S E E' → RepA E x v → RepA E' y v
def SubT (π : List (Nat × Nat)) (S : Nat → Bool) (x y : AV) : Prop := ∀ E E' v, RenEnv π S E E' → Rep E x v → Rep E' y v
def SubB (π : List (Nat × Nat)) (S : Nat → Bool) (b c : Blk) : Prop := ∀ E E' r, RenEnv π S E E' → BlkRep E r b → BlkRep E' r c

section
variable {π : List (Nat × Nat)} {S : Nat → Bool}
theorem Sub1.any {x : AV} : Sub1 π S x .any := fun _ _ _ _ _ _ => trivial
theorem Sub1.p {x y : PV} (h : x = y) : Sub1 π S (.p x) (.p y) := fun E E' v r k _ => by
  have k : RepP E.ok E.w x v := k
  show RepP E'.ok E'.w y v
  rw [r.ok, r.w, ← h]; exact k
theorem Sub1.nil : Sub1 π S .nil .nil := fun _ _ _ _ k _ => k
theorem Sub1.emp : Sub1 π S .emp .emp := fun _ _ _ _ k _ => k
theorem Sub1.und : Sub1 π S .und .und := fun _ _ _ _ k _ => k
theorem Sub1.nil_seq {sz : Nat} : Sub1 π S .nil (.p (.seq sz [])) := fun E E' v r k _ => by
  have k : v = .slice none 0 0 := k
  subst k; exact RepP.emp _ _ _ fun _ => rfl
theorem Sub1.emp_seq {sz : Nat} : Sub1 π S .emp (.p (.seq sz [])) := fun E E' v r k _ => by
  obtain ⟨a, c, rfl⟩ := k
  exact RepP.emp _ _ _ fun h => by cases h
theorem Sub1.ptr {id row off : Nat} (h : S id = true) : Sub1 π S (.ptr (renI π id) row off) (.ptr id row off) := fun E E' v r ⟨q, k1, k2⟩ _ => ⟨q, by rw [r.e id h]; exact k1, k2⟩
theorem Sub1.sl {id off len : Nat} (h : S id = true) : Sub1 π S (.sl (renI π id) off len) (.sl id off len) := fun E E' v r ⟨q, a, k1, k2⟩ _ => ⟨q, a, by rw [r.e id h]; exact k1, k2⟩
theorem Sub1.fptr {sz row off : Nat} {rows : List (List PV)} : Sub1 π S (.fptr sz rows row off) (.fptr sz rows row off) := fun E E' v r ⟨b, o, c, k1, k2⟩ _ => ⟨b, o, c, by rw [r.ok, r.w]; exact k1, k2⟩
theorem Sub1.fn {f : FuncId} {caps : List (Nat × Nat × Nat)} (h : ∀ c, c ∈ caps → S c.1 = true) : Sub1 π S (.fn f (caps.map fun c => (renI π c.1, c.2))) (.fn f caps) := fun E E' v r ⟨vs, k1, k2⟩ _ => by
  refine ⟨vs, k1, All2.imp_mem (fun c hc u hq => ?_) (All2.of_map_l _ k2)⟩
  obtain ⟨q, g1, g2⟩ := hq
  exact ⟨q, by rw [r.e c.1 (h c hc)]; exact g1, g2⟩

/-- One cell, as it may be handed on: by its looks. -/
theorem SubA.of1 {x y : AV} (h : Sub1 π S x y) (hx : cellsA x = some [x]) (hl : x.leaf = true) (hy : y.leaf = true) : SubA π S x y := fun E E' v r k => by
  have k1 : Rep1 E x v := by cases x <;> first | exact k | (simp [AV.leaf] at hl)
  have := h E E' v r k1 (rep1_one k1 hx)
  cases y <;> first | exact this | (simp [AV.leaf] at hy)
theorem SubA.any {x : AV} : SubA π S x .any := fun _ _ _ _ _ => trivial
theorem SubA.p {x y : PV} (h : x = y) : SubA π S (.p x) (.p y) := SubA.of1 (Sub1.p h) rfl rfl rfl
theorem SubA.nil_seq {sz : Nat} : SubA π S .nil (.p (.seq sz [])) := SubA.of1 Sub1.nil_seq rfl rfl rfl
theorem SubA.emp_seq {sz : Nat} : SubA π S .emp (.p (.seq sz [])) := SubA.of1 Sub1.emp_seq rfl rfl rfl
theorem SubA.nil : SubA π S .nil .nil := SubA.of1 Sub1.nil rfl rfl rfl
theorem SubA.emp : SubA π S .emp .emp := SubA.of1 Sub1.emp rfl rfl rfl
theorem SubA.ptr {id row off : Nat} (h : S id = true) : SubA π S (.ptr (renI π id) row off) (.ptr id row off) := SubA.of1 (Sub1.ptr h) rfl rfl rfl
theorem SubA.sl {id off len : Nat} (h : S id = true) : SubA π S (.sl (renI π id) off len) (.sl id off len) := SubA.of1 (Sub1.sl h) rfl rfl rfl
theorem SubA.fn {f : FuncId} {caps : List (Nat × Nat × Nat)} (h : ∀ c, c ∈ caps → S c.1 = true) : SubA π S (.fn f (caps.map fun c => (renI π c.1, c.2))) (.fn f caps) := SubA.of1 (Sub1.fn h) rfl rfl rfl
theorem SubA.agg {cs ds : List AV} (h : All2 (Sub1 π S) cs ds) : SubA π S (.agg cs) (.agg ds) := fun E E' v r ⟨vs, k1, k2⟩ => by
  exact ⟨vs, k1, All2.comp (fun _ _ _ g k => ⟨g E E' _ r k.1 k.2, k.2⟩) h k2⟩
theorem SubT.of {x y : AV} (h : SubA π S x y) (hx : (match x with | .tup _ => false | _ => true) = true) (hy : (match y with | .tup _ => false | _ => true) = true) : SubT π S x y := fun E E' v r k => by
  have k1 : RepA E x v := by cases x <;> first | exact k | (simp at hx)
  have := h E E' v r k1
  cases y <;> first | exact this | (simp at hy)
theorem SubT.tup {cs ds : List AV} (h : All2 (SubA π S) cs ds) : SubT π S (.tup cs) (.tup ds) := fun E E' v r ⟨vs, k1, k2⟩ => by
  exact ⟨vs, k1, All2.comp (fun _ _ _ g k => g E E' _ r k) h k2⟩
theorem SubT.any {x : AV} : SubT π S x .any := fun _ _ _ _ _ => trivial
theorem SubT.und : SubT π S .und .und := fun _ _ _ _ k => k

theorem SubB.box {t : TypeId} {cs ds : List AV} (h : All2 (Sub1 π S) cs ds) : SubB π S (.box t cs) (.box t ds) := fun E E' r re ⟨k1, k2, c, k3, k4⟩ => by
  exact ⟨k1, by rw [k2, h.length], c, by rw [re.w]; exact k3, All2.comp (fun _ _ _ g k => ⟨g E E' _ re k.1 k.2, k.2⟩) h k4⟩
theorem SubB.arr {t sz : Nat} {rows rows' : List (List AV)} (h : ∀ (i : Nat) (x : List AV), rows'[i]? = some x → ∃ y, rows[i]? = some y ∧ All2 (Sub1 π S) y x) : SubB π S (.arr t sz rows) (.arr t sz rows') := fun E E' r re ⟨k1, k2, k2', k2b, k3, k4⟩ => by
  have hle : rows'.length ≤ rows.length := by
    rcases Nat.lt_or_ge rows.length rows'.length with hlt | hge
    · obtain ⟨y, hy, _⟩ := h rows.length _ (List.getElem?_eq_getElem hlt)
      simp at hy
    · exact hge
  refine ⟨k1, by omega, k2', by omega, fun x hx => ?_, ?_⟩
  · obtain ⟨i, hi⟩ := List.getElem?_of_mem hx
    obtain ⟨y, hy, h2⟩ := h i x hi
    rw [← h2.length]; exact k3 y (List.mem_of_getElem? hy)
  · rcases k4 with k4 | ⟨cs, k4, k5, k6⟩
    · exact .inl k4
    · refine .inr ⟨cs, by rw [re.w]; exact k4, k5, fun i x j y hi hj => ?_⟩
      obtain ⟨x0, h0, h2⟩ := h i x hi
      have hjl : j < x0.length := by rw [h2.length]; exact (List.getElem?_eq_some_iff.1 hj).1
      obtain ⟨y', g1, g2⟩ := h2.get (List.getElem?_eq_getElem hjl)
      rw [hj] at g1; cases g1
      obtain ⟨u, q1, q2⟩ := k6 i x0 j _ h0 (List.getElem?_eq_getElem hjl)
      exact ⟨u, q1, g2 E E' u re q2.1 q2.2, q2.2⟩
theorem up_all {r : List PV} : All2 (Sub1 π S) (r.map AV.p) (r.map AV.p) := by
  induction r with
  | nil => exact .nil
  | cons x r ih => exact .cons (Sub1.p rfl) ih
theorem SubB.up {t sz : Nat} {rows rows' : List (List PV)} (h : rows' <+: rows) : SubB π S (.arr t sz (up rows)) (.arr t sz (up rows')) := SubB.arr fun i x hi => by
  obtain ⟨l, rfl⟩ := h
  simp only [Am.up, List.getElem?_map] at hi ⊢
  cases hr : rows'[i]? with
  | none => rw [hr] at hi; cases hi
  | some r =>
    rw [hr] at hi; cases hi
    exact ⟨_, by rw [List.getElem?_append_left (List.getElem?_eq_some_iff.1 hr).1, hr]; rfl, up_all⟩
theorem SubB.up_eq {t sz : Nat} {rows rows' : List (List PV)} (h : rows = rows') : SubB π S (.arr t sz (Am.up rows)) (.arr t sz (Am.up rows')) := SubB.up (h ▸ List.prefix_refl _)
end

def Callable (P : Program) (f : FuncId) : Prop := ∃ fn, P.funcs[f]? = some fn ∧ (fn.name == "runtime.NumGoroutine") = false ∧ fn.body.isSome = true

/-- What a function does: handed xs and the own variables hp, it returns x and leaves hp'. -/
def Con (P : Program) (f : FuncId) (xs : List AV) (hp : List (Nat × Blk)) (x : AV) (hp' : List (Nat × Blk)) : Prop :=
  Callable P f ∧ ∀ E vals, (∀ id, look hp id = none → E.e id = none) → All2 (RepA E) xs vals → HeapOk E (look hp) → (∀ b, E.ok b → b < E.w.heap.size) →
    Calls P f vals.toArray E.w fun en w' => ∃ v E', en = .returned v ∧ E'.w = w' ∧ Post E (look hp) (fun _ => True) E' (look hp') x v

def CallSem (P : Program) (f : FuncId) (xs : List AV) (H : Nat → Option Blk) (F : Nat → Prop) (H' : Nat → Option Blk) (x : AV) : Prop :=
  Callable P f ∧ ∀ E vals, All2 (RepA E) xs vals → HeapOk E H → (∀ id, F id → E.e id = none) → (∀ b, E.ok b → b < E.w.heap.size) →
    Calls P f vals.toArray E.w fun en w' => ∃ v E', en = .returned v ∧ E'.w = w' ∧ Post E H F E' H' x v

theorem Post.sub {E : Env} {H : Nat → Option Blk} {F : Nat → Prop} {E' : Env} {H' H'' : Nat → Option Blk} {x : AV} {v : Value} (p : Post E H F E' H' x v) (h : ∀ id k, H'' id = some k → H' id = some k) : Post E H F E' H'' x v := p.sub' h

def hasKey {α : Type} (l : List (Nat × α)) (id : Nat) : Bool := (look l id).isSome

theorem look_mem {α : Type} {l : List (Nat × α)} {id : Nat} {x : α} (h : look l id = some x) : (id, x) ∈ l := by
  induction l with
  | nil => simp [look] at h
  | cons p l ih =>
    unfold look at h
    cases hb : Nat.beq p.1 id
    · rw [hb] at h; exact List.mem_cons_of_mem _ (ih h)
    · rw [hb] at h
      simp only [cond_true, Option.some.injEq] at h
      have := Nat.eq_of_beq_eq_true hb
      subst this; subst h; exact List.mem_cons_self

/-- A call, by what the function does: π names the function's own variables here, σ names these there. -/
theorem Con.use {P : Program} {f : FuncId} {xs0 : List AV} {hp0 hp0' : List (Nat × Blk)} {x0 : AV} (c : Con P f xs0 hp0 x0 hp0') {xs : List AV} {H : Nat → Option Blk} {F : Nat → Prop} {x : AV} {hpc : List (Nat × Blk)} (π σ : List (Nat × Nat))
    (hxs : All2 (SubA π (hasKey hp0)) xs xs0)
    (hin : ∀ k b0, (k, b0) ∈ hp0 → ∃ b, H (renI π k) = some b ∧ SubB π (hasKey hp0) b b0)
    (hinj : ∀ k k', hasKey hp0 k = true → hasKey hp0 k' = true → renI π k = renI π k' → k = k')
    (hx : SubT σ (fun id => hasKey hpc id || hasKey hp0 (renI σ id)) x0 x)
    (hout : ∀ id b, (id, b) ∈ hpc → ∃ b0, look hp0' (renI σ id) = some b0 ∧ SubB σ (fun id => hasKey hpc id || hasKey hp0 (renI σ id)) b0 b)
    (hσ : ∀ id, hasKey hpc id = true → hasKey hp0 (renI σ id) = false → F id) (hσ2 : ∀ id, hasKey hp0 (renI σ id) = true → renI π (renI σ id) = id)
    (hσ3 : ∀ id id', hasKey hpc id = true → hasKey hpc id' = true → renI σ id = renI σ id' → id = id') : CallSem P f xs H F (look hpc) x := by
  refine ⟨c.1, fun E vals hv hh hf hok => ?_⟩
  let Ec : Env := ⟨fun id => bif hasKey hp0 id then E.e (renI π id) else none, E.ok, E.w⟩
  have hre : RenEnv π (hasKey hp0) E Ec := ⟨rfl, rfl, fun id h => by simp [Ec, h]⟩
  have hEc : ∀ id, hasKey hp0 id = true → Ec.e id = E.e (renI π id) := fun id h => by simp [Ec, h]
  have hlive : ∀ id k, look hp0 id = some k → ∃ b, H (renI π id) = some b ∧ SubB π (hasKey hp0) b k := fun id k h => hin id k (look_mem h)
  have hkey : ∀ id k, look hp0 id = some k → hasKey hp0 id = true := fun id k h => by simp [hasKey, h]
  have howns : ∀ b, Owns Ec (look hp0) b → Owns E H b := by
    rintro b ⟨id, k, r, h1, h2, h3, h4⟩
    obtain ⟨b', g1, _⟩ := hlive id k h1
    exact ⟨renI π id, b', r, g1, by rw [← hEc id (hkey _ _ h1)]; exact h2, h3, h4⟩
  have hhc : HeapOk Ec (look hp0) := by
    constructor
    · intro id k h
      obtain ⟨b, g1, g2⟩ := hlive id k h
      obtain ⟨r, q1, q2, q3⟩ := hh.live _ _ g1
      exact ⟨r, by rw [hEc id (hkey _ _ h)]; exact q1, g2 E Ec r hre q2, q3⟩
    · intro id id' k k' r r' h h' he he' hc hc' hbb
      obtain ⟨b, g1, _⟩ := hlive id k h
      obtain ⟨b', g1', _⟩ := hlive id' k' h'
      rw [hEc id (hkey _ _ h)] at he
      rw [hEc id' (hkey _ _ h')] at he'
      exact hinj _ _ (hkey _ _ h) (hkey _ _ h') (hh.inj _ _ _ _ _ _ g1 g1' he he' hc hc' hbb)
  have hxs' : All2 (RepA Ec) xs0 vals := All2.comp (fun _ _ _ g k => g E Ec _ hre k) hxs hv
  refine (c.2 Ec vals (fun id h => by simp [Ec, hasKey, h]) hxs' hhc hok).mono ?_
  rintro en w' ⟨v, Ec', rfl, rfl, p⟩
  let S' : Nat → Bool := fun id => hasKey hpc id || hasKey hp0 (renI σ id)
  let E' : Env := ⟨fun id => match E.e id with
    | some r => some r
    | none => bif S' id then Ec'.e (renI σ id) else none, Ec'.ok, Ec'.w⟩
  have hre' : RenEnv σ S' Ec' E' := by
    refine ⟨rfl, rfl, fun id h => ?_⟩
    cases hk : hasKey hp0 (renI σ id)
    · have hpc' : hasKey hpc id = true := by simpa [S', hk] using h
      have : E.e id = none := hf id (hσ id hpc' hk)
      simp [E', this, h]
    · -- an elder one
      have h2 := hσ2 id hk
      cases hl : look hp0 (renI σ id) with
      | none => simp [hasKey, hl] at hk
      | some k =>
        obtain ⟨r, q1, _⟩ := hhc.live _ _ hl
        have q2 := p.e _ _ q1
        have q3 : E.e id = some r := by rw [hEc _ hk, h2] at q1; exact q1
        simp [E', q3, q2]
  have hE'e : ∀ id r, E.e id = some r → E'.e id = some r := fun id r h => by simp [E', h]
  refine ⟨v, E', rfl, rfl, ⟨hE'e, fun id h h' => ?_, p.ok, fun b hb => (p.okn b hb).imp_right (·.imp_right (howns b)), p.okb, hx Ec' E' v hre' p.rep, ⟨fun id b h => ?_, fun id id' k k' r r' h h' he he' hc hc' hbb => ?_⟩, fun id b r h he hc => ?_, p.kp.imp howns⟩⟩
  · simp only [E', h] at h'
    cases hs : S' id
    · rw [hs] at h'; exact (h' rfl).elim
    · cases hk : hasKey hp0 (renI σ id)
      · exact hσ id (by simpa [S', hk] using hs) hk
      · -- then E.e id is there
        exfalso
        cases hl : look hp0 (renI σ id) with
        | none => simp [hasKey, hl] at hk
        | some k =>
          obtain ⟨r, q1, _⟩ := hhc.live _ _ hl
          rw [hEc _ hk, hσ2 id hk, h] at q1; cases q1
  · obtain ⟨b0, g1, g2⟩ := hout id b (look_mem h)
    obtain ⟨r, q1, q2, q3⟩ := p.heap.live _ _ g1
    have hs : S' id = true := by simp [S', hasKey, h]
    exact ⟨r, by rw [hre'.e id hs]; exact q1, g2 Ec' E' r hre' q2, q3⟩
  · obtain ⟨b0, g1, _⟩ := hout id k (look_mem h)
    obtain ⟨b0', g1', _⟩ := hout id' k' (look_mem h')
    have hs : S' id = true := by simp [S', hasKey, h]
    have hs' : S' id' = true := by simp [S', hasKey, h']
    rw [hre'.e id hs] at he
    rw [hre'.e id' hs'] at he'
    exact hσ3 id id' (by simp [hasKey, h]) (by simp [hasKey, h']) (p.heap.inj _ _ _ _ _ _ g1 g1' he he' hc hc' hbb)
  · obtain ⟨b0, g1, _⟩ := hout id b (look_mem h)
    have hs : S' id = true := by simp [S', hasKey, h]
    rw [hre'.e id hs] at he
    rcases p.blk _ _ _ g1 he hc with q | q
    · exact .inl q
    · exact .inr (howns _ q)

/-- A function that is handed values alone. -/
theorem Con.pure {P : Program} {f : FuncId} {xs0 : List AV} {x0 : AV} (c : Con P f xs0 [] x0 []) {xs : List AV} {H : Nat → Option Blk} {F : Nat → Prop} {x : AV} (hxs : All2 (SubA [] (fun _ => false)) xs xs0) (hx : SubT [] (fun _ => false) x0 x) :
    CallSem P f xs H F (fun _ => none) x :=
  Con.use (hpc := []) c [] [] hxs (fun _ _ h => by cases h) (fun _ _ h => by simp [hasKey, look] at h) hx (fun _ _ h => by cases h) (fun _ h => by simp [hasKey, look] at h) (fun _ h => by simp [hasKey, look] at h) (fun _ _ h => by simp [hasKey, look] at h)

section
variable {P : Program} {o : Oper} {ρ : Operand → AV} {H : Nat → Option Blk} {F : Nat → Prop}
def capArgs (caps : List (Nat × Nat × Nat)) : List AV := caps.map fun c => .ptr c.1 c.2.1 c.2.2

def noTup : AV → Bool
  | .tup _ => false
  | _ => true
theorem args_rep {E : Env} {a : Act} : ∀ (l : List Operand), (∀ u, u ∈ l → Rep E (ρ u) (a.eval u)) → (l.all fun u => noTup (ρ u)) = true → All2 (RepA E) (l.map ρ) (l.map a.eval)
  | [], _, _ => .nil
  | u :: l, h, hn => by
    simp only [List.all_cons, Bool.and_eq_true] at hn
    refine .cons ?_ (args_rep l (fun v hv => h v (List.mem_cons_of_mem _ hv)) hn.2)
    have h1 := h u List.mem_cons_self
    cases hu : ρ u <;> rw [hu] at h1 hn <;> first | exact h1 | (simp [noTup] at hn)

theorem capArgs_rep {E : Env} : ∀ {caps : List (Nat × Nat × Nat)} {vs : List Value}, All2 (fun (c : Nat × Nat × Nat) u => ∃ r, E.e c.1 = some r ∧ u = .pointer (some ⟨r.b, c.2.1 * r.sz + c.2.2, none⟩)) caps vs → All2 (RepA E) (capArgs caps) vs
  | _, _, .nil => .nil
  | _, _, .cons h t => .cons h (capArgs_rep t)
theorem sem_call {fo : Operand} {args : Array Operand} {ats : Array TypeId} {f : FuncId} {caps : List (Nat × Nat × Nat)} {H' : Nat → Option Blk} {x : AV} (ho : o.op = .call { callee := .value fo, args := args, argTypes := ats }) (hfo : ρ fo = .fn f caps) (hnt : (args.toList.all fun u => noTup (ρ u)) = true)
    (c : CallSem P f (args.toList.map ρ ++ capArgs caps) H F H' x) : OpSem P o ρ H F H' x := by
  intro Q K a E hr hh hf hok k
  obtain ⟨⟨fn, hfn, hname, hbody⟩, hc⟩ := c
  obtain ⟨vs, hv, hcaps⟩ := hfo ▸ hr fo (by simp [ho, Op.operands, Call.operands])
  have h1 := args_rep (E := E) (ρ := ρ) (a := a) args.toList (fun u hu => hr u (by simp [ho, Op.operands, Call.operands]; exact .inr (by simpa using hu))) hnt
  have h2 : All2 (RepA E) (capArgs caps) vs := capArgs_rep hcaps
  have hcall := hc E _ (h1.append h2) hh hf hok
  have hexec : (execOp a.eval o).run P E.w = .ok (.enter f ((args.toList.map a.eval ++ vs).toArray)) E.w := by
    have hb2 : ¬ fn.body = none := by intro hn; rw [hn] at hbody; cases hbody
    have hn2 : ¬ fn.name = "runtime.NumGoroutine" := by simpa using hname
    have harr : args.map a.eval ++ vs.toArray = (args.toList.map a.eval ++ vs).toArray := by apply Array.ext'; simp
    simp [execOp, ho, resolve, hv, Deferred.ofValue, invoke, callFunc, hfn, hn2, hb2, harr]
  unfold Oper.wp
  rw [hexec]
  exact hcall.mono fun en w' hq => by
    obtain ⟨v, E', rfl, rfl, p⟩ := hq
    exact k v E' p
end
end Go.Proofs.Am
