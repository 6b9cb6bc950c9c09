/- Calls with own variables; lists frozen at a call; nil as an own list. -/
import Derived.Test.YtpkfagbllafehaaAmQ
namespace Go.Proofs.Am
open Go Go.RowKit
set_option linter.unusedVariables false
set_option linter.unusedSimpArgs false

theorem Frz1.repA {id sz : Nat} {rows : List (List PV)} {x y : AV} (h : Frz1 id sz rows x y) {E E' : Env} (ex : Ext E E') (hf : ∀ off len v, Rep1 E (.sl id off len) v → off + len ≤ rows.length → Rep1 E' (.p (.seq sz ((rows.drop off).take len))) v) {v : Value} (k : RepA E x v) : RepA E' y v := by
  rcases h with rfl | ⟨off, len, rfl, hl, rfl⟩
  · exact k.ext ex
  · exact hf off len v k hl

/-- A call that is handed an own list as a value: the list is not written any more. -/
theorem CallSem.freeze {P : Program} {f : FuncId} {xs xs' : List AV} {H Hm : Nat → Option Blk} {F : Nat → Prop} {H' : Nat → Option Blk} {x : AV} (id : Nat) {t sz : Nat} (rows : List (List PV)) (hid : H id = some (.arr t sz (up rows)))
    (hm : ∀ j b, Hm j = some b → j ≠ id ∧ H j = some b) (hxs : All2 (Frz1 id sz rows) xs xs') (c : CallSem P f xs' Hm F H' x) : CallSem P f xs H F H' x := by
  refine ⟨c.1, fun E vals hv hh hf hok => ?_⟩
  have g : GamH E H H E := ⟨hh, fun i k r h1 h2 h3 => .inr ⟨i, k, r, h1, h2, h3, rfl⟩, hok, fun _ h => h, fun _ h => .inl h, Kp.refl _ _⟩
  obtain ⟨E1, e1, e2, ex, g1, hfz⟩ := freezeE (H' := Hm) g hid (fun j b h => ⟨(hm j b h).1, b, (hm j b h).2, FrzB.same⟩)
  have hv' : All2 (RepA E1) xs' vals := All2.comp (fun _ _ _ h k => h.repA ex hfz k) hxs hv
  have ho : ∀ b, Owns E1 Hm b → Owns E H b := by
    rintro b ⟨i, k, r, h1, h2, h3, h4⟩
    exact ⟨i, k, r, (hm _ _ h1).2, by rw [← e2]; exact h2, h3, h4⟩
  have := c.2 E1 vals hv' g1.heap (fun i hi => by rw [e2]; exact hf i hi) g1.okb
  rw [e1] at this
  refine this.mono ?_
  rintro en w' ⟨v, E', rfl, rfl, p⟩
  refine ⟨v, E', rfl, rfl, ⟨fun i r h => p.e i r (by rw [e2]; exact h), fun i h h' => p.new i (by rw [e2]; exact h) h', fun b h => p.ok b (ex.ok b h), fun b hb => ?_, p.okb, p.rep, p.heap, fun i k r h1 h2 h3 => ?_, by have := p.kp; rw [e1] at this; exact this.imp ho⟩⟩
  · rcases p.okn b hb with h | h | h
    · exact g1.okn b h
    · rw [e1] at h; exact .inr (.inl h)
    · exact .inr (.inr (ho b h))
  · have := p.blk i k r h1 h2 h3
    rw [e1] at this
    exact this.imp_right (ho _)

theorem CallSem.sub {P : Program} {f : FuncId} {xs : List AV} {H H1 : Nat → Option Blk} {F : Nat → Prop} {H' : Nat → Option Blk} {x : AV}
    (hs : ∀ j b, H1 j = some b → ∃ b0, H j = some b0 ∧ SubB [] (fun _ => true) b0 b) (c : CallSem P f xs H1 F H' x) : CallSem P f xs H F H' x := by
  refine ⟨c.1, fun E vals hv hh hf hok => ?_⟩
  have hre : RenEnv [] (fun _ => true) E E := ⟨rfl, rfl, fun id _ => by simp [renI, look]⟩
  have hh1 : HeapOk E H1 := by
    refine ⟨fun id k h => ?_, fun i j k k' q q' h h' he1 he2 hc hc' hbb => ?_⟩
    · obtain ⟨b0, h1, h2⟩ := hs id k h
      obtain ⟨r, q1, q2, q3⟩ := hh.live _ _ h1
      exact ⟨r, q1, h2 E E r hre q2, q3⟩
    · obtain ⟨b0, h1, _⟩ := hs i k h
      obtain ⟨b1, h2, _⟩ := hs j k' h'
      exact hh.inj _ _ _ _ _ _ h1 h2 he1 he2 hc hc' hbb
  have ho : ∀ b, Owns E H1 b → Owns E H b := by
    rintro b ⟨i, k, r, h1, h2, h3, h4⟩
    obtain ⟨b0, q1, _⟩ := hs i k h1
    exact ⟨i, b0, r, q1, h2, h3, h4⟩
  refine (c.2 E vals hv hh1 hf hok).mono ?_
  rintro en w' ⟨v, E', rfl, rfl, p⟩
  exact ⟨v, E', rfl, rfl, ⟨p.e, p.new, p.ok, fun b hb => (p.okn b hb).imp_right (·.imp_right (ho b)), p.okb, p.rep, p.heap, fun i k q h1 h2 h3 => (p.blk i k q h1 h2 h3).imp_right (ho _), p.kp.imp ho⟩⟩
theorem SubB.self {b : Blk} : SubB [] (fun _ => true) b b := fun E E' r re k => by
  have he : E'.e = E.e := funext fun id => by rw [re.e id rfl]; simp [renI, look]
  have : E' = E := by cases E; cases E'; simp only at he; have h1 := re.w; have h2 := re.ok; simp only at h1 h2; subst he; subst h1; subst h2; rfl
  rw [this]; exact k
theorem CallSem.freeze' {P : Program} {f : FuncId} {xs xs' : List AV} {H Hm : Nat → Option Blk} {F : Nat → Prop} {H' : Nat → Option Blk} {x : AV} (id : Nat) {t sz : Nat} {b0 : Blk} (rows : List (List PV)) (hid : H id = some b0) (hup : SubB [] (fun _ => true) b0 (.arr t sz (up rows)))
    (hm : ∀ j b, Hm j = some b → j ≠ id ∧ H j = some b) (hxs : All2 (Frz1 id sz rows) xs xs') (c : CallSem P f xs' Hm F H' x) : CallSem P f xs H F H' x := by
  let H1 : Nat → Option Blk := fun j => if j = id then some (.arr t sz (up rows)) else H j
  have h1 : H1 id = some (.arr t sz (up rows)) := by simp [H1]
  have c1 : CallSem P f xs H1 F H' x := CallSem.freeze id rows h1 (fun j b h => ⟨(hm j b h).1, by simp only [H1, (hm j b h).1, if_false]; exact (hm j b h).2⟩) hxs c
  refine CallSem.sub (H1 := H1) (fun j b h => ?_) c1
  by_cases hj : j = id
  · subst hj; rw [h1] at h; cases h; exact ⟨_, hid, hup⟩
  · simp only [H1, hj, if_false] at h; exact ⟨_, h, SubB.self⟩

/-! ### A call with own variables -/
def allNb (f : Nat → Bool) : List Nat → Bool
  | [] => true
  | k :: l => f k && allNb f l
theorem allNb_mem {f : Nat → Bool} : ∀ {l : List Nat}, allNb f l = true → ∀ k, k ∈ l → f k = true
  | [], _, k, h => by cases h
  | j :: l, h, k, hk => by
    simp only [allNb, Bool.and_eq_true] at h
    rcases List.mem_cons.1 hk with rfl | hk
    · exact h.1
    · exact allNb_mem h.2 k hk
def injB (π : List (Nat × Nat)) (l : List Nat) : Bool := allNb (fun a => allNb (fun b => Nat.beq a b || !Nat.beq (renI π a) (renI π b)) l) l
theorem injB_of {π : List (Nat × Nat)} {l : List Nat} (h : injB π l = true) {a b : Nat} (ha : a ∈ l) (hb : b ∈ l) (e : renI π a = renI π b) : a = b := by
  have := allNb_mem (allNb_mem h a ha) b hb
  rw [Bool.or_eq_true] at this
  rcases this with h | h
  · exact Nat.eq_of_beq_eq_true h
  · rw [e, Nat.beq_refl] at h; cases h
def hasN (l : List Nat) (k : Nat) : Bool := !allNb (fun j => !Nat.beq j k) l
theorem hasN_mem : ∀ {l : List Nat} {k : Nat}, hasN l k = true ↔ k ∈ l
  | [], k => by simp [hasN, allNb]
  | j :: l, k => by
    have ih := hasN_mem (l := l) (k := k)
    simp only [hasN, allNb, Bool.not_and, Bool.not_not, Bool.or_eq_true, List.mem_cons]
    rw [show (!allNb (fun j => !Nat.beq j k) l) = true ↔ k ∈ l from ih]
    constructor
    · rintro (h | h)
      · exact .inl (Nat.eq_of_beq_eq_true h).symm
      · exact .inr h
    · rintro (rfl | h)
      · exact .inl (Nat.beq_refl _)
      · exact .inr h
/-- The names at a call: what goes in, what comes out, what is new. -/
def callB (π σ : List (Nat × Nat)) (i0 ic : List Nat) (m : Nat) : Bool :=
  injB π i0 && injB σ ic && allNb (fun id => bif hasN i0 (renI σ id) then Nat.beq (renI π (renI σ id)) id else Nat.ble m id && Nat.blt id (m + 16) && !hasN (i0.map (renI π)) id) ic
theorem hasKey_iff {α : Type} : ∀ {l : List (Nat × α)} {id : Nat}, hasKey l id = true ↔ id ∈ keysOf l
  | [], id => by simp [hasKey, look, keysOf]
  | (k, b) :: l, id => by
    have ih := hasKey_iff (l := l) (id := id)
    unfold hasKey at ih ⊢
    simp only [look, keysOf, List.map_cons, List.mem_cons]
    cases hb : Nat.beq k id
    · simp only [cond_false]
      rw [ih]
      constructor
      · exact .inr
      · rintro (rfl | h)
        · rw [Nat.beq_refl] at hb; cases hb
        · exact h
    · have := Nat.eq_of_beq_eq_true hb
      subst this; simp

theorem look_some_map {l : List (Nat × Blk)} {id : Nat} {b : Blk} (h : look l id = some b) : look (l.map fun p => (p.1, some p.2)) id = some (some b) := by
  induction l with
  | nil => simp [look] at h
  | cons p l ih =>
    simp only [List.map_cons, look] at h ⊢
    cases hb : Nat.beq p.1 id
    · rw [hb] at h; exact ih h
    · rw [hb] at h; simp only [cond_true, Option.some.injEq] at h ⊢; exact h
theorem look_map_some {l : List (Nat × Blk)} {id : Nat} {o : Option Blk} (h : look (l.map fun p => (p.1, some p.2)) id = some o) : ∃ b, o = some b ∧ look l id = some b := by
  induction l with
  | nil => simp [look] at h
  | cons p l ih =>
    simp only [List.map_cons, look] at h ⊢
    cases hb : Nat.beq p.1 id
    · rw [hb] at h; simpa using ih h
    · rw [hb] at h; simp only [cond_true, Option.some.injEq] at h ⊢; exact ⟨_, h.symm, rfl⟩

/-- What a call leaves. -/
def leaves (hpc : List (Nat × Blk)) (gone : List Nat) : List (Nat × Option Blk) := (hpc.map fun p => (p.1, some p.2)) ++ gone.map fun id => (id, none)
theorem leaves_look {hpc : List (Nat × Blk)} {gone : List Nat} {id : Nat} {o : Option Blk} (h : look (leaves hpc gone) id = some o) : (∃ b, o = some b ∧ look hpc id = some b) ∨ (o = none ∧ look hpc id = none ∧ id ∈ gone) := by
  unfold leaves at h
  rw [look_append] at h
  cases hq : look (hpc.map fun p => (p.1, some p.2)) id with
  | some v =>
    rw [hq] at h
    simp only [Option.some.injEq] at h; subst h
    exact .inl (look_map_some hq)
  | none =>
    rw [hq] at h
    simp only at h
    have h2 : look hpc id = none := by
      cases hl : look hpc id with
      | none => rfl
      | some b => rw [look_some_map hl] at hq; cases hq
    refine .inr ?_
    clear hq
    induction gone with
    | nil => simp [look] at h
    | cons g l ih =>
      simp only [List.map_cons, look] at h
      cases hb : Nat.beq g id
      · rw [hb] at h
        obtain ⟨a, b, c⟩ := ih h
        exact ⟨a, b, List.mem_cons_of_mem _ c⟩
      · rw [hb] at h
        simp only [cond_true, Option.some.injEq] at h
        have := Nat.eq_of_beq_eq_true hb; subst this
        exact ⟨h.symm, h2, List.mem_cons_self⟩
theorem leaves_gone {hpc : List (Nat × Blk)} {gone : List Nat} {id : Nat} (h : id ∈ gone) (h2 : look hpc id = none) : look (leaves hpc gone) id = some none := by
  unfold leaves
  rw [look_append]
  cases hq : look (hpc.map fun p => (p.1, some p.2)) id with
  | some v => obtain ⟨b, _, k⟩ := look_map_some hq; rw [h2] at k; cases k
  | none =>
    simp only
    clear hq
    induction gone with
    | nil => cases h
    | cons g l ih =>
      simp only [List.map_cons, look]
      cases hb : Nat.beq g id
      · simp only [cond_false]
        rcases List.mem_cons.1 h with rfl | h
        · rw [Nat.beq_refl] at hb; cases hb
        · exact ih h
      · rfl

theorem cut_leaves {hpc : List (Nat × Blk)} {gone touch : List Nat} {h : Nat → Option Blk} (ht : ∀ id, id ∈ touch → id ∈ gone) {id : Nat} {k : Blk} (hk : cut (domF touch (leaves hpc gone)) (putF (leaves hpc gone) h) id = some k) : look hpc id = some k := by
  obtain ⟨h1, h2⟩ := cut_some hk
  unfold putF at h2
  cases hl : look (leaves hpc gone) id with
  | none =>
    simp only [domF, hl, Option.isSome_none, Bool.or_false] at h1
    obtain ⟨j, hj, hjb⟩ := List.any_eq_true.1 h1
    have := Nat.eq_of_beq_eq_true hjb; subst this
    cases hq : look hpc j with
    | none => rw [leaves_gone (ht _ hj) hq] at hl; cases hl
    | some b =>
      exfalso
      unfold leaves at hl
      rw [look_append, look_some_map hq] at hl
      cases hl
  | some o =>
    rw [hl] at h2
    rcases leaves_look hl with ⟨b, rfl, hb⟩ | ⟨rfl, _, _⟩
    · simp only [Option.some.injEq] at h2; subst h2; exact hb
    · cases h2

theorem SLIST {hp0 : List (Nat × Blk)} {π : List (Nat × Nat)} {S : Nat → Bool} {h : Nat → Option Blk} (hin : HLe π S h (hp0.map fun p => (p.1, some p.2))) : ∀ k b0, (k, b0) ∈ hp0 → ∃ b, h (renI π k) = some b ∧ SubB π S b b0 := by
  induction hp0 with
  | nil => intro k b0 hm; cases hm
  | cons p l ih =>
    intro k b0 hm
    rcases List.mem_cons.1 hm with rfl | hm
    · exact hin.1
    · exact ih hin.2 k b0 hm

theorem callSem_of {P : Program} {f : FuncId} {xs xs0 : List AV} {hp0 hp0' hpc : List (Nat × Blk)} {x0 x : AV} {H : Nat → Option Blk} {m : Nat} (c : Con P f xs0 hp0 x0 hp0') (π σ : List (Nat × Nat))
    (hb : callB π σ (keysOf hp0) (keysOf hpc) m = true) (hxs : All2 (SubA π (hasKey hp0)) xs xs0) (hin : HLe π (hasKey hp0) H (hp0.map fun p => (p.1, some p.2)))
    (hx : SubT σ (fun id => hasKey hpc id || hasKey hp0 (renI σ id)) x0 x) (hout : HLe σ (fun id => hasKey hpc id || hasKey hp0 (renI σ id)) (look hp0') (hpc.map fun p => (p.1, some p.2)))
    (hσ0 : ∀ id, hasKey hp0 (renI σ id) = true → renI π (renI σ id) = id) : CallSem P f xs H (ids m) (look hpc) x := by
  unfold callB at hb
  rw [Bool.and_eq_true, Bool.and_eq_true] at hb
  obtain ⟨⟨b1, b2⟩, b3⟩ := hb
  refine Con.use c π σ hxs (SLIST hin) (fun k k' h h' e => injB_of b1 (hasKey_iff.1 h) (hasKey_iff.1 h') e) hx (SLIST hout) (fun id h h' => ?_) hσ0 (fun k k' h h' e => injB_of b2 (hasKey_iff.1 h) (hasKey_iff.1 h') e)
  have := allNb_mem b3 id (hasKey_iff.1 h)
  have hn : hasN (keysOf hp0) (renI σ id) = false := by
    cases hq : hasN (keysOf hp0) (renI σ id)
    · rfl
    · rw [hasKey_iff.2 (hasN_mem.1 hq)] at h'; cases h'
  rw [hn] at this
  simp only [cond_false, Bool.and_eq_true] at this
  exact ⟨Nat.le_of_ble_eq_true this.1.1, Nat.le_of_ble_eq_true (by simpa [Nat.blt] using this.1.2)⟩

/-- σ undoes π, by a look at the names. -/
def undoB (π σ : List (Nat × Nat)) (i0 : List Nat) : Bool :=
  allNb (fun k => allNb (fun p => !Nat.beq (renI σ p) k || Nat.beq (renI π k) p) (keysOf σ) && (hasN (keysOf σ) k || Nat.beq (renI π k) k)) i0
theorem undoB_of {π σ : List (Nat × Nat)} {i0 : List Nat} (h : undoB π σ i0 = true) {id : Nat} (hk : renI σ id ∈ i0) : renI π (renI σ id) = id := by
  have := allNb_mem h _ hk
  rw [Bool.and_eq_true] at this
  by_cases hid : id ∈ keysOf σ
  · have h1 := allNb_mem this.1 id hid
    rw [Bool.or_eq_true] at h1
    rcases h1 with h1 | h1
    · rw [Nat.beq_refl] at h1; cases h1
    · exact Nat.eq_of_beq_eq_true h1
  · have hl : look σ id = none := by
      cases hq : look σ id with
      | none => rfl
      | some v => exact absurd (hasKey_iff.1 (show hasKey σ id = true by simp [hasKey, hq])) hid
    have he : renI σ id = id := by simp [renI, hl]
    rw [he] at this ⊢
    have h2 := this.2
    rw [Bool.or_eq_true] at h2
    rcases h2 with h2 | h2
    · exact absurd (hasN_mem.1 h2) hid
    · exact Nat.eq_of_beq_eq_true h2

theorem HLe.congr {π : List (Nat × Nat)} {S : Nat → Bool} {h h' : Nat → Option Blk} : ∀ {l : List (Nat × Blk)}, HLe π S h (l.map fun p => (p.1, some p.2)) → (∀ k, k ∈ keysOf l → h' (renI π k) = h (renI π k)) → HLe π S h' (l.map fun p => (p.1, some p.2))
  | [], _, _ => trivial
  | (k, b) :: l, hh, hd => by
    obtain ⟨⟨b0, h1, h2⟩, h3⟩ := hh
    exact ⟨⟨b0, (hd k List.mem_cons_self).trans h1, h2⟩, HLe.congr h3 fun j hj => hd j (List.mem_cons_of_mem _ hj)⟩

/-- A call of a function that has own variables: π names its variables here, σ names those here there. -/
theorem callU {P : Program} {f : FuncId} {xs xs0 : List AV} {hp0 hp0' : List (Nat × Blk)} {x0 : AV} {h : Nat → Option Blk} {m : Nat} {K : KA} (c : Con P f xs0 hp0 x0 hp0') (π σ : List (Nat × Nat)) (x : AV) (hpc : List (Nat × Blk))
    (hb : (callB π σ (keysOf hp0) (keysOf hpc) m && undoB π σ (keysOf hp0)) = true) (hxs : All2 (SubA π (hasKey hp0)) xs xs0) (hin : HLe π (hasKey hp0) h (hp0.map fun p => (p.1, some p.2)))
    (hx : SubT σ (fun id => hasKey hpc id || hasKey hp0 (renI σ id)) x0 x) (hout : HLe σ (fun id => hasKey hpc id || hasKey hp0 (renI σ id)) (look hp0') (hpc.map fun p => (p.1, some p.2)))
    (k : K x ((keysOf hp0).map (renI π)) (leaves hpc ((keysOf hp0).map (renI π)))) :
    ∃ x touch put, CallSem P f xs (cut (domF touch put) h) (ids m) (cut (domF touch put) (putF put h)) x ∧ K x touch put := by
  rw [Bool.and_eq_true] at hb
  refine ⟨x, _, _, ?_, k⟩
  have := callSem_of (H := cut (domF ((keysOf hp0).map (renI π)) (leaves hpc ((keysOf hp0).map (renI π)))) h) c π σ hb.1 hxs (HLe.congr hin fun k hk => ?_) hx hout (fun id hid => undoB_of hb.2 (hasKey_iff.1 hid))
  · refine ⟨this.1, fun E vals a1 a2 a3 a4 => (this.2 E vals a1 a2 a3 a4).mono fun en w' ⟨v, E', e1, e2, p⟩ => ⟨v, E', e1, e2, p.sub fun id k hk => cut_leaves (fun _ h => h) hk⟩⟩
  · have : domF ((keysOf hp0).map (renI π)) (leaves hpc ((keysOf hp0).map (renI π))) (renI π k) = true := by
      simp only [domF, Bool.or_eq_true]
      exact .inl (List.any_eq_true.2 ⟨_, List.mem_map.2 ⟨k, hk, rfl⟩, Nat.beq_refl _⟩)
    simp only [cut, this, cond_true]

/-- The same, where an own list goes in as a value. -/
theorem callF {P : Program} {f : FuncId} {xs xs1 xs0 : List AV} {hp0 hp0' : List (Nat × Blk)} {x0 : AV} {h : Nat → Option Blk} {m : Nat} {K : KA} (c : Con P f xs0 hp0 x0 hp0') (id : Nat) {t sz : Nat} {bq : Blk} (rows : List (List PV)) (π σ : List (Nat × Nat)) (x : AV) (hpc : List (Nat × Blk))
    (hid : h id = some bq) (hup : SubB [] (fun _ => true) bq (.arr t sz (up rows))) (hfz : All2 (Frz1 id sz rows) xs xs1)
    (hb : (callB π σ (keysOf hp0) (keysOf hpc) m && undoB π σ (keysOf hp0) && !hasN ((keysOf hp0).map (renI π)) id && !hasN (keysOf hpc) id) = true) (hxs : All2 (SubA π (hasKey hp0)) xs1 xs0) (hin : HLe π (hasKey hp0) h (hp0.map fun p => (p.1, some p.2)))
    (hx : SubT σ (fun id => hasKey hpc id || hasKey hp0 (renI σ id)) x0 x) (hout : HLe σ (fun id => hasKey hpc id || hasKey hp0 (renI σ id)) (look hp0') (hpc.map fun p => (p.1, some p.2)))
    (k : K x (id :: (keysOf hp0).map (renI π)) (leaves hpc (id :: (keysOf hp0).map (renI π)))) :
    ∃ x touch put, CallSem P f xs (cut (domF touch put) h) (ids m) (cut (domF touch put) (putF put h)) x ∧ K x touch put := by
  simp only [Bool.and_eq_true] at hb
  refine ⟨x, _, _, ?_, k⟩
  let D := domF (id :: (keysOf hp0).map (renI π)) (leaves hpc (id :: (keysOf hp0).map (renI π)))
  have hD : ∀ j, j ∈ id :: (keysOf hp0).map (renI π) → D j = true := fun j hj => by
    simp only [D, domF, Bool.or_eq_true]
    exact .inl (List.any_eq_true.2 ⟨_, hj, Nat.beq_refl _⟩)
  let Hm : Nat → Option Blk := fun j => bif Nat.beq j id then none else cut D h j
  have hi : HLe π (hasKey hp0) Hm (hp0.map fun p => (p.1, some p.2)) := HLe.congr hin fun k hk => by
    have hne : Nat.beq (renI π k) id = false := by
      cases hq : Nat.beq (renI π k) id
      · rfl
      · have := Nat.eq_of_beq_eq_true hq
        have h2 : hasN ((keysOf hp0).map (renI π)) id = true := hasN_mem.2 (List.mem_map.2 ⟨k, hk, this⟩)
        have h3 := hb.1.2
        rw [h2] at h3; cases h3
    simp only [Hm, hne, cond_false, cut, hD _ (List.mem_cons_of_mem _ (List.mem_map.2 ⟨k, hk, rfl⟩)), cond_true]
  have h0 := callSem_of (H := Hm) c π σ hb.1.1.1 hxs hi hx hout (fun id hid => undoB_of hb.1.1.2 (hasKey_iff.1 hid))
  have h1 : CallSem P f xs (cut D h) (ids m) (look hpc) x := CallSem.freeze' id rows (by simp only [cut, hD id List.mem_cons_self, cond_true]; exact hid) hup (fun j b hj => by
    simp only [Hm] at hj
    cases hq : Nat.beq j id
    · rw [hq] at hj; simp only [cond_false] at hj
      exact ⟨fun e => (by rw [e, Nat.beq_refl] at hq; cases hq), hj⟩
    · rw [hq] at hj; cases hj) hfz h0
  exact ⟨h1.1, fun E vals a1 a2 a3 a4 => (h1.2 E vals a1 a2 a3 a4).mono fun en w' ⟨v, E', e1, e2, p⟩ => ⟨v, E', e1, e2, p.sub fun id k hk => cut_leaves (fun _ h => h) hk⟩⟩

/-! ### nil, as an own list -/
def Ado1 (m : Nat) (x y : AV) : Prop := x = y ∨ (x = .nil ∧ y = .sl m 0 0)
def AdoB (m : Nat) : Blk → Blk → Prop
  | .box t cs, .box t' ds => t = t' ∧ All2 (Ado1 m) cs ds
  | b, c => b = c
theorem AdoB.same {m : Nat} : ∀ {b : Blk}, AdoB m b b
  | .box _ _ => ⟨rfl, All2.refl (fun _ => .inl rfl) _⟩
  | .arr _ _ _ => rfl
def AdoT (m : Nat) (f : Nat → AV) : List (Nat × AV) → Prop
  | [] => True
  | (t, y) :: l => Ado1 m (f t) y ∧ AdoT m f l
def AdoH (m t sz : Nat) (f : Nat → Option Blk) : List (Nat × Option Blk) → Prop
  | [] => True
  | (_, none) :: l => AdoH m t sz f l
  | (id, some b) :: l => ((id = m ∧ b = .arr t sz []) ∨ (Nat.beq id m = false ∧ ∃ b0, f id = some b0 ∧ AdoB m b0 b)) ∧ AdoH m t sz f l
theorem AdoT.get {m : Nat} {f : Nat → AV} : ∀ {l : List (Nat × AV)}, AdoT m f l → ∀ {t : Nat} {x : AV}, look l t = some x → Ado1 m (f t) x
  | [], _, t, x, h => by simp [look] at h
  | (k, y) :: l, h, t, x, hl => by
    unfold look at hl
    cases hb : Nat.beq k t
    · rw [hb] at hl; exact h.2.get hl
    · rw [hb] at hl
      simp only [cond_true, Option.some.injEq] at hl
      have := Nat.eq_of_beq_eq_true hb
      subst this; subst hl; exact h.1
theorem AdoH.get {m t sz : Nat} {f : Nat → Option Blk} : ∀ {l : List (Nat × Option Blk)}, AdoH m t sz f l → ∀ {id : Nat} {b : Blk}, look l id = some (some b) → (id = m ∧ b = .arr t sz []) ∨ (Nat.beq id m = false ∧ ∃ b0, f id = some b0 ∧ AdoB m b0 b)
  | [], _, t, x, h => by simp [look] at h
  | (k, o) :: l, hh, id, x, hl => by
    unfold look at hl
    cases hb : Nat.beq k id
    · rw [hb] at hl
      cases o with
      | none => exact AdoH.get (l := l) hh hl
      | some b => exact AdoH.get (l := l) hh.2 hl
    · rw [hb] at hl
      simp only [cond_true, Option.some.injEq] at hl
      have := Nat.eq_of_beq_eq_true hb
      subst this
      cases o with
      | none => cases hl
      | some b => simp only [Option.some.injEq] at hl; subst hl; exact hh.1

theorem SLe.adopt {hp0 : List (Nat × Blk)} {S : St} (m t sz : Nat) (S' : St) (hm : (Nat.ble S.nx m && Nat.blt m S'.nx && Nat.ble S.nx S'.nx && !hasN (keysOf hp0) m) = true)
    (hT : AdoT m S.tf S'.T) (hH : AdoH m t sz S.hf S'.H) : SLe hp0 S S' := by
  intro E0 h0 N E a g
  simp only [Bool.and_eq_true] at hm
  have hm1 := Nat.le_of_ble_eq_true hm.1.1.1
  have hm2 : m < S'.nx := Nat.le_of_ble_eq_true (by simpa [Nat.blt] using hm.1.1.2)
  have hm3 := Nat.le_of_ble_eq_true hm.1.2
  have hem : E.e m = none := g.fresh m hm1
  let r : Root := ⟨0, 0, sz⟩
  have ex : Ext E (E.new m r E.w) := Env.new_ext hem fun _ _ => rfl
  have hnil : ∀ v, Rep1 E .nil v → Rep1 (E.new m r E.w) (.sl m 0 0) v := fun v k => by
    have k : v = .slice none 0 0 := k
    subst k
    exact ⟨r, none, by simp [Env.new], by simp [r], by simp [r], by simp [r]⟩
  have hhf : ∀ id b, S'.hf id = some b → (id = m ∧ b = .arr t sz []) ∨ (id ≠ m ∧ ∃ b0, S.hf id = some b0 ∧ AdoB m b0 b) := fun id b h => by
    unfold St.hf at h
    cases hl : look S'.H id with
    | none => rw [hl] at h; cases h
    | some o =>
      rw [hl] at h; simp only at h; subst h
      rcases hH.get hl with q | ⟨q, k⟩
      · exact .inl q
      · exact .inr ⟨fun e => (by rw [e, Nat.beq_refl] at q; cases q), k⟩
  have blk : ∀ q b0 b, AdoB m b0 b → BlkRep E q b0 → BlkRep (E.new m r E.w) q b := fun q b0 b h k => by
    cases b0 <;> cases b <;> simp only [AdoB] at h
    · obtain ⟨rfl, h⟩ := h
      obtain ⟨p1, p2, cs, p3, p4⟩ := k
      refine ⟨p1, by rw [p2, h.length], cs, p3, All2.comp (fun x y u g k => ⟨?_, k.2⟩) h p4⟩
      rcases g with rfl | ⟨rfl, rfl⟩
      · exact k.1.ext ex
      · exact hnil _ k.1
    · cases h
    · cases h
    · cases h; exact k.ext ex (fun _ => rfl)
  have hne : ∀ id q, (E.new m r E.w).e id = some q → 0 < q.cap → id ≠ m ∧ E.e id = some q := fun id q h hc => by
    by_cases hid : id = m
    · subst hid; simp only [Env.new, if_true, Option.some.injEq] at h; subst h; simp [r] at hc
    · simp only [Env.new, hid, if_false] at h; exact ⟨hid, h⟩
  refine ⟨E.new m r E.w, rfl, ⟨g.defers, g.size, fun s => ?_, ⟨fun id b hb => ?_, fun i j k k' q q' h h' he1 he2 hc hc' hbb => ?_⟩, fun i b q h he1 hc => ?_, fun id hid => ?_, g.okb, fun id q hq => ex.e _ _ (g.e _ _ hq), g.ok, g.okn, g.kp⟩⟩
  · unfold St.tf
    cases hl : look S'.T s with
    | none => exact trivial
    | some x =>
      have hg := g.tmp s
      rcases hT.get hl with h | ⟨h, rfl⟩
      · rw [h] at hg; exact hg.ext ex
      · rw [h] at hg; exact hnil _ hg
  · rcases hhf id b hb with ⟨rfl, rfl⟩ | ⟨hid, b0, h1, h2⟩
    · exact ⟨r, by simp [Env.new], ⟨rfl, by simp, by simp [r], by simp, (fun _ h => by cases h), .inl rfl⟩, fun hc => by simp [r] at hc⟩
    · obtain ⟨q, q1, q2, q3⟩ := g.heap.live _ _ h1
      exact ⟨q, by simp [Env.new, hid, q1], blk _ _ _ h2 q2, q3⟩
  · obtain ⟨n1, e1⟩ := hne _ _ he1 hc
    obtain ⟨n2, e2⟩ := hne _ _ he2 hc'
    rcases hhf _ _ h with ⟨e, _⟩ | ⟨_, b0, k1, _⟩
    · exact absurd e n1
    rcases hhf _ _ h' with ⟨e, _⟩ | ⟨_, b1, k2, _⟩
    · exact absurd e n2
    exact g.heap.inj _ _ _ _ _ _ k1 k2 e1 e2 hc hc' hbb
  · obtain ⟨n1, e1⟩ := hne _ _ he1 hc
    rcases hhf _ _ h with ⟨e, _⟩ | ⟨_, b0, k1, _⟩
    · exact absurd e n1
    exact g.own _ _ _ k1 e1 hc
  · have hid : S'.nx ≤ id := hid
    have : id ≠ m := by omega
    simp only [Env.new, this, if_false]
    exact g.fresh id (show S.nx ≤ id by omega)
end Go.Proofs.Am
