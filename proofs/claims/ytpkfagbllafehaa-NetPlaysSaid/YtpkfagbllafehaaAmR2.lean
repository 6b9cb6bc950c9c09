/- Calls that are handed nil where an own list is awaited. -/
import Derived.Test.YtpkfagbllafehaaAmR
namespace Go.Proofs.Am
open Go Go.RowKit
set_option linter.unusedVariables false
set_option linter.unusedSimpArgs false

theorem CallSem.adopt {P : Program} {f : FuncId} {xs : List AV} {H H1 : Nat → Option Blk} {F : Nat → Prop} {H' : Nat → Option Blk} {x : AV} (ad t sz : Nat) (had : F ad)
    (hH : ∀ id b, H1 id = some b → (id = ad ∧ b = .arr t sz []) ∨ (id ≠ ad ∧ ∃ b0, H id = some b0 ∧ AdoB ad b0 b)) (c : CallSem P f xs H1 (fun id => F id ∧ id ≠ ad) H' x) : CallSem P f xs H F H' x := by
  refine ⟨c.1, fun E vals hv hh hf hok => ?_⟩
  have hem : E.e ad = none := hf ad had
  let r : Root := ⟨0, 0, sz⟩
  have ex : Ext E (E.new ad r E.w) := Env.new_ext hem fun _ _ => rfl
  have hnil : ∀ v, Rep1 E .nil v → Rep1 (E.new ad r E.w) (.sl ad 0 0) v := fun v k => by
    have k : v = .slice none 0 0 := k
    subst k
    exact ⟨r, none, by simp [Env.new], by simp [r], by simp [r], by simp [r]⟩
  have blk : ∀ q b0 b, AdoB ad b0 b → BlkRep E q b0 → BlkRep (E.new ad r E.w) q b := fun q b0 b h k => by
    cases b0 <;> cases b <;> simp only [AdoB] at h
    · obtain ⟨rfl, h⟩ := h
      obtain ⟨p1, p2, cs, p3, p4⟩ := k
      refine ⟨p1, by rw [p2, h.length], cs, p3, All2.comp (fun x y u g k => ⟨?_, k.2⟩) h p4⟩
      rcases g with rfl | ⟨rfl, rfl⟩
      · exact k.1.ext ex
      · exact hnil _ k.1
    · cases h
    · cases h
    · cases h; exact k.ext ex (fun _ => rfl)
  have hne : ∀ id q, (E.new ad r E.w).e id = some q → 0 < q.cap → id ≠ ad ∧ E.e id = some q := fun id q h hc => by
    by_cases hid : id = ad
    · subst hid; simp only [Env.new, if_true, Option.some.injEq] at h; subst h; simp [r] at hc
    · simp only [Env.new, hid, if_false] at h; exact ⟨hid, h⟩
  have hh1 : HeapOk (E.new ad r E.w) H1 := by
    refine ⟨fun id b hb => ?_, fun i j k k' q q' h h' he1 he2 hc hc' hbb => ?_⟩
    · rcases hH id b hb with ⟨rfl, rfl⟩ | ⟨hid, b0, h1, h2⟩
      · exact ⟨r, by simp [Env.new], ⟨rfl, by simp, by simp [r], by simp, (fun _ h => by cases h), .inl rfl⟩, fun hc => by simp [r] at hc⟩
      · obtain ⟨q, q1, q2, q3⟩ := hh.live _ _ h1
        exact ⟨q, by simp [Env.new, hid, q1], blk _ _ _ h2 q2, q3⟩
    · obtain ⟨n1, e1⟩ := hne _ _ he1 hc
      obtain ⟨n2, e2⟩ := hne _ _ he2 hc'
      rcases hH _ _ h with ⟨e, _⟩ | ⟨_, b0, k1, _⟩
      · exact absurd e n1
      rcases hH _ _ h' with ⟨e, _⟩ | ⟨_, b1, k2, _⟩
      · exact absurd e n2
      exact hh.inj _ _ _ _ _ _ k1 k2 e1 e2 hc hc' hbb
  have ho : ∀ b, Owns (E.new ad r E.w) H1 b → Owns E H b := by
    rintro b ⟨i, k, q, h1, h2, h3, h4⟩
    obtain ⟨n1, e1⟩ := hne _ _ h2 h3
    rcases hH _ _ h1 with ⟨e, _⟩ | ⟨_, b0, k1, _⟩
    · exact absurd e n1
    exact ⟨i, b0, q, k1, e1, h3, h4⟩
  have hv' : All2 (RepA (E.new ad r E.w)) xs vals := hv.imp fun _ _ k => k.ext ex
  refine (c.2 (E.new ad r E.w) vals hv' hh1 (fun id ⟨h1, h2⟩ => by simp only [Env.new, h2, if_false]; exact hf id h1) hok).mono ?_
  rintro en w' ⟨v, E', rfl, rfl, p⟩
  refine ⟨v, E', rfl, rfl, ⟨fun id q h => p.e id q (ex.e _ _ h), fun id h h' => ?_, p.ok, fun b hb => (p.okn b hb).imp_right (·.imp_right (ho b)), p.okb, p.rep, p.heap, fun i k q h1 h2 h3 => (p.blk i k q h1 h2 h3).imp_right (ho _), p.kp.imp ho⟩⟩
  by_cases hid : id = ad
  · subst hid; exact had
  · exact (p.new id (by simp only [Env.new, hid, if_false]; exact h) h').1

theorem callSem_ofF {P : Program} {f : FuncId} {xs xs0 : List AV} {hp0 hp0' hpc : List (Nat × Blk)} {x0 x : AV} {H : Nat → Option Blk} {m : Nat} (c : Con P f xs0 hp0 x0 hp0') (π σ : List (Nat × Nat)) (F : Nat → Prop)
    (hb : callB π σ (keysOf hp0) (keysOf hpc) m = true) (hF : ∀ id, ids m id → id ∈ keysOf hpc → F id) (hxs : All2 (SubA π (hasKey hp0)) xs xs0) (hin : HLe π (hasKey hp0) H (hp0.map fun p => (p.1, some p.2)))
    (hx : SubT σ (fun id => hasKey hpc id || hasKey hp0 (renI σ id)) x0 x) (hout : HLe σ (fun id => hasKey hpc id || hasKey hp0 (renI σ id)) (look hp0') (hpc.map fun p => (p.1, some p.2)))
    (hσ0 : ∀ id, hasKey hp0 (renI σ id) = true → renI π (renI σ id) = id) : CallSem P f xs H F (look hpc) x := by
  unfold callB at hb
  rw [Bool.and_eq_true, Bool.and_eq_true] at hb
  obtain ⟨⟨b1, b2⟩, b3⟩ := hb
  refine Con.use c π σ hxs (SLIST hin) (fun k k' h h' e => injB_of b1 (hasKey_iff.1 h) (hasKey_iff.1 h') e) hx (SLIST hout) (fun id h h' => ?_) hσ0 (fun k k' h h' e => injB_of b2 (hasKey_iff.1 h) (hasKey_iff.1 h') e)
  have := allNb_mem b3 id (hasKey_iff.1 h)
  have hn : hasN (keysOf hp0) (renI σ id) = false := by
    cases hq : hasN (keysOf hp0) (renI σ id)
    · rfl
    · rw [hasKey_iff.2 (hasN_mem.1 hq)] at h'; cases h'
  rw [hn] at this
  simp only [cond_false, Bool.and_eq_true] at this
  exact hF id ⟨Nat.le_of_ble_eq_true this.1.1, Nat.le_of_ble_eq_true (by simpa [Nat.blt] using this.1.2)⟩ (hasKey_iff.1 h)

/-- A call: an own list goes in as a value (fid), nil goes in as an own list (ad). -/
theorem callNF {P : Program} {f : FuncId} {xs xs1 xs0 : List AV} {hp0 hp0' : List (Nat × Blk)} {x0 : AV} {h : Nat → Option Blk} {m : Nat} {K : KA} (c : Con P f xs0 hp0 x0 hp0') (fid : Nat) {t sz : Nat} {bq : Blk} (rows : List (List PV)) (ad t2 sz2 : Nat) (L1 : List (Nat × Option Blk)) (π σ : List (Nat × Nat)) (x : AV) (hpc : List (Nat × Blk))
    (hid : h fid = some bq) (hup : SubB [] (fun _ => true) bq (.arr t sz (up rows))) (hfz : All2 (Frz1 fid sz rows) xs xs1) (hL : AdoH ad t2 sz2 h L1)
    (hb : (callB π σ (keysOf hp0) (keysOf hpc) m && undoB π σ (keysOf hp0) && !hasN (keysOf L1) fid && (Nat.ble m ad && Nat.blt ad (m + 16) && !hasN (keysOf hpc) ad)) = true)
    (hxs : All2 (SubA π (hasKey hp0)) xs1 xs0) (hin : HLe π (hasKey hp0) (hfL L1) (hp0.map fun p => (p.1, some p.2)))
    (hx : SubT σ (fun id => hasKey hpc id || hasKey hp0 (renI σ id)) x0 x) (hout : HLe σ (fun id => hasKey hpc id || hasKey hp0 (renI σ id)) (look hp0') (hpc.map fun p => (p.1, some p.2)))
    (k : K x (fid :: keysOf L1) (leaves hpc (fid :: keysOf L1))) :
    ∃ x touch put, CallSem P f xs (cut (domF touch put) h) (ids m) (cut (domF touch put) (putF put h)) x ∧ K x touch put := by
  simp only [Bool.and_eq_true] at hb
  obtain ⟨⟨⟨b1, b2⟩, b3⟩, ⟨b4, b5⟩, b6⟩ := hb
  refine ⟨x, _, _, ?_, k⟩
  let D := domF (fid :: keysOf L1) (leaves hpc (fid :: keysOf L1))
  have hD : ∀ j, j ∈ fid :: keysOf L1 → D j = true := fun j hj => by
    simp only [D, domF, Bool.or_eq_true]
    exact .inl (List.any_eq_true.2 ⟨_, hj, Nat.beq_refl _⟩)
  let Hm : Nat → Option Blk := fun j => bif Nat.beq j fid then none else cut D h j
  have had : ids m ad := ⟨Nat.le_of_ble_eq_true b4, Nat.le_of_ble_eq_true (by simpa [Nat.blt] using b5)⟩
  have h0 := callSem_ofF (H := hfL L1) c π σ (fun id => ids m id ∧ id ≠ ad) b1 (fun id h1 h2 => ⟨h1, fun e => by rw [e] at h2; rw [hasN_mem.2 h2] at b6; cases b6⟩) hxs hin hx hout (fun id hid => undoB_of b2 (hasKey_iff.1 hid))
  have h1 : CallSem P f xs1 Hm (ids m) (look hpc) x := CallSem.adopt ad t2 sz2 had (fun id b hb => by
    unfold hfL at hb
    cases hl : look L1 id with
    | none => rw [hl] at hb; cases hb
    | some o =>
      rw [hl] at hb; simp only at hb; subst hb
      rcases hL.get hl with q | ⟨q, b0, q1, q2⟩
      · exact .inl q
      · refine .inr ⟨fun e => (by rw [e, Nat.beq_refl] at q; cases q), b0, ?_, q2⟩
        have hk : id ∈ keysOf L1 := hasKey_iff.1 (show hasKey L1 id = true by simp [hasKey, hl])
        have hne : Nat.beq id fid = false := by
          cases hq : Nat.beq id fid
          · rfl
          · have e := Nat.eq_of_beq_eq_true hq
            rw [e] at hk; rw [hasN_mem.2 hk] at b3; cases b3
        simp only [Hm, hne, cond_false, cut, hD _ (List.mem_cons_of_mem _ hk), cond_true]; exact q1) h0
  have h2 : CallSem P f xs (cut D h) (ids m) (look hpc) x := CallSem.freeze' fid rows (by simp only [cut, hD fid List.mem_cons_self, cond_true]; exact hid) hup (fun j b hj => by
    simp only [Hm] at hj
    cases hq : Nat.beq j fid
    · rw [hq] at hj; simp only [cond_false] at hj
      exact ⟨fun e => (by rw [e, Nat.beq_refl] at hq; cases hq), hj⟩
    · rw [hq] at hj; cases hj) hfz h1
  exact ⟨h2.1, fun E vals a1 a2 a3 a4 => (h2.2 E vals a1 a2 a3 a4).mono fun en w' ⟨v, E', e1, e2, p⟩ => ⟨v, E', e1, e2, p.sub fun id k hk => cut_leaves (fun _ h => h) hk⟩⟩

/-- A call: nil goes in as an own list (ad). -/
theorem callN {P : Program} {f : FuncId} {xs xs0 : List AV} {hp0 hp0' : List (Nat × Blk)} {x0 : AV} {h : Nat → Option Blk} {m : Nat} {K : KA} (c : Con P f xs0 hp0 x0 hp0') (ad t2 sz2 : Nat) (L1 : List (Nat × Option Blk)) (π σ : List (Nat × Nat)) (x : AV) (hpc : List (Nat × Blk))
    (hL : AdoH ad t2 sz2 h L1)
    (hb : (callB π σ (keysOf hp0) (keysOf hpc) m && undoB π σ (keysOf hp0) && (Nat.ble m ad && Nat.blt ad (m + 16) && !hasN (keysOf hpc) ad)) = true)
    (hxs : All2 (SubA π (hasKey hp0)) xs xs0) (hin : HLe π (hasKey hp0) (hfL L1) (hp0.map fun p => (p.1, some p.2)))
    (hx : SubT σ (fun id => hasKey hpc id || hasKey hp0 (renI σ id)) x0 x) (hout : HLe σ (fun id => hasKey hpc id || hasKey hp0 (renI σ id)) (look hp0') (hpc.map fun p => (p.1, some p.2)))
    (k : K x (keysOf L1) (leaves hpc (keysOf L1))) :
    ∃ x touch put, CallSem P f xs (cut (domF touch put) h) (ids m) (cut (domF touch put) (putF put h)) x ∧ K x touch put := by
  simp only [Bool.and_eq_true] at hb
  obtain ⟨⟨b1, b2⟩, ⟨b4, b5⟩, b6⟩ := hb
  refine ⟨x, _, _, ?_, k⟩
  let D := domF (keysOf L1) (leaves hpc (keysOf L1))
  have hD : ∀ j, j ∈ keysOf L1 → D j = true := fun j hj => by
    simp only [D, domF, Bool.or_eq_true]
    exact .inl (List.any_eq_true.2 ⟨_, hj, Nat.beq_refl _⟩)
  have had : ids m ad := ⟨Nat.le_of_ble_eq_true b4, Nat.le_of_ble_eq_true (by simpa [Nat.blt] using b5)⟩
  have h0 := callSem_ofF (H := hfL L1) c π σ (fun id => ids m id ∧ id ≠ ad) b1 (fun id h1 h2 => ⟨h1, fun e => by rw [e] at h2; rw [hasN_mem.2 h2] at b6; cases b6⟩) hxs hin hx hout (fun id hid => undoB_of b2 (hasKey_iff.1 hid))
  have h2 : CallSem P f xs (cut D h) (ids m) (look hpc) x := CallSem.adopt ad t2 sz2 had (fun id b hb => by
    unfold hfL at hb
    cases hl : look L1 id with
    | none => rw [hl] at hb; cases hb
    | some o =>
      rw [hl] at hb; simp only at hb; subst hb
      rcases hL.get hl with q | ⟨q, b0, q1, q2⟩
      · exact .inl q
      · refine .inr ⟨fun e => (by rw [e, Nat.beq_refl] at q; cases q), b0, ?_, q2⟩
        have hk : id ∈ keysOf L1 := hasKey_iff.1 (show hasKey L1 id = true by simp [hasKey, hl])
        simp only [cut, hD _ hk, cond_true]; exact q1) h0
  exact ⟨h2.1, fun E vals a1 a2 a3 a4 => (h2.2 E vals a1 a2 a3 a4).mono fun en w' ⟨v, E', e1, e2, p⟩ => ⟨v, E', e1, e2, p.sub fun id k hk => cut_leaves (fun _ h => h) hk⟩⟩
end Go.Proofs.Am
