/- Parts of lists, append, lengths, function values. -/
import Derived.Test.YtpkfagbllafehaaAmG
import Derived.Deep.AppendSrc
namespace Go.Proofs.Am
open Go Go.RowKit
set_option linter.unusedVariables false
set_option linter.unusedSimpArgs false

section
variable {P : Program} {o : Oper} {ρ : Operand → AV} {H : Nat → Option Blk} {F : Nat → Prop}

/-- A bound of a part: where it stands, or else d. -/
def Bnd (lo : Option Value) (d l : Nat) : Prop := (lo = none ∧ l = d) ∨ ∃ k : IntKind, lo = some (.int k l)

theorem run_slice2 {t e : Nat} {te : TI} {i2 : TypeInfo} {z2 : Value} {d2 : TypeDesc} (ht : P.underlying t = some (.slice e)) (tfe : TF P e te i2 z2 d2) (w : World) (a : Option Addr) (n c : Nat) (lo hi : Option Value) (l h : Nat)
    (hlo : Bnd lo 0 l) (hhi : Bnd hi n h) (h1 : l ≤ h) (h2 : h ≤ c) : (Instr.sliceAt t (.slice a n c) lo hi none).run P w = .ok (.slice (if c = l then a else a.map (·.add (l * te.size))) (h - l) (c - l)) w := by
  rcases hlo with ⟨rfl, rfl⟩ | ⟨k, rfl⟩ <;> rcases hhi with ⟨rfl, rfl⟩ | ⟨k', rfl⟩ <;>
    simp [Instr.sliceAt, Instr.slice, run_underlying ht, Instr.sliceBounds, Instr.sliceBound, asIntOf, tfe.run_size, h1, h2]
theorem run_slice3 {t e : Nat} {te : TI} {i2 : TypeInfo} {z2 : Value} {d2 : TypeDesc} (ht : P.underlying t = some (.slice e)) (tfe : TF P e te i2 z2 d2) (w : World) (a : Option Addr) (n c : Nat) (lo : Option Value) (l h m : Nat) (k1 k2 : IntKind)
    (hlo : Bnd lo 0 l) (h1 : l ≤ h) (h2 : h ≤ m) (h3 : m ≤ c) : (Instr.sliceAt t (.slice a n c) lo (some (.int k1 h)) (some (.int k2 m))).run P w = .ok (.slice (if m = l then a else a.map (·.add (l * te.size))) (h - l) (m - l)) w := by
  rcases hlo with ⟨rfl, rfl⟩ | ⟨k, rfl⟩ <;>
    simp [Instr.sliceAt, Instr.slice, run_underlying ht, Instr.sliceBounds, Instr.sliceBound, asIntOf, tfe.run_size, h1, h2, h3]

def bndA (ρ : Operand → AV) (lo : Option Operand) (d : Nat) : Option (Prop × Nat) :=
  match lo with
  | none => some (True, d)
  | some u => match ρ u with
    | .p (.sc (.int _ n)) => some (0 ≤ n, n.toNat)
    | _ => none
theorem bnd_of {E : Env} {a : Act} {lo : Option Operand} {d l : Nat} {c : Prop} (h : bndA ρ lo d = some (c, l)) (hc : c) (hr : ∀ u, lo = some u → Rep E (ρ u) (a.eval u)) : Bnd (lo.map a.eval) d l := by
  cases lo with
  | none => simp only [bndA, Option.some.injEq, Prod.mk.injEq] at h; exact .inl ⟨rfl, h.2.symm⟩
  | some u =>
    simp only [bndA] at h
    split at h
    · rename_i k n hu
      simp only [Option.some.injEq, Prod.mk.injEq] at h
      obtain ⟨rfl, rfl⟩ := h
      have := rep_sc (hu ▸ hr u rfl)
      exact .inr ⟨k, by simp [this]; omega⟩
    · cases h

/-- What a list is, as a value. -/
theorem rep_seq {E : Env} {sz : Nat} {rows : List (List PV)} {v : Value} (h : Rep E (.p (.seq sz rows)) v) : ∃ a c, v = .slice a rows.length c ∧ rows.length ≤ c ∧ (a = none → c = 0) ∧ rows.length ≤ 140737488355328 := by
  have h : RepP E.ok E.w (.seq sz rows) v := h
  cases h with
  | emp _ a c ha => exact ⟨a, c, rfl, by simp, ha, by simp⟩
  | seq _ _ b o' c u h0 hc hm hl hu hr => exact ⟨_, c, rfl, hc, by simp, hm⟩

theorem rep_seq_part {E : Env} {sz : Nat} {rows : List (List PV)} {a : Option Addr} {c l h : Nat} (hr : Rep E (.p (.seq sz rows)) (.slice a rows.length c)) (h1 : l ≤ h) (h2 : h ≤ rows.length) :
    Rep E (.p (.seq sz ((rows.drop l).take (h - l)))) (.slice (if c = l then a else a.map (·.add (l * sz))) (h - l) (c - l)) := by
  have hr : RepP E.ok E.w (.seq sz rows) (.slice a rows.length c) := hr
  have hc := (rep_seq (E := E) hr)
  by_cases hz : h = l
  · subst hz
    have e : (rows.drop h).take (h - h) = [] := by simp
    rw [e, Nat.sub_self]
    refine RepP.emp _ _ _ fun hn => ?_
    obtain ⟨a', c', hv, g1, g2, _⟩ := hc
    cases hv
    split at hn
    · omega
    · cases a with
      | none => have := g2 rfl; omega
      | some a => cases hn
  · generalize hsl : Value.slice a rows.length c = sl at hr
    cases hr with
    | emp => simp at h2; omega
    | seq _ _ b o' c' u h0 hcc hm hl hu hrp =>
      simp only [Value.slice.injEq] at hsl
      obtain ⟨rfl, _, rfl⟩ := hsl
      rw [if_neg (by omega)]
      simp only [Option.map_some, Addr.add_lit]
      have hlen : ((rows.drop l).take (h - l)).length = h - l := part_len (by omega)
      have := RepP.seq (ok := E.ok) (w := E.w) sz ((rows.drop l).take (h - l)) b (o' + l * sz) (c - l) (fun i j => u (l + i) j) h0 (by rw [hlen]; omega) (by rw [hlen]; omega)
        (fun r hr => hl r (List.mem_of_mem_drop (List.mem_of_mem_take hr)))
        (fun i r j x hi hj => by have := hu _ _ _ _ (part_get hi) hj; rw [← this, Nat.add_mul]; congr 2; omega)
        (fun i r j x hi hj => hrp _ _ _ _ (part_get hi) hj)
      rw [hlen] at this
      exact this

theorem sem_slice_seq {tab : List (Nat × TI)} (hT : TabOk P tab) {t e : Nat} {ti te : TI} {x : Operand} {lo hi : Option Operand} {rows : List (List PV)} {c1 c2 : Prop} {l h : Nat} (ho : o.op = .slice t x lo hi none) (hl : look tab t = some ti) (ht : ti.ty = .slice e) (he : look tab e = some te)
    (hx : ρ x = .p (.seq te.size rows)) (h1 : bndA ρ lo 0 = some (c1, l)) (hc1 : c1) (h2 : bndA ρ hi rows.length = some (c2, h)) (hc2 : c2) (hlh : l ≤ h) (hh' : h ≤ rows.length) : OpSem P o ρ H F H (.p (.seq te.size ((rows.drop l).take (h - l)))) := by
  refine OpSem.of_pure fun a E hr hh => ?_
  obtain ⟨i, z, d, tf⟩ := hT.get hl
  obtain ⟨i2, z2, d2, tfe⟩ := hT.get he
  have hd := tyOf_slice (d := d) (by rw [← tf.ty, ht]); subst hd
  have e1 := hr x (by simp [ho, Op.operands])
  rw [hx] at e1
  obtain ⟨A, c, hv, g1, g2, _⟩ := rep_seq e1
  rw [hv] at e1
  have b1 := bnd_of (E := E) (a := a) h1 hc1 fun u hu => hr u (by simp [ho, Op.operands, hu])
  have b2 := bnd_of (E := E) (a := a) h2 hc2 fun u hu => hr u (by simp [ho, Op.operands, hu])
  refine ⟨_, ?_, rep_seq_part e1 hlh hh'⟩
  have := run_slice2 (P := P) tf.und tfe E.w A rows.length c _ _ l h b1 b2 hlh (by omega)
  simp [execOp, ho, hv, this]

theorem sem_slice_sl {tab : List (Nat × TI)} (hT : TabOk P tab) {t e : Nat} {ti te : TI} {x : Operand} {lo hi : Option Operand} {id off len tb : Nat} {rows : List (List AV)} {c1 c2 : Prop} {l h : Nat} (ho : o.op = .slice t x lo hi none) (hl : look tab t = some ti) (ht : ti.ty = .slice e) (he : look tab e = some te)
    (hx : ρ x = .sl id off len) (hH : H id = some (.arr tb te.size rows)) (h1 : bndA ρ lo 0 = some (c1, l)) (hc1 : c1) (h2 : bndA ρ hi len = some (c2, h)) (hc2 : c2) (hlh : l ≤ h) (hh' : h ≤ len ∨ off + h ≤ rows.length) : OpSem P o ρ H F H (.sl id (off + l) (h - l)) := by
  refine OpSem.of_pure fun a E hr hh => ?_
  obtain ⟨i, z, d, tf⟩ := hT.get hl
  obtain ⟨i2, z2, d2, tfe⟩ := hT.get he
  have hd := tyOf_slice (d := d) (by rw [← tf.ty, ht]); subst hd
  have e1 := hr x (by simp [ho, Op.operands])
  rw [hx] at e1
  obtain ⟨r, A, hee, g1, g2, hv⟩ := e1
  obtain ⟨r', he', hk, _⟩ := hh.live _ _ hH
  rw [hee] at he'; cases he'
  have hsz := hk.1
  have hrc := hk.2.1
  have b1 := bnd_of (E := E) (a := a) h1 hc1 fun u hu => hr u (by simp [ho, Op.operands, hu])
  have b2 := bnd_of (E := E) (a := a) h2 hc2 fun u hu => hr u (by simp [ho, Op.operands, hu])
  refine ⟨.slice (if r.cap - off = l then A else A.map (·.add (l * te.size))) (h - l) (r.cap - (off + l)), ?_, r, _, hee, by omega, fun hlt => ?_, rfl⟩
  · have := run_slice2 (P := P) tf.und tfe E.w A len (r.cap - off) _ _ l h b1 b2 hlh (by omega)
    simp [execOp, ho, hv, this, Nat.sub_sub]
  · rw [if_neg (by omega), g2 (by omega)]
    simp [Addr.add_lit, hsz, Nat.add_mul]

/-- A part with a bound of the capacity: only that it can be had. -/
theorem sem_slice3 {tab : List (Nat × TI)} (hT : TabOk P tab) {t e : Nat} {ti te : TI} {x y v : Operand} {lo : Option Operand} {c1 : Prop} {l n : Nat} {k1 k2 : IntKind} {h m : Int} (ho : o.op = .slice t x lo (some y) (some v)) (hl : look tab t = some ti) (ht : ti.ty = .slice e) (he : look tab e = some te)
    (hx : (∃ id off, ρ x = .sl id off n) ∨ (∃ sz rows, ρ x = .p (.seq sz rows) ∧ n = rows.length)) (h1 : bndA ρ lo 0 = some (c1, l)) (hc1 : c1) (hy : ρ y = .p (.sc (.int k1 h))) (hv : ρ v = .p (.sc (.int k2 m))) (h0 : 0 ≤ h) (hlh : l ≤ h) (hhm : h ≤ m) (hm : m ≤ n) : OpSem P o ρ H F H .any := by
  refine OpSem.of_pure fun a E hr hh => ?_
  obtain ⟨i, z, d, tf⟩ := hT.get hl
  obtain ⟨i2, z2, d2, tfe⟩ := hT.get he
  have hd := tyOf_slice (d := d) (by rw [← tf.ty, ht]); subst hd
  have e1 := hr x (by simp [ho, Op.operands])
  have e2 := rep_sc (hy ▸ hr y (by simp [ho, Op.operands]))
  have e3 := rep_sc (hv ▸ hr v (by simp [ho, Op.operands]))
  have b1 := bnd_of (E := E) (a := a) h1 hc1 fun u hu => hr u (by simp [ho, Op.operands, hu])
  have key : ∃ A c, a.eval x = .slice A n c ∧ n ≤ c := by
    rcases hx with ⟨id, off, hx⟩ | ⟨sz, rows, hx, rfl⟩
    · rw [hx] at e1
      obtain ⟨r, A, _, g1, _, hvv⟩ := e1
      exact ⟨A, _, hvv, by omega⟩
    · rw [hx] at e1
      obtain ⟨A, c, hvv, g1, _⟩ := rep_seq e1
      exact ⟨A, c, hvv, g1⟩
  obtain ⟨A, c, hvv, g1⟩ := key
  have := run_slice3 (P := P) tf.und tfe E.w A n c _ l h.toNat m.toNat k1 k2 b1 (by omega) (by omega) (by omega)
  rw [Int.toNat_of_nonneg h0, Int.toNat_of_nonneg (by omega)] at this
  exact ⟨_, by simp [execOp, ho, hvv, e2, e3, this]; rfl, trivial⟩

theorem run_slice_str {t : Nat} (ht : P.underlying t = some .string) (w : World) (s : ByteArray) (lo hi : Option Value) (l h : Nat)
    (hlo : Bnd lo 0 l) (hhi : Bnd hi s.size h) (h1 : l ≤ h) (h2 : h ≤ s.size) : (Instr.sliceAt t (.string s) lo hi none).run P w = .ok (.string (s.extract l h)) w := by
  rcases hlo with ⟨rfl, rfl⟩ | ⟨k, rfl⟩ <;> rcases hhi with ⟨rfl, rfl⟩ | ⟨k', rfl⟩ <;>
    simp [Instr.sliceAt, Instr.slice, run_underlying ht, Instr.sliceBounds, Instr.sliceBound, asIntOf, h1, h2]
theorem sem_slice_str {tab : List (Nat × TI)} (hT : TabOk P tab) {t : Nat} {ti : TI} {x : Operand} {lo hi : Option Operand} {s : ByteArray} {c1 c2 : Prop} {l h : Nat} (ho : o.op = .slice t x lo hi none) (hl : look tab t = some ti) (ht : ti.ty = .string)
    (hx : ρ x = .p (.sc (.string s))) (h1 : bndA ρ lo 0 = some (c1, l)) (hc1 : c1) (h2 : bndA ρ hi s.size = some (c2, h)) (hc2 : c2) (hlh : l ≤ h) (hh' : h ≤ s.size) : OpSem P o ρ H F H (.p (.sc (.string (s.extract l h)))) := by
  refine OpSem.of_pure fun a E hr hh => ?_
  obtain ⟨i, z, d, tf⟩ := hT.get hl
  have hd := tyOf_string (d := d) (by rw [← tf.ty, ht]); subst hd
  have e1 := rep_sc (hx ▸ hr x (by simp [ho, Op.operands]))
  have b1 := bnd_of (E := E) (a := a) h1 hc1 fun u hu => hr u (by simp [ho, Op.operands, hu])
  have b2 := bnd_of (E := E) (a := a) h2 hc2 fun u hu => hr u (by simp [ho, Op.operands, hu])
  refine ⟨_, ?_, rep_of_sc E rfl⟩
  have := run_slice_str (P := P) tf.und E.w s _ _ l h b1 b2 hlh hh'
  simp [execOp, ho, e1, this]

/-! ### Builtins -/
theorem exec_builtin {b : Builtin} {args : Array Operand} {ats : Array TypeId} (ho : o.op = .call { callee := .builtin b, args := args, argTypes := ats }) (a : Act) (w : World) (v : Value) (w' : World)
    (h : ∀ cs, (Go.builtin b ats o.type cs (args.map a.eval)).run P w = .ok (.value v) w') : (execOp a.eval o).run P w = .ok (.value v) w' := by
  simp [execOp, ho, resolve, invoke, h]

def lenA (x : AV) : Option Nat :=
  match x with
  | .nil => some 0
  | .emp => some 0
  | .p (.seq _ rows) => some rows.length
  | .sl _ _ n => some n
  | _ => none
theorem rep_lenA {E : Env} {x : AV} {v : Value} {n : Nat} (h : lenA x = some n) (hr : Rep E x v) : ∃ a c, v = .slice a n c := by
  cases x <;> simp only [lenA] at h <;> try (cases h; done)
  · cases h; exact ⟨none, 0, hr⟩
  · cases h; obtain ⟨a, c, hv⟩ := hr; exact ⟨some a, c, hv⟩
  · rename_i p
    cases p with
    | sc => cases h
    | seq => cases h; obtain ⟨a, c, hv, _⟩ := rep_seq hr; exact ⟨a, c, hv⟩
  · cases h; obtain ⟨r, a, _, _, _, hv⟩ := hr; exact ⟨a, _, hv⟩

theorem sem_len {t : TypeId} {ti : TI} {i : TypeInfo} {z : Value} {d : TypeDesc} {e n : Nat} {x : Operand} (ho : o.op = .call { callee := .builtin .len, args := #[x], argTypes := #[t] }) (h : TF P t ti i z d) (ht : ti.ty = .slice e) (hx : lenA (ρ x) = some n) :
    OpSem P o ρ H F H (.p (.sc (.int .i64 n))) := by
  refine OpSem.of_pure fun a E hr hh => ?_
  have hd := tyOf_slice (d := d) (by rw [← h.ty, ht]); subst hd
  obtain ⟨A, c, hv⟩ := rep_lenA hx (hr x (by simp [ho, Op.operands, Call.operands]))
  exact ⟨_, exec_builtin ho a E.w _ E.w fun cs => by simp [Go.builtin, Builtin.len_, hv, h.run_und, goInt], rep_of_sc E rfl⟩
theorem sem_len_str {t : TypeId} {ti : TI} {i : TypeInfo} {z : Value} {d : TypeDesc} {s : ByteArray} {x : Operand} (ho : o.op = .call { callee := .builtin .len, args := #[x], argTypes := #[t] }) (h : TF P t ti i z d) (ht : ti.ty = .string) (hx : ρ x = .p (.sc (.string s))) :
    OpSem P o ρ H F H (.p (.sc (.int .i64 s.size))) := by
  refine OpSem.of_pure fun a E hr hh => ?_
  have hd := tyOf_string (d := d) (by rw [← h.ty, ht]); subst hd
  have hv := rep_sc (hx ▸ hr x (by simp [ho, Op.operands, Call.operands]))
  exact ⟨_, exec_builtin ho a E.w _ E.w fun cs => by simp [Go.builtin, Builtin.len_, hv, h.run_und, goInt], rep_of_sc E rfl⟩
theorem sem_len_arr {t : TypeId} {ti : TI} {i : TypeInfo} {z : Value} {d : TypeDesc} {n e : Nat} {x : Operand} (ho : o.op = .call { callee := .builtin .len, args := #[x], argTypes := #[t] }) (h : TF P t ti i z d) (ht : ti.ty = .array n e) :
    OpSem P o ρ H F H (.p (.sc (.int .i64 n))) := by
  refine OpSem.of_pure fun a E hr hh => ?_
  have hd := tyOf_array (d := d) (by rw [← h.ty, ht]); subst hd
  refine ⟨_, exec_builtin ho a E.w _ E.w fun cs => ?_, rep_of_sc E rfl⟩
  cases hv : a.eval x <;> simp [Go.builtin, Builtin.len_, hv, h.run_und, goInt]

theorem sem_minmax {b : Builtin} {t u : TypeId} {x y : Operand} {k j : IntKind} {m n : Int} (hb : b = .min ∨ b = .max) (ho : o.op = .call { callee := .builtin b, args := #[x, y], argTypes := #[t, u] }) (hx : ρ x = .p (.sc (.int k m))) (hy : ρ y = .p (.sc (.int j n))) :
    OpSem P o ρ H F H (.p (.sc (.int k (match b with | .min => (if n < m then n else m) | _ => (if n > m then n else m))))) := by
  refine OpSem.of_pure fun a E hr hh => ?_
  have e1 := rep_sc (hx ▸ hr x (by simp [ho, Op.operands, Call.operands]))
  have e2 := rep_sc (hy ▸ hr y (by simp [ho, Op.operands, Call.operands]))
  rcases hb with rfl | rfl
  · exact ⟨_, exec_builtin ho a E.w _ E.w fun cs => by simp [Go.builtin, Builtin.min_, Builtin.min2, e1, e2], rep_of_sc E rfl⟩
  · exact ⟨_, exec_builtin ho a E.w _ E.w fun cs => by simp [Go.builtin, Builtin.max_, Builtin.max2, e1, e2], rep_of_sc E rfl⟩

/-- A function value with what it holds. -/
def capsA : List AV → Option (List (Nat × Nat × Nat))
  | [] => some []
  | .ptr a b c :: l => match capsA l with
    | some r => some ((a, b, c) :: r)
    | none => none
  | _ => none
theorem caps_rep {E : Env} {a : Act} : ∀ {l : List Operand} {r : List (Nat × Nat × Nat)}, capsA (l.map ρ) = some r → (∀ u, u ∈ l → Rep E (ρ u) (a.eval u)) →
    All2 (fun (c : Nat × Nat × Nat) u => ∃ r, E.e c.1 = some r ∧ u = .pointer (some ⟨r.b, c.2.1 * r.sz + c.2.2, none⟩)) r (l.map a.eval)
  | [], r, h, _ => by simp [capsA] at h; subst h; exact .nil
  | u :: l, r, h, hr => by
    rw [List.map_cons] at h
    have h1 := hr u List.mem_cons_self
    cases hu : ρ u <;> rw [hu] at h h1 <;> simp only [capsA] at h <;> try (cases h; done)
    split at h
    · rename_i r' hr'
      cases h
      obtain ⟨q, g1, g2⟩ := h1
      exact .cons ⟨q, g1, g2⟩ (caps_rep hr' fun u hu => hr u (List.mem_cons_of_mem _ hu))
    · cases h
theorem sem_makeFunc {f : FuncId} {caps : Array Operand} {r : List (Nat × Nat × Nat)} (ho : o.op = .makeFunc (.func f) #[] caps) (hc : capsA (caps.toList.map ρ) = some r) : OpSem P o ρ H F H (.fn f r) := by
  refine OpSem.of_pure fun a E hr hh => ?_
  have := caps_rep (E := E) (a := a) hc fun u hu => hr u (by simp [ho, Op.operands]; simpa using hu)
  exact ⟨.func (.func f) #[] (caps.map a.eval), by simp [execOp, ho, Instr.makeFunc], (caps.toList.map a.eval), by congr 1; apply Array.ext'; simp, this⟩

/-! ### append -/
/-- Rows without own variables. -/
def up (rows : List (List PV)) : List (List AV) := rows.map fun r => r.map .p
/-- What is appended, as rows. -/
def srcA (h : Nat → Option Blk) (x : AV) (sz : Nat) : Option (List (List AV)) :=
  match x with
  | .nil => some []
  | .emp => some []
  | .p (.seq s rows) => bif Nat.beq s sz then some (up rows) else none
  | .sl id off len => match h id with
    | some (.arr _ s rows) => bif Nat.beq s sz && Nat.ble (off + len) rows.length then some ((rows.drop off).take len) else none
    | _ => none
  | _ => none

theorem src_of {E : Env} {h : Nat → Option Blk} (hh : HeapOk E h) {t e : Nat} {i2 : TypeInfo} (ht : P.underlying t = some (.slice e)) {x : AV} {v : Value} {sz : Nat} {rows : List (List AV)} (hs : 0 < sz) (hsz : i2.size = sz) (hx : srcA h x sz = some rows) (hr : Rep E x v) :
    ∃ a c news, v = .slice a rows.length c ∧ Src P i2.size t v rows.length news E.w ∧ All2 (Cell1 E) rows.flatten news ∧ (∀ q, q ∈ rows → q.length = sz) ∧ rows.length ≤ 140737488355328 := by
  subst hsz
  have none_ : ∀ (a : Option Addr) (c : Nat), Src P i2.size t (.slice a 0 c) 0 [] E.w := fun a c => ⟨.inl ⟨e, ht⟩, fun _ => rfl, by cases a <;> simp [Builtin.firstCells, loadCells, loadCellsFrom], by cases a <;> simp [Builtin.firstCells, loadCells, loadCellsFrom], by simp, fun _ h => by cases h⟩
  cases x <;> simp only [srcA] at hx <;> try (cases hx; done)
  case nil =>
    cases hx
    have hr : v = .slice none 0 0 := hr
    subst hr
    exact ⟨none, 0, [], rfl, none_ _ _, .nil, (fun _ h => by cases h), by simp⟩
  case emp =>
    cases hx
    obtain ⟨a, c, rfl⟩ := hr
    exact ⟨some a, c, [], rfl, none_ _ _, .nil, (fun _ h => by cases h), by simp⟩
  case p p =>
    cases p with
    | sc => cases hx
    | seq s rws =>
      simp only at hx
      cases hb : Nat.beq s i2.size
      · rw [hb] at hx; cases hx
      · rw [hb] at hx
        simp only [cond_true, Option.some.injEq] at hx
        subst hx
        unfold up
        have hsz' := Nat.eq_of_beq_eq_true hb
        subst hsz'
        have hr : RepP E.ok E.w (.seq i2.size rws) v := hr
        cases hr with
        | emp _ a c ha => exact ⟨a, c, [], rfl, by simpa using none_ a c, .nil, (fun _ h => by cases h), by simp⟩
        | seq _ _ b o' c u h0 hc hm hl hu hrp =>
          let news := (List.range (rws.length * i2.size)).map fun k => (E.w.cell? ⟨b, o' + k, none⟩).getD undef
          have hcell : ∀ k, k < rws.length * i2.size → ∃ r x, rws[k / i2.size]? = some r ∧ r[k % i2.size]? = some x ∧ E.w.cell? ⟨b, o' + k, none⟩ = some (u (k / i2.size) (k % i2.size)) := fun k hk => by
            have hd : k / i2.size < rws.length := Nat.div_lt_of_lt_mul (by rw [Nat.mul_comm]; exact hk)
            have hm' : k % i2.size < i2.size := Nat.mod_lt _ hs
            have hrl := hl _ (List.getElem_mem hd)
            refine ⟨rws[k / i2.size], (rws[k / i2.size])[k % i2.size]'(by rw [hrl]; exact hm'), List.getElem?_eq_getElem hd, List.getElem?_eq_getElem _, ?_⟩
            have := hu _ _ _ _ (List.getElem?_eq_getElem hd) (List.getElem?_eq_getElem (show k % i2.size < rws[k / i2.size].length by rw [hrl]; exact hm'))
            rw [Nat.add_assoc, Nat.div_add_mod'] at this
            exact this
          have hnl : news.length = rws.length * i2.size := by simp [news]
          have hget : ∀ j v, news[j]? = some v → ∃ r x, rws[j / i2.size]? = some r ∧ r[j % i2.size]? = some x ∧ E.w.cell? ⟨b, o' + j, none⟩ = some v ∧ v = u (j / i2.size) (j % i2.size) := fun j v hj => by
            have hj' : j < rws.length * i2.size := by rw [← hnl]; exact (List.getElem?_eq_some_iff.1 hj).1
            obtain ⟨r, x, q1, q2, q3⟩ := hcell j hj'
            simp only [news, List.getElem?_map, List.getElem?_range hj', Option.map_some, Option.some.injEq] at hj
            rw [q3] at hj
            simp at hj
            exact ⟨r, x, q1, q2, by rw [q3, hj], hj.symm⟩
          refine ⟨some ⟨b, o', none⟩, c, news, by simp, ?_, ?_, ?_, by simpa using hm⟩
          · have hsrc : Src P i2.size t (.slice (some ⟨b, o', none⟩) rws.length c) rws.length news E.w := Src.ofSlice (P := P) E.w ht ⟨b, o', none⟩ rws.length c news hnl (fun j v hj => by rw [Addr.add_lit]; exact (hget j v hj).choose_spec.choose_spec.2.2.1) fun v hv => by
              obtain ⟨j, hj⟩ := List.getElem?_of_mem hv
              obtain ⟨r, x, q1, q2, q3, rfl⟩ := hget j v hj
              exact (hrp _ _ _ _ q1 q2).one
            simpa using hsrc
          · have hl2 : ∀ q, q ∈ rws.map (fun r => r.map AV.p) → q.length = i2.size := fun q hq => by
              obtain ⟨r, hr, rfl⟩ := List.mem_map.1 hq; simpa using hl r hr
            refine All2.of_get (by rw [flat_len _ hl2, hnl]; simp) fun k p q hp hq => ?_
            obtain ⟨r, x, q1, q2, q3, rfl⟩ := hget k q hq
            rw [flat_get hs _ _ hl2, List.getElem?_map, q1] at hp
            simp only [Option.map_some, Option.bind_some, List.getElem?_map, q2, Option.some.injEq] at hp
            subst hp
            exact ⟨hrp _ _ _ _ q1 q2, (hrp _ _ _ _ q1 q2).one⟩
          · intro q hq
            obtain ⟨r, hr, rfl⟩ := List.mem_map.1 hq; simpa using hl r hr
  case sl id off len =>
    cases hH : h id with
    | none => rw [hH] at hx; cases hx
    | some k =>
      rw [hH] at hx
      cases k with
      | box => cases hx
      | arr tb s rws =>
        simp only at hx
        cases hb : (Nat.beq s i2.size && Nat.ble (off + len) rws.length)
        · rw [hb] at hx; cases hx
        · rw [hb] at hx
          simp only [cond_true, Option.some.injEq] at hx
          subst hx
          rw [Bool.and_eq_true] at hb
          have hsz' := Nat.eq_of_beq_eq_true hb.1
          have hle := Nat.le_of_ble_eq_true hb.2
          subst hsz'
          obtain ⟨r, a, hee, g1, g2, rfl⟩ := hr
          obtain ⟨r', he', hk, _⟩ := hh.live _ _ hH
          rw [hee] at he'; cases he'
          obtain ⟨hsz, hcap, hmax, hmx, hl, hcs⟩ := hk
          have hl2 : ∀ q, q ∈ (rws.drop off).take len → q.length = i2.size := fun q hq => hl q (List.mem_of_mem_drop (List.mem_of_mem_take hq))
          have hlen : ((rws.drop off).take len).length = len := part_len hle
          by_cases h0 : len = 0
          · subst h0
            refine ⟨a, r.cap - off, [], by simp, ?_, by simpa using .nil, hl2, by simp⟩
            simpa using none_ a _
          · have ha := g2 (by omega)
            subst ha
            rcases hcs with hc0 | ⟨cs, hb2, hcs1, hcs2⟩
            · omega
            have hroom : off * i2.size + len * i2.size ≤ cs.size := by rw [hcs1, ← Nat.add_mul]; exact Nat.mul_le_mul_right _ (by omega)
            have h2 : All2 (Cell1 E) ((rws.drop off).take len).flatten ((cs.toList.drop (off * i2.size)).take (len * i2.size)) := by
              refine All2.of_get (by rw [flat_len _ hl2, hlen, part_len (by simp; omega)]) fun k p q hp hq => ?_
              rw [flat_get hs _ _ hl2] at hp
              cases hrow : ((rws.drop off).take len)[k / i2.size]? with
              | none => rw [hrow] at hp; cases hp
              | some rr =>
                rw [hrow] at hp
                obtain ⟨u, q1, q2⟩ := hcs2 _ _ _ _ (part_get hrow) hp
                have hq' := part_get hq
                rw [Array.getElem?_toList] at hq'
                have : off * i2.size + k = (off + k / i2.size) * i2.size + k % i2.size := by rw [Nat.add_mul, Nat.add_assoc, Nat.div_add_mod']
                rw [this, q1] at hq'
                cases hq'; exact q2
            refine ⟨_, _, _, by rw [hlen], ?_, h2, hl2, by rw [hlen]; omega⟩
            rw [hlen, hsz]
            refine Src.ofSlice E.w ht _ _ _ _ (part_len (by simp; omega)) (fun j v hj => ?_) fun v hv => ?_
            · rw [Addr.add_lit, cell_of_row _ _ _ _ _ _ hb2, ← Array.getElem?_toList]; exact part_get hj
            · obtain ⟨j, hj⟩ := List.getElem?_of_mem hv
              have hjl : j < ((rws.drop off).take len).flatten.length := by rw [h2.length]; exact (List.getElem?_eq_some_iff.1 hj).1
              obtain ⟨u, q1, q2⟩ := h2.get (List.getElem?_eq_getElem hjl)
              rw [hj] at q1; cases q1; exact q2.2
end
end Go.Proofs.Am
