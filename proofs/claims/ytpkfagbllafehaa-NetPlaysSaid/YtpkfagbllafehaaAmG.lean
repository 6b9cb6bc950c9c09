/- Structs and lists that are built; parts of lists; new lists. -/
import Derived.Test.YtpkfagbllafehaaAmF
import Derived.Laws.Tables
import Derived.Laws.MakeOwn
import Derived.Great.BuildSlice
namespace Go.Proofs.Am
open Go Go.RowKit
set_option linter.unusedVariables false
set_option linter.unusedSimpArgs false

def fillA (place : Nat → Option (Nat × Nat)) : List AV → List (Nat × AV) → Option (List AV)
  | cells, [] => some cells
  | cells, (i, x) :: rest =>
    match place i with
    | none => none
    | some (off, size) =>
      match cellsA x with
      | none => none
      | some cs => bif Nat.beq cs.length size && Nat.ble (off + cs.length) cells.length then fillA place (setAll cells off cs) rest else none

theorem foldl_set (off : Nat) : ∀ (l : List Value) (k : Nat) (c : Array Value), ((l.zipIdx k).foldl (fun cs (p : Value × Nat) => cs.setIfInBounds (off + p.2) p.1) c).toList = setAll c.toList (off + k) l
  | [], k, c => by simp [setAll]
  | v :: l, k, c => by
    simp only [List.zipIdx_cons, List.foldl_cons]
    rw [foldl_set off l (k + 1)]
    simp [setAll, Nat.add_assoc]

theorem fill_of {E : Env} {place : Nat → Option (Nat × Nat)} : ∀ {parts : List (Nat × AV)} {vs : List (Nat × Value)}, All2 (fun p q => p.1 = q.1 ∧ Rep E p.2 q.2) parts vs → ∀ {cells : List AV} {cs : Array Value} {r : List AV}, All2 (Cell1 E) cells cs.toList →
    fillA place cells parts = some r → ∃ cs', Instr.fill place cs vs = some cs' ∧ All2 (Cell1 E) r cs'.toList
  | _, _, .nil, cells, cs, r, h, hf => by simp only [fillA, Option.some.injEq] at hf; subst hf; exact ⟨cs, rfl, h⟩
  | (i, x) :: parts, (j, v) :: vs, .cons hp t, cells, cs, r, h, hf => by
    obtain ⟨rfl, hx⟩ := hp
    simp only at hx
    unfold fillA at hf
    unfold Instr.fill
    cases hpl : place i with
    | none => rw [hpl] at hf; cases hf
    | some os =>
      obtain ⟨off, size⟩ := os
      rw [hpl] at hf
      simp only at hf ⊢
      cases hc : cellsA x with
      | none => rw [hc] at hf; cases hf
      | some cx =>
        rw [hc] at hf
        simp only at hf
        cases hb : (Nat.beq cx.length size && Nat.ble (off + cx.length) cells.length)
        · rw [hb] at hf; cases hf
        · rw [hb] at hf
          simp only [cond_true] at hf
          rw [Bool.and_eq_true] at hb
          have h1 := Nat.eq_of_beq_eq_true hb.1
          have h2 := Nat.le_of_ble_eq_true hb.2
          have hcv := rep_cells hc hx
          have hvl : v.cells.size = cx.length := by rw [hcv.length]; simp
          have hcl : cells.length = cs.size := by rw [h.length]; simp
          rw [if_neg (by simp; omega)]
          have hfold : (v.cells.zipIdx.foldl (fun cs (p : Value × Nat) => cs.setIfInBounds (off + p.2) p.1) cs).toList = setAll cs.toList off v.cells.toList := by
            have := foldl_set off v.cells.toList 0 cs
            rw [Nat.add_zero] at this
            rw [← this, ← Array.foldl_toList]; simp
          exact fill_of t (by rw [hfold]; exact hcv.setAll off h) hf

section
variable {P : Program} {o : Oper} {ρ : Operand → AV} {H : Nat → Option Blk} {F : Nat → Prop}

/-- The sizes of a struct's fields. -/
def placesA (tab : List (Nat × TI)) : List (Nat × Nat) → Option (List (Nat × Nat))
  | [] => some []
  | (off, t) :: fs => match look tab t, placesA tab fs with
    | some ti, some r => some ((off, ti.size) :: r)
    | _, _ => none
theorem places_of {tab : List (Nat × TI)} (hT : TabOk P tab) : ∀ (fl : List Field) (r : List (Nat × Nat)), placesA tab (fl.map fun f => (f.offset, f.type)) = some r → fl.mapM (fun f => (P.info? f.type).map fun i => (f.offset, i.size)) = some r
  | [], r, h => by simp [placesA] at h; subst h; rfl
  | f :: fl, r, h => by
    simp only [List.map_cons, placesA] at h
    split at h
    · rename_i ti r' g1 g2
      obtain ⟨i, z, d, tf⟩ := hT.get g1
      simp only [Option.some.injEq] at h
      subst h
      simp [List.mapM_cons, tf.info, places_of hT fl r' g2, tf.size]
    · cases h

def buildA (tab : List (Nat × TI)) (t : Nat) (parts : List (Nat × AV)) : Option (List AV) :=
  match look tab t with
  | none => none
  | some ti => match ti.ty with
    | .struct fs => match placesA tab fs with
      | none => none
      | some pl => fillA (fun i => pl[i]?) ti.zero parts
    | .array n e => match look tab e with
      | none => none
      | some te => fillA (fun i => some (i * te.size, te.size)) ti.zero parts
    | _ => none

theorem parts_rep {E : Env} {a : Act} : ∀ (l : List (Nat × Operand)), (∀ p, p ∈ l → Rep E (ρ p.2) (a.eval p.2)) → All2 (fun (p : Nat × AV) (q : Nat × Value) => p.1 = q.1 ∧ Rep E p.2 q.2) (l.map fun p => (p.1, ρ p.2)) (l.map fun p => (p.1, a.eval p.2))
  | [], _ => .nil
  | p :: l, h => .cons ⟨rfl, h p List.mem_cons_self⟩ (parts_rep l fun q hq => h q (List.mem_cons_of_mem _ hq))

theorem sem_build {tab : List (Nat × TI)} (hT : TabOk P tab) {t : Nat} {parts : Array (Nat × Operand)} {cs : List AV} (ho : o.op = .build t parts) (hb : buildA tab t (parts.toList.map fun p => (p.1, ρ p.2)) = some cs) : OpSem P o ρ H F H (.agg cs) := by
  refine OpSem.of_pure fun a E hr hh => ?_
  have hp := parts_rep (E := E) (ρ := ρ) (a := a) parts.toList fun p hp => hr p.2 (by simp [ho, Op.operands]; exact ⟨p.1, by simpa using hp⟩)
  have hbv : ∃ cs', P.built t (parts.toList.map fun p => (p.1, a.eval p.2)) = some cs' ∧ All2 (Cell1 E) cs cs'.toList := by
    unfold buildA at hb
    cases hl : look tab t with
    | none => rw [hl] at hb; cases hb
    | some ti =>
      obtain ⟨i, z, d, tf⟩ := hT.get hl
      rw [hl] at hb
      simp only at hb
      have hty := tf.ty
      cases ht : ti.ty <;> rw [ht] at hb <;> simp only at hb <;> try (cases hb; done)
      case struct fs =>
        obtain ⟨fa, rfl, hfs⟩ := tyOf_struct (by rw [← hty, ht])
        cases hpl : placesA tab fs with
        | none => rw [hpl] at hb; cases hb
        | some pl =>
          rw [hpl] at hb
          have hm := places_of hT fa.toList pl (by rw [← hfs]; exact hpl)
          obtain ⟨cs', h1, h2⟩ := fill_of hp (tf.zeroRep E) hb
          refine ⟨cs', ?_, h2⟩
          unfold Program.built
          rw [tf.info, tf.und]
          simp only [tf.zero, hm]
          rw [← h1]; congr 1; funext j; simp
      case array n e =>
        have := tyOf_array (d := d) (by rw [← hty, ht]); subst this
        cases hle : look tab e with
        | none => rw [hle] at hb; cases hb
        | some te =>
          rw [hle] at hb
          obtain ⟨i2, z2, d2, tfe⟩ := hT.get hle
          obtain ⟨cs', h1, h2⟩ := fill_of hp (tf.zeroRep E) hb
          refine ⟨cs', ?_, h2⟩
          unfold Program.built
          rw [tf.info, tf.und]
          simp only [tf.zero, tfe.info]
          rw [← tfe.size]; exact h1
  obtain ⟨cs', h1, h2⟩ := hbv
  refine ⟨.agg cs', ?_, cs'.toList, by simp, h2⟩
  have := run_build (P := P) E.w t (parts.map fun (i, x) => (i, a.eval x)) cs' (by simpa using h1)
  simp [execOp, ho, this]

def rowsOf {α : Type} (sz n : Nat) (flat : List α) : List (List α) := (List.range n).map fun i => (flat.drop (i * sz)).take sz
def repL {α : Type} (l : List α) : Nat → List α
  | 0 => []
  | n + 1 => l ++ repL l n
theorem repL_rep {E : Env} {l : List AV} {vs : List Value} (h : All2 (Cell1 E) l vs) : ∀ n, All2 (Cell1 E) (repL l n) (repL vs n)
  | 0 => .nil
  | n + 1 => h.append (repL_rep h n)
theorem repL_length {α : Type} (l : List α) : ∀ n, (repL l n).length = n * l.length
  | 0 => by simp [repL]
  | n + 1 => by simp [repL, repL_length l n, Nat.add_mul]; omega
theorem repL_get {α : Type} [Inhabited α] (l : List α) (hl : 0 < l.length) : ∀ (n k : Nat), k < n * l.length → (repL l n)[k]? = l[k % l.length]?
  | 0, k, h => by simp at h
  | n + 1, k, h => by
    unfold repL
    rw [List.getElem?_append]
    split
    · rename_i hk; rw [Nat.mod_eq_of_lt hk]
    · rename_i hk
      rw [Nat.add_mul] at h
      rw [repL_get l hl n (k - l.length) (by omega)]
      congr 1
      conv => rhs; rw [show k = (k - l.length) + l.length by omega, Nat.add_mod_right]

theorem fill_size {place : Nat → Option (Nat × Nat)} : ∀ {parts : List (Nat × AV)} {cells r : List AV}, fillA place cells parts = some r → r.length = cells.length
  | [], cells, r, h => by simp [fillA] at h; subst h; rfl
  | (i, x) :: parts, cells, r, h => by
    unfold fillA at h
    cases hpl : place i with
    | none => rw [hpl] at h; cases h
    | some os =>
      rw [hpl] at h
      simp only at h
      cases hc : cellsA x with
      | none => rw [hc] at h; cases h
      | some cx =>
        rw [hc] at h
        simp only at h
        cases hb : (Nat.beq cx.length os.2 && Nat.ble (os.1 + cx.length) cells.length)
        · rw [hb] at h; cases h
        · rw [hb] at h; simp only [cond_true] at h
          rw [fill_size h, setAll_length]

theorem madeRow (z : List Value) (n : Nat) : (List.range (n * z.length)).map (fun k => z.toArray[k % z.toArray.size]!) = repL z n := by
  apply List.ext_getElem?
  intro k
  by_cases hz : 0 < z.length
  · by_cases hk : k < n * z.length
    · have : k % z.length < z.length := Nat.mod_lt _ hz
      rw [repL_get z hz n k hk, List.getElem?_map, List.getElem?_range hk]
      simp [this]
    · rw [List.getElem?_eq_none (by simpa using hk), List.getElem?_eq_none (by rw [repL_length]; omega)]
  · have : z = [] := List.eq_nil_of_length_eq_zero (by omega)
    subst this
    have := repL_length ([] : List Value) n
    simp only [List.length_nil, Nat.mul_zero] at this
    rw [List.getElem?_eq_none (by simp), List.getElem?_eq_none (by omega)]

/-- What a new array holds, as rows. -/
theorem rowsOf_ok {E : Env} {sz n : Nat} {flat : List AV} {vs : List Value} (h : All2 (Cell1 E) flat vs) (hl : flat.length = n * sz) : (∀ x, x ∈ rowsOf sz n flat → x.length = sz) ∧ (rowsOf sz n flat).length = n ∧
    ∀ (i : Nat) (x : List AV) (j : Nat) (y : AV), (rowsOf sz n flat)[i]? = some x → x[j]? = some y → ∃ u, vs[i * sz + j]? = some u ∧ Cell1 E y u := by
  refine ⟨fun x hx => ?_, by simp [rowsOf], fun i x j y hi hj => ?_⟩
  · simp only [rowsOf, List.mem_map, List.mem_range] at hx
    obtain ⟨i, hi, rfl⟩ := hx
    refine part_len ?_
    have := row_lt (sz := sz) hi (j := 0)
    rw [hl]
    rw [← Nat.succ_mul]; exact Nat.mul_le_mul_right _ hi
  · simp only [rowsOf, List.getElem?_map] at hi
    by_cases hin : i < n
    · rw [List.getElem?_range hin] at hi
      simp at hi; subst hi
      exact h.get (part_get hj)
    · rw [List.getElem?_eq_none (by simpa using hin)] at hi; cases hi

theorem sem_buildSlice {tab : List (Nat × TI)} (hT : TabOk P tab) {t e len m : Nat} {ti te : TI} {parts : Array (Nat × Operand)} {flat : List AV} (ho : o.op = .buildSlice t len parts) (hl : look tab t = some ti) (ht : ti.ty = .slice e) (he : look tab e = some te) (hs : 0 < te.size) (hsm : len * te.size ≤ 16777216)
    (hb : fillA (fun i => some (i * te.size, te.size)) (repL te.zero len) (parts.toList.map fun p => (p.1, ρ p.2)) = some flat) (hm : F m) : OpSem P o ρ H F (single m (.arr e te.size (rowsOf te.size len flat))) (.sl m 0 len) := by
  refine OpSem.of_run fun a E hr hh hf hok => ?_
  obtain ⟨i, z, d, tf⟩ := hT.get hl
  obtain ⟨i2, z2, d2, tfe⟩ := hT.get he
  have hd := tyOf_slice (d := d) (by rw [← tf.ty, ht]); subst hd
  have hp := parts_rep (E := E) (ρ := ρ) (a := a) parts.toList fun p hp => hr p.2 (by simp [ho, Op.operands]; exact ⟨p.1, by simpa using hp⟩)
  have hz := repL_rep (tfe.zeroRep E) len
  obtain ⟨cs', h1, h2⟩ := fill_of hp (cs := (repL z2.cells.toList len).toArray) (by simpa using hz) hb
  have hzl : z2.cells.toList.length = te.size := by rw [tfe.size, ← tfe.zs]; simp
  have hfl : flat.length = len * te.size := by rw [fill_size hb, repL_length, tfe.zeroLen]
  have hcs : cs'.size = len * te.size := by rw [← hfl, h2.length]; simp
  have hmade : ((Array.range (len * te.size)).map fun k => z2.cells[k % z2.cells.size]!) = (repL z2.cells.toList len).toArray := by
    have := madeRow z2.cells.toList len
    rw [hzl] at this
    apply Array.ext'
    simpa using this
  let r : Root := ⟨E.w.heap.size, len, te.size⟩
  refine ⟨.slice (some ⟨E.w.heap.size, 0, none⟩) len len, E.new m r (E.w.alloc (.cells cs' e)), .inl ?_, ?_⟩
  · have hrun : (Instr.buildSlice t len (parts.map fun (i, x) => (i, a.eval x))).run P E.w = .ok (.slice (some ⟨E.w.heap.size, 0, none⟩) len len) (E.w.alloc (.cells cs' e)) := by
      have hsz := tfe.size
      by_cases h0 : len * i2.size = 0
      · have : len = 0 := by
          rcases Nat.mul_eq_zero.1 h0 with h | h
          · exact h
          · omega
        subst this
        have h1' : Instr.fill (fun i => some (i * i2.size, i2.size)) #[] (parts.map fun (i, x) => (i, a.eval x)).toList = some cs' := by
          rw [← hsz]; simpa [repL] using h1
        simp only [Instr.buildSlice, Sem.run_bind, run_underlying tf.und, Result.andThen_ok, sizeOf, typeInfo, run_program, tfe.info, Sem.run_pure, Nat.zero_mul]
        simp at h1'
        simp [h1', newRow, Array.range_zero']
      · have h24 : (2 : Nat) ^ 24 = 16777216 := by decide
        exact run_buildSlice E.w t e len _ cs' i2 z2 tf.und tfe.info tfe.zero (by rw [← hsz, h24]; omega) h0 (by rw [← hsz, hmade]; simpa using h1)
    simp [execOp, ho, hrun, Env.new]
  · have ex : Ext E (E.new m r (E.w.alloc (.cells cs' e))) := Env.new_ext (hf m hm) fun b hb => heap_alloc_old E.w _ b (hok b hb)
    obtain ⟨q1, q2, q3⟩ := rowsOf_ok (sz := te.size) (n := len) h2 hfl
    refine post_new hok hm (hf m hm) rfl rfl rfl rfl rfl ⟨rfl, by rw [q2]; exact Nat.le_refl _, ?_, by rw [q2]; exact Nat.le_trans (Nat.le_mul_of_pos_right _ hs) (by omega), q1, .inr ⟨cs', heap_alloc_new E.w _, hcs, fun i x j y hi hj => ?_⟩⟩ ⟨r, some ⟨E.w.heap.size, 0, none⟩, by simp [Env.new], by simp [r], fun _ => by simp [r], by simp [r]⟩
    · have : len ≤ len * te.size := Nat.le_mul_of_pos_right _ hs
      show len ≤ maxLen
      unfold maxLen; omega
    · obtain ⟨u, g1, g2⟩ := q3 i x j y hi hj
      exact ⟨u, by rw [← Array.getElem?_toList]; exact g1, g2.ext ex⟩

theorem sem_makeSlice {tab : List (Nat × TI)} (hT : TabOk P tab) {t e m : Nat} {ti te : TI} {x y : Operand} {n : Int} {k k' : IntKind} (ho : o.op = .makeSlice t x y) (hl : look tab t = some ti) (ht : ti.ty = .slice e) (he : look tab e = some te) (hs : 0 < te.size) (hby : 0 < te.bytes)
    (hx : ρ x = .p (.sc (.int k n))) (hy : ρ y = .p (.sc (.int k' n))) (h0 : 0 ≤ n) (hn : n * te.bytes ≤ 140737488355328) (hm : F m) :
    OpSem P o ρ H F (single m (.arr e te.size (List.replicate n.toNat te.zero))) (.sl m 0 n.toNat) := by
  refine OpSem.of_run fun a E hr hh hf hok => ?_
  obtain ⟨i, z, d, tf⟩ := hT.get hl
  obtain ⟨i2, z2, d2, tfe⟩ := hT.get he
  have hd := tyOf_slice (d := d) (by rw [← tf.ty, ht]); subst hd
  have e1 := rep_sc (hx ▸ hr x (by simp [ho, Op.operands]))
  have e2 := rep_sc (hy ▸ hr y (by simp [ho, Op.operands]))
  have hzl : z2.cells.toList.length = te.size := by rw [tfe.size, ← tfe.zs]; simp
  have hnb : n ≤ n * te.bytes := by
    have : n * 1 ≤ n * te.bytes := Int.mul_le_mul_of_nonneg_left (by omega) h0
    omega
  have hmade : ((Array.range (n.toNat * te.size)).map fun k => z2.cells[k % z2.cells.size]!) = (repL z2.cells.toList n.toNat).toArray := by
    have := madeRow z2.cells.toList n.toNat
    rw [hzl] at this
    apply Array.ext'
    simpa using this
  let r : Root := ⟨E.w.heap.size, n.toNat, te.size⟩
  have hrow : ∀ (i : Nat) (x : List AV) (j : Nat) (y : AV), (List.replicate n.toNat te.zero)[i]? = some x → x[j]? = some y → ∃ u, (repL z2.cells.toList n.toNat)[i * te.size + j]? = some u ∧ Cell1 E y u := fun i x j y hi hj => by
    rw [List.getElem?_replicate] at hi
    split at hi
    · rename_i hin
      cases hi
      have hjs : j < te.size := by rw [← tfe.zeroLen]; exact (List.getElem?_eq_some_iff.1 hj).1
      obtain ⟨u, g1, g2⟩ := (tfe.zeroRep E).get hj
      refine ⟨u, ?_, g2⟩
      rw [repL_get _ (by omega) _ _ (by rw [hzl]; exact row_lt hin hjs), hzl, (div_row hjs).2, g1]
    · cases hi
  refine ⟨.slice (some ⟨E.w.heap.size, 0, none⟩) n.toNat n.toNat, E.new m r (E.w.alloc (.cells (repL z2.cells.toList n.toNat).toArray e)), .inl ?_, ?_⟩
  · have hrun := run_make (P := P) E.w t e i2 z2 tf.und tfe.info tfe.zero k k' n n h0 (Int.le_refl _) (by rw [← tfe.bytes, Int.mul_comm]; omega) (by omega)
    have hm2 : madeCells z2.cells (n.toNat * i2.size) = (repL z2.cells.toList n.toNat).toArray := by rw [← tfe.size]; exact hmade
    rw [hm2] at hrun
    simp [execOp, ho, e1, e2, hrun, Env.new]
  · have ex : Ext E (E.new m r (E.w.alloc (.cells (repL z2.cells.toList n.toNat).toArray e))) := Env.new_ext (hf m hm) fun b hb => heap_alloc_old E.w _ b (hok b hb)
    refine post_new hok hm (hf m hm) rfl rfl rfl rfl rfl ⟨rfl, by simp [r], ?_, by simp; omega, fun x hx => by rw [(List.mem_replicate.1 hx).2]; exact tfe.zeroLen, .inr ⟨_, heap_alloc_new E.w _, by simp [repL_length, r]; rw [← hzl]; simp, fun i x j y hi hj => ?_⟩⟩ ⟨r, some ⟨E.w.heap.size, 0, none⟩, by simp [Env.new], by simp [r], fun _ => by simp [r], by simp [r]⟩
    · show n.toNat ≤ maxLen
      unfold maxLen; omega
    · obtain ⟨u, g1, g2⟩ := hrow i x j y hi hj
      exact ⟨u, by simpa using g1, g2.ext ex⟩
end
end Go.Proofs.Am
