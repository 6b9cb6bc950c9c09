/- Loads, stores, addresses. -/
import Derived.Test.YtpkfagbllafehaaAmD
namespace Go.Proofs.Am
open Go Go.RowKit
set_option linter.unusedVariables false
set_option linter.unusedSimpArgs false

def setAll {α : Type} : List α → Nat → List α → List α
  | l, _, [] => l
  | l, n, x :: xs => setAll (l.set n x) (n + 1) xs
theorem setAll_eq {α : Type} : ∀ (xs : List α) (l : List α) (n : Nat), n + xs.length ≤ l.length → setAll l n xs = l.take n ++ xs ++ l.drop (n + xs.length)
  | [], l, n, _ => by simp [setAll]
  | x :: xs, l, n, h => by
    simp only [List.length_cons] at h
    unfold setAll
    rw [setAll_eq xs _ (n + 1) (by simp; omega)]
    apply List.ext_getElem?
    intro k
    simp only [List.getElem?_append, List.length_append, List.length_take, List.length_set, List.getElem?_take, List.getElem?_set, List.getElem?_drop, List.length_cons]
    repeat' split
    all_goals first
      | rfl
      | omega
      | (congr 1; omega)
      | (simp_all; done)
      | skip
    all_goals try (rw [List.getElem?_cons]; split <;> first | omega | (congr 1; omega) | simp_all)
theorem setAll_length {α : Type} : ∀ (xs : List α) (l : List α) (n : Nat), (setAll l n xs).length = l.length
  | [], _, _ => rfl
  | x :: xs, l, n => by unfold setAll; rw [setAll_length xs]; simp
theorem All2.setAll {α β : Type} {R : α → β → Prop} : ∀ {xs : List α} {ys : List β}, All2 R xs ys → ∀ {l : List α} {l' : List β} (n : Nat), All2 R l l' → All2 R (setAll l n xs) (setAll l' n ys)
  | _, _, .nil, _, _, _, h => h
  | _, _, .cons r t, _, _, n, h => by unfold Am.setAll; exact t.setAll (n + 1) (h.set r n)

theorem flat_get {α : Type} {sz : Nat} (hs : 0 < sz) : ∀ (rows : List (List α)) (k : Nat), (∀ x, x ∈ rows → x.length = sz) → rows.flatten[k]? = (rows[k / sz]?).bind (fun x => x[k % sz]?)
  | [], k, _ => by simp
  | r :: rows, k, h => by
    have hr := h r List.mem_cons_self
    rw [List.flatten_cons, List.getElem?_append]
    split
    · rename_i hk
      rw [Nat.div_eq_of_lt (by omega), Nat.mod_eq_of_lt (by omega)]; simp
    · rename_i hk
      rw [hr, flat_get hs rows (k - sz) fun x hx => h x (List.mem_cons_of_mem _ hx)]
      obtain ⟨q, rfl⟩ : ∃ q, k = q + sz := ⟨k - sz, by omega⟩
      rw [Nat.add_sub_cancel, Nat.add_div_right _ hs, Nat.add_mod_right]
      simp
theorem flat_len {α : Type} {sz : Nat} : ∀ (rows : List (List α)), (∀ x, x ∈ rows → x.length = sz) → rows.flatten.length = rows.length * sz
  | [], _ => by simp
  | r :: rows, h => by
    rw [List.flatten_cons, List.length_append, h r List.mem_cons_self, flat_len rows fun x hx => h x (List.mem_cons_of_mem _ hx), List.length_cons, Nat.add_mul]; omega
theorem row_lt {sz n i j : Nat} (hi : i < n) (hj : j < sz) : i * sz + j < n * sz := by
  have : i * sz + sz ≤ n * sz := by rw [← Nat.succ_mul]; exact Nat.mul_le_mul_right _ hi
  omega
theorem div_row {sz i j : Nat} (hj : j < sz) : (i * sz + j) / sz = i ∧ (i * sz + j) % sz = j := by
  rw [Nat.mul_comm]
  exact ⟨by rw [Nat.mul_add_div (by omega), Nat.div_eq_of_lt hj]; omega, by rw [Nat.mul_add_mod]; exact Nat.mod_eq_of_lt hj⟩

/-- Rows, and the same cells one behind the other. -/
theorem rows_flat {α : Type} {R : α → Value → Prop} {sz : Nat} {rows : List (List α)} {cs : Array Value} (hl : ∀ x, x ∈ rows → x.length = sz) (hc : rows.length * sz ≤ cs.size)
    (h : ∀ (i : Nat) (x : List α) (j : Nat) (y : α), rows[i]? = some x → x[j]? = some y → ∃ u, cs[i * sz + j]? = some u ∧ R y u) : All2 R rows.flatten (cs.toList.take (rows.length * sz)) := by
  refine All2.of_get (by rw [flat_len rows hl]; simp; omega) fun k a b ha hb => ?_
  by_cases hs : 0 < sz
  · rw [flat_get hs rows k hl] at ha
    cases hr : rows[k / sz]? with
    | none => rw [hr] at ha; cases ha
    | some x =>
      rw [hr] at ha
      obtain ⟨u, h1, h2⟩ := h _ _ _ _ hr ha
      rw [Nat.div_add_mod'] at h1
      rw [List.getElem?_take] at hb
      split at hb
      · rw [Array.getElem?_toList] at hb
        rw [h1] at hb; cases hb; exact h2
      · cases hb
  · have h0 : sz = 0 := by omega
    rw [h0, Nat.mul_zero] at hb
    simp at hb
theorem flat_rows {α : Type} {R : α → Value → Prop} {sz : Nat} {rows : List (List α)} {cs : Array Value} (hl : ∀ x, x ∈ rows → x.length = sz)
    (h : All2 R rows.flatten (cs.toList.take (rows.length * sz))) : ∀ (i : Nat) (x : List α) (j : Nat) (y : α), rows[i]? = some x → x[j]? = some y → ∃ u, cs[i * sz + j]? = some u ∧ R y u := by
  intro i x j y hi hj
  have hx := hl x (List.mem_of_getElem? hi)
  have hjs : j < sz := by rw [← hx]; exact (List.getElem?_eq_some_iff.1 hj).1
  have hin := (List.getElem?_eq_some_iff.1 hi).1
  obtain ⟨d1, d2⟩ := div_row (i := i) hjs
  have hf : rows.flatten[i * sz + j]? = some y := by
    rw [flat_get (by omega) rows _ hl, d1, d2, hi]; simpa using hj
  obtain ⟨u, h1, h2⟩ := h.get hf
  rw [List.getElem?_take, if_pos (row_lt hin hjs), Array.getElem?_toList] at h1
  exact ⟨u, h1, h2⟩

theorem part_get {α : Type} {l : List α} {o n j : Nat} {x : α} (h : ((l.drop o).take n)[j]? = some x) : l[o + j]? = some x := by
  rw [List.getElem?_take] at h
  split at h
  · rwa [List.getElem?_drop] at h
  · cases h
theorem part_len {α : Type} {l : List α} {o n : Nat} (h : o + n ≤ l.length) : ((l.drop o).take n).length = n := by
  rw [List.length_take, List.length_drop]; omega

section
variable {P : Program} {o : Oper} {ρ : Operand → AV} {t : TypeId} {ti : TI} {i : TypeInfo} {z : Value} {d : TypeDesc} {H : Nat → Option Blk} {F : Nat → Prop} {x : Operand} {y : AV}

theorem sem_load_box {id off tb : Nat} {cells : List AV} (ho : o.op = .load t x) (h : TF P t ti i z d) (hp : ρ x = .ptr id 0 off) (hH : H id = some (.box tb cells)) (hf : off + ti.size ≤ cells.length)
    (h1 : ti.agg = false → ti.size = 1) (hy : valA ti.agg ((cells.drop off).take ti.size) = some y) : OpSem P o ρ H F H y := by
  refine OpSem.of_pure fun a E hr hh => ?_
  have hx : Rep E (.ptr id 0 off) (a.eval x) := hp ▸ hr x (by simp [ho, Op.operands])
  obtain ⟨r, he, hv⟩ := hx
  obtain ⟨r', he', hk, _⟩ := hh.live _ _ hH
  rw [he] at he'; cases he'
  obtain ⟨_, _, cs, hb, hc⟩ := hk
  have h2 := (hc.drop off).take ti.size
  refine ⟨valV ti.agg ((cs.toList.drop off).take ti.size), ?_, rep_val hy h2⟩
  have := run_loadVar_cells h E.w r.b off ((cs.toList.drop off).take ti.size) (by rw [← h2.length]; exact part_len hf) h1 fun j v hj => by
    rw [cell_of_row _ _ _ _ _ _ hb, ← Array.getElem?_toList]; exact part_get hj
  simp [execOp, ho, hv, Instr.loadAt, Instr.sureAddr, this]

theorem sem_load_arr {id row off tb sz : Nat} {rows : List (List AV)} {rr : List AV} (ho : o.op = .load t x) (h : TF P t ti i z d) (hp : ρ x = .ptr id row off) (hH : H id = some (.arr tb sz rows)) (hrow : rows[row]? = some rr) (hf : off + ti.size ≤ rr.length)
    (h1 : ti.agg = false → ti.size = 1) (hy : valA ti.agg ((rr.drop off).take ti.size) = some y) : OpSem P o ρ H F H y := by
  refine OpSem.of_pure fun a E hr hh => ?_
  have hx : Rep E (.ptr id row off) (a.eval x) := hp ▸ hr x (by simp [ho, Op.operands])
  obtain ⟨r, he, hv⟩ := hx
  obtain ⟨r', he', hk, _⟩ := hh.live _ _ hH
  rw [he] at he'; cases he'
  obtain ⟨hsz, hcap, _, _, hl, hc⟩ := hk
  have hin := (List.getElem?_eq_some_iff.1 hrow).1
  rcases hc with hc | ⟨cs, hb, hcs, hc⟩
  · omega
  have hrl := hl rr (List.mem_of_getElem? hrow)
  have hsub : ∀ j b, rr[j]? = some b → ∃ u, cs[row * sz + j]? = some u ∧ Cell1 E b u := fun j b hj => hc _ _ _ _ hrow hj
  have hroom : row * sz + sz ≤ cs.size := by rw [hcs, ← Nat.succ_mul]; exact Nat.mul_le_mul_right _ (by omega)
  have h2 : All2 (Cell1 E) ((rr.drop off).take ti.size) ((cs.toList.drop (row * sz + off)).take ti.size) := by
    refine All2.of_get (by rw [part_len hf, part_len (by simp; omega)]) fun k p q hp' hq => ?_
    obtain ⟨u, g1, g2⟩ := hsub _ _ (part_get hp')
    have := part_get hq
    rw [Array.getElem?_toList, Nat.add_assoc, g1] at this
    cases this; exact g2
  refine ⟨valV ti.agg ((cs.toList.drop (row * sz + off)).take ti.size), ?_, rep_val hy h2⟩
  have := run_loadVar_cells h E.w r.b (row * sz + off) ((cs.toList.drop (row * sz + off)).take ti.size) (by rw [← h2.length]; exact part_len hf) h1 fun j v hj => by
    rw [cell_of_row _ _ _ _ _ _ hb, ← Array.getElem?_toList]; exact part_get hj
  simp [execOp, ho, hv, Instr.loadAt, Instr.sureAddr, hsz, this]

theorem sem_load_f {row off sz : Nat} {rows : List (List PV)} {rr : List PV} (ho : o.op = .load t x) (h : TF P t ti i z d) (hp : ρ x = .fptr sz rows row off) (hrow : rows[row]? = some rr) (hf : off + ti.size ≤ rr.length)
    (h1 : ti.agg = false → ti.size = 1) (hy : valA ti.agg (((rr.drop off).take ti.size).map .p) = some y) : OpSem P o ρ H F H y := by
  refine OpSem.of_pure fun a E hr hh => ?_
  have hx : Rep E (.fptr sz rows row off) (a.eval x) := hp ▸ hr x (by simp [ho, Op.operands])
  obtain ⟨b, o', c, hq, hv⟩ := hx
  generalize hsl : Value.slice (some ⟨b, o', none⟩) rows.length c = sl at hq
  cases hq with
  | emp => simp at hrow
  | seq _ _ b' o'' c' u h0 hc hm hl hu hrp =>
    simp only [Value.slice.injEq, Option.some.injEq, Addr.mk.injEq] at hsl
    obtain ⟨⟨rfl, rfl, _⟩, _, rfl⟩ := hsl
    have hg : ∀ j pv, rr[j]? = some pv → E.w.cell? ⟨b, o' + row * sz + j, none⟩ = some (u row j) ∧ RepP E.ok E.w pv (u row j) := fun j pv hj => ⟨hu _ _ _ _ hrow hj, hrp _ _ _ _ hrow hj⟩
    let vs := (List.range ti.size).map fun k => u row (off + k)
    have hvs : ∀ j v, vs[j]? = some v → j < ti.size ∧ v = u row (off + j) := fun j v hj => by
      simp only [vs, List.getElem?_map] at hj
      by_cases hlt : j < ti.size
      · rw [List.getElem?_range hlt] at hj; simp at hj; exact ⟨hlt, hj.symm⟩
      · rw [List.getElem?_eq_none (by simpa using hlt)] at hj; cases hj
    have h2 : All2 (Cell1 E) (((rr.drop off).take ti.size).map .p) vs := by
      refine All2.map_l _ (All2.of_get (by rw [part_len hf]; simp [vs]) fun k p q hp' hq => ?_)
      obtain ⟨_, rfl⟩ := hvs k q hq
      obtain ⟨_, g2⟩ := hg _ _ (part_get hp')
      exact ⟨g2, g2.one⟩
    refine ⟨valV ti.agg vs, ?_, rep_val hy h2⟩
    have := run_loadVar_cells h E.w b (o' + row * sz + off) vs (by simp [vs]) h1 fun j v hj => by
      obtain ⟨hlt, rfl⟩ := hvs j v hj
      have : off + j < rr.length := by omega
      have := (hg (off + j) _ (List.getElem?_eq_getElem this)).1
      rw [← this, Nat.add_assoc]
    simp [execOp, ho, hv, Instr.loadAt, Instr.sureAddr, this]

/-- A step that writes one own block. -/
theorem post_store {E : Env} {id : Nat} {k k' : Blk} {r : Root} {w' : World} {x : AV} {v : Value} (hh : HeapOk E H) (hb : ∀ b, E.ok b → b < E.w.heap.size) (hH : H id = some k) (he : E.e id = some r) (hc : 0 < r.cap)
    (hw : ∀ b, b ≠ r.b → w'.heap[b]? = E.w.heap[b]?) (hsz : w'.heap.size = E.w.heap.size) (h2 : w'.os = E.w.os) (h3 : w'.tape = E.w.tape) (h4 : w'.output = E.w.output)
    (hk : BlkRep ⟨E.e, E.ok, w'⟩ r k') (hx : Rep ⟨E.e, E.ok, w'⟩ x v) : Post E H F ⟨E.e, E.ok, w'⟩ (single id k') x v := by
  obtain ⟨r', he', _, hr⟩ := hh.live _ _ hH
  rw [he] at he'; cases he'
  have hr := hr hc
  refine ⟨fun _ _ h => h, fun _ h h' => (h' h).elim, fun _ h => h, fun _ h => .inl h, fun b h => by show b < w'.heap.size; rw [hsz]; exact hb b h, hx, ⟨fun id' k'' h => ?_, fun id1 id2 k1 k2 r1 r2 g1 g2 _ _ _ _ _ => ?_⟩, fun id' k'' r' h he' hc' => ?_, ⟨h2, h3, h4, by show _ ≤ w'.heap.size; omega, fun b _ ho => hw b fun hbr => ho ⟨id, k, r, hH, he, hc, hbr.symm⟩⟩⟩
  · simp only [single] at h
    split at h
    · rename_i hid; subst hid; cases h
      exact ⟨r, he, hk, fun _ => ⟨by show _ < w'.heap.size; rw [hsz]; exact hr.1, hr.2⟩⟩
    · cases h
  · simp only [single] at g1 g2
    split at g1
    · split at g2
      · subst_vars; rfl
      · cases g2
    · cases g1
  · simp only [single] at h
    split at h
    · rename_i hid; subst hid
      have : E.e id' = some r' := he'
      rw [he] at this; cases this
      exact .inr ⟨id', k, r, hH, he, hc, rfl⟩
    · cases h

theorem setRow_same (w : World) (b : Nat) (cs : Array Value) : (w.setRow b cs).os = w.os ∧ (w.setRow b cs).tape = w.tape ∧ (w.setRow b cs).output = w.output ∧ (w.setRow b cs).heap.size = w.heap.size := ⟨rfl, rfl, rfl, by simp⟩

theorem sem_store_box {id off tb : Nat} {cells cs : List AV} {v : Operand} (ho : o.op = .store t x v) (h : TF P t ti i z d) (hp : ρ x = .ptr id 0 off) (hH : H id = some (.box tb cells)) (hcs : cellsA (ρ v) = some cs) (hl : cs.length = ti.size) (hf : off + cs.length ≤ cells.length) :
    OpSem P o ρ H F (single id (.box tb (setAll cells off cs))) .und := by
  refine OpSem.of_run fun a E hr hh hfr hok => ?_
  have hx : Rep E (.ptr id 0 off) (a.eval x) := hp ▸ hr x (by simp [ho, Op.operands])
  obtain ⟨r, he, hv⟩ := hx
  obtain ⟨r', he', hk, hown⟩ := hh.live _ _ hH
  rw [he] at he'; cases he'
  obtain ⟨hc1, hsz, cur, hb, hc⟩ := hk
  have hcv := rep_cells hcs (hr v (by simp [ho, Op.operands]))
  have hvl : (a.eval v).cells.size = cs.length := by rw [hcv.length]; simp
  have hcl : cells.length = cur.size := by rw [hc.length]; simp
  have hrun := run_storeVar_cells h E.w r.b off (a.eval v) cur tb (by rw [hvl, hl]) hb (by rw [hvl, ← hcl]; exact hf) fun u hu => by
    obtain ⟨j, hj⟩ := List.getElem?_of_mem hu
    have hjl : j < cs.length := by rw [hcv.length]; exact (List.getElem?_eq_some_iff.1 hj).1
    obtain ⟨u', g1, g2⟩ := hcv.get (List.getElem?_eq_getElem hjl)
    rw [hj] at g1; cases g1; exact g2.2
  have hnew : cur.toList.take off ++ (a.eval v).cells.toList ++ cur.toList.drop (off + (a.eval v).cells.size) = setAll cur.toList off (a.eval v).cells.toList := by
    rw [setAll_eq _ _ _ (by simp [hvl, ← hcl, hf])]; simp
  rw [hnew] at hrun
  have hww : ∀ b, b ≠ r.b → (E.w.setRow r.b (setAll cur.toList off (a.eval v).cells.toList).toArray).heap[b]? = E.w.heap[b]? := fun b hne => setRow_other _ _ _ _ hne
  have ex : Ext E ⟨E.e, E.ok, E.w.setRow r.b (setAll cur.toList off (a.eval v).cells.toList).toArray⟩ := ⟨fun _ _ h => h, fun _ h => h, fun b hb' => hww b fun hbr => (hown (by omega)).2 (hbr ▸ hb')⟩
  refine ⟨undef, ⟨E.e, E.ok, E.w.setRow r.b (setAll cur.toList off (a.eval v).cells.toList).toArray⟩, .inr ⟨rfl, ?_⟩, ?_⟩
  · simp [execOp, ho, hv, Instr.storeAt, Instr.sureAddr, hrun]
  · refine post_store hh hok hH he (by omega) hww (setRow_same _ _ _).2.2.2 rfl rfl rfl ⟨hc1, by rw [setAll_length]; exact hsz, _, setRow_heap _ _ _ _ _ _ hb, ?_⟩ rfl
    exact (hcv.setAll off hc).imp fun _ _ k => k.ext ex

theorem sem_store_arr {id row off tb sz : Nat} {rows : List (List AV)} {rr cs : List AV} {v : Operand} (ho : o.op = .store t x v) (h : TF P t ti i z d) (hp : ρ x = .ptr id row off) (hH : H id = some (.arr tb sz rows)) (hrow : rows[row]? = some rr)
    (hcs : cellsA (ρ v) = some cs) (hl : cs.length = ti.size) (hf : off + cs.length ≤ rr.length) :
    OpSem P o ρ H F (single id (.arr tb sz (rows.set row (setAll rr off cs)))) .und := by
  refine OpSem.of_run fun a E hr hh hfr hok => ?_
  have hx : Rep E (.ptr id row off) (a.eval x) := hp ▸ hr x (by simp [ho, Op.operands])
  obtain ⟨r, he, hv⟩ := hx
  obtain ⟨r', he', hk, hown⟩ := hh.live _ _ hH
  rw [he] at he'; cases he'
  obtain ⟨hsz, hcap, hmax, hmx, hrl, hc⟩ := hk
  have hin := (List.getElem?_eq_some_iff.1 hrow).1
  rcases hc with hc | ⟨cur, hb, hcs', hc⟩
  · omega
  have hcv := rep_cells hcs (hr v (by simp [ho, Op.operands]))
  have hvl : (a.eval v).cells.size = cs.length := by rw [hcv.length]; simp
  have hrr := hrl rr (List.mem_of_getElem? hrow)
  have hroom : row * sz + sz ≤ cur.size := by rw [hcs', ← Nat.succ_mul]; exact Nat.mul_le_mul_right _ (by omega)
  have hone : ∀ u, u ∈ (a.eval v).cells.toList → u.oneCell' = true := fun u hu => by
    obtain ⟨j, hj⟩ := List.getElem?_of_mem hu
    have hjl : j < cs.length := by rw [hcv.length]; exact (List.getElem?_eq_some_iff.1 hj).1
    obtain ⟨u', g1, g2⟩ := hcv.get (List.getElem?_eq_getElem hjl)
    rw [hj] at g1; cases g1; exact g2.2
  have hrun := run_storeVar_cells h E.w r.b (row * sz + off) (a.eval v) cur tb (by rw [hvl, hl]) hb (by rw [hvl]; omega) hone
  have hnew : cur.toList.take (row * sz + off) ++ (a.eval v).cells.toList ++ cur.toList.drop (row * sz + off + (a.eval v).cells.size) = setAll cur.toList (row * sz + off) (a.eval v).cells.toList := by
    rw [setAll_eq _ _ _ (by simp [hvl]; omega)]; simp
  rw [hnew] at hrun
  generalize hcs2 : (setAll cur.toList (row * sz + off) (a.eval v).cells.toList).toArray = cs2 at hrun
  have hww : ∀ b, b ≠ r.b → (E.w.setRow r.b cs2).heap[b]? = E.w.heap[b]? := fun b hne => setRow_other _ _ _ _ hne
  have ex : Ext E ⟨E.e, E.ok, E.w.setRow r.b cs2⟩ := ⟨fun _ _ h => h, fun _ h => h, fun b hb' => hww b fun hbr => (hown (by omega)).2 (hbr ▸ hb')⟩
  have hs2 : cs2.size = cur.size := by rw [← hcs2]; simp [setAll_length]
  refine ⟨undef, ⟨E.e, E.ok, E.w.setRow r.b cs2⟩, .inr ⟨rfl, ?_⟩, ?_⟩
  · simp [execOp, ho, hv, Instr.storeAt, Instr.sureAddr, hsz, hrun]
  · refine post_store hh hok hH he (by omega) hww (setRow_same _ _ _).2.2.2 rfl rfl rfl ⟨hsz, by simpa using hcap, hmax, by simpa using hmx, ?_, .inr ⟨cs2, setRow_heap _ _ _ _ _ _ hb, by rw [hs2, hcs'], ?_⟩⟩ rfl
    · intro q hq
      rcases List.mem_or_eq_of_mem_set hq with hq | rfl
      · exact hrl q hq
      · rw [setAll_length]; exact hrr
    · intro i' x' j y hi hj
      rw [List.getElem?_set] at hi
      -- the values that were there
      have old : ∀ j y, rr[j]? = some y → ∃ u, cur.toList[row * sz + j]? = some u ∧ Cell1 E y u := fun j y hj => by
        obtain ⟨u, g1, g2⟩ := hc _ _ _ _ hrow hj; exact ⟨u, by rw [Array.getElem?_toList]; exact g1, g2⟩
      have hcs2' : ∀ n : Nat, cs2[n]? = (setAll cur.toList (row * sz + off) (a.eval v).cells.toList)[n]? := fun n => by rw [← hcs2]; simp
      rw [setAll_eq _ _ _ (by simp [hvl]; omega)] at hcs2'
      by_cases hir : row = i'
      · subst hir
        simp only [if_true] at hi
        rw [if_pos hin] at hi
        cases hi
        have hrow2 : All2 (Cell1 E) rr ((cur.toList.drop (row * sz)).take sz) := All2.of_get (by rw [part_len (by simp; omega)]; exact hrr) fun k p q hp' hq => by
          obtain ⟨u, g1, g2⟩ := old k p hp'
          have := part_get hq
          rw [g1] at this; cases this; exact g2
        have h3 := hcv.setAll off hrow2
        obtain ⟨u, g1, g2⟩ := h3.get hj
        refine ⟨u, ?_, g2.ext ex⟩
        rw [hcs2']
        rw [setAll_eq _ _ _ (by rw [part_len (by simp; omega)]; simp [hvl]; omega)] at g1
        have hjs : j < sz := by have := (List.getElem?_eq_some_iff.1 hj).1; rw [setAll_length] at this; omega
        simp only [List.getElem?_append, List.length_append, List.length_take, List.length_drop, List.getElem?_take, List.getElem?_drop, Array.length_toList] at g1 ⊢
        rw [← g1]
        repeat' split
        all_goals first
          | rfl
          | omega
          | (congr 1; omega)
      · rw [if_neg hir] at hi
        obtain ⟨u, g1, g2⟩ := hc _ _ _ _ hi hj
        refine ⟨u, ?_, g2.ext ex⟩
        have hx' := hrl _ (List.mem_of_getElem? hi)
        have hjs : j < sz := by rw [← hx']; exact (List.getElem?_eq_some_iff.1 hj).1
        rw [hcs2', ← g1]
        have hne : i' * sz + j < row * sz ∨ row * sz + sz ≤ i' * sz + j := by
          rcases Nat.lt_or_gt_of_ne hir with hlt | hgt
          · right; have : row * sz + sz ≤ i' * sz := by rw [← Nat.succ_mul]; exact Nat.mul_le_mul_right _ hlt
            omega
          · left; have : i' * sz + sz ≤ row * sz := by rw [← Nat.succ_mul]; exact Nat.mul_le_mul_right _ hgt
            omega
        simp only [List.getElem?_append, List.length_append, List.length_take, List.length_drop, List.getElem?_take, List.getElem?_drop, Array.length_toList, Array.getElem?_toList, hvl]
        repeat' split
        all_goals first
          | rfl
          | omega
          | (congr 1; omega)
end
end Go.Proofs.Am
