/- append. -/
import Derived.Test.YtpkfagbllafehaaAmH
namespace Go.Proofs.Am
open Go Go.RowKit
set_option linter.unusedVariables false
set_option linter.unusedSimpArgs false

theorem setCells_heap {g : Nat} {t : TypeId} : ∀ (vs : List Value) (o : Nat) (cur : Array Value) (w : World), w.heap[g]? = some (.cells cur t (0, 0)) → o + vs.length ≤ cur.size →
    (w.setCells g o vs).heap[g]? = some (.cells (setAll cur.toList o vs).toArray t (0, 0))
  | [], o, cur, w, h, _ => by simpa [World.setCells, setAll] using h
  | v :: vs, o, cur, w, h, hl => by
    simp only [List.length_cons] at hl
    unfold World.setCells
    have := setCells_heap vs (o + 1) (cur.setIfInBounds o v) (w.setCell ⟨g, o, none⟩ v) (heap_setCell_same w g o cur t v h) (by simp; omega)
    rw [this]
    simp [setAll]
theorem setCells_rest {g : Nat} : ∀ (vs : List Value) (o : Nat) (w : World), (∀ b, b ≠ g → (w.setCells g o vs).heap[b]? = w.heap[b]?) ∧ (w.setCells g o vs).os = w.os ∧ (w.setCells g o vs).tape = w.tape ∧ (w.setCells g o vs).output = w.output ∧ (w.setCells g o vs).heap.size = w.heap.size
  | [], o, w => ⟨fun _ _ => rfl, rfl, rfl, rfl, rfl⟩
  | v :: vs, o, w => by
    unfold World.setCells
    obtain ⟨h1, h2, h3, h4, h5⟩ := setCells_rest (g := g) vs (o + 1) (w.setCell ⟨g, o, none⟩ v)
    exact ⟨fun b hb => (h1 b hb).trans (heap_setCell_other w ⟨g, o, none⟩ b v hb), h2, h3, h4, h5.trans (by simp [World.setCell])⟩

/-- Rows that are written into an array. -/
theorem arr_put {R : AV → Value → Prop} {sz n cap : Nat} {rows rows2 : List (List AV)} {cur : Array Value} {news : List Value} (hl : ∀ x, x ∈ rows → x.length = sz) (hl2 : ∀ x, x ∈ rows2 → x.length = sz) (hcs : cur.size = cap * sz) (hs : 0 < sz)
    (h : ∀ (i : Nat) (x : List AV) (j : Nat) (y : AV), rows[i]? = some x → x[j]? = some y → ∃ u, cur[i * sz + j]? = some u ∧ R y u) (hn : n ≤ rows.length) (hroom : n + rows2.length ≤ cap) (hnew : All2 R rows2.flatten news) :
    (∀ x, x ∈ rows.take n ++ rows2 ++ rows.drop (n + rows2.length) → x.length = sz) ∧
    ∀ (i : Nat) (x : List AV) (j : Nat) (y : AV), (rows.take n ++ rows2 ++ rows.drop (n + rows2.length))[i]? = some x → x[j]? = some y → ∃ u, (setAll cur.toList (n * sz) news)[i * sz + j]? = some u ∧ R y u := by
  have hnl : news.length = rows2.length * sz := by rw [← hnew.length, flat_len _ hl2]
  have hfit : n * sz + news.length ≤ cur.toList.length := by
    have h0 : cur.toList.length = cap * sz := by simp [hcs]
    rw [hnl, ← Nat.add_mul, h0]; exact Nat.mul_le_mul_right _ hroom
  refine ⟨fun x hx => ?_, fun i x j y hi hj => ?_⟩
  · rw [List.append_assoc] at hx
    rcases List.mem_append.1 hx with hx | hx
    · exact hl x (List.mem_of_mem_take hx)
    · rcases List.mem_append.1 hx with hx | hx
      · exact hl2 x hx
      · exact hl x (List.mem_of_mem_drop hx)
  · rw [setAll_eq _ _ _ hfit]
    have hxl : x.length = sz := by
      have hx := List.mem_of_getElem? hi
      rw [List.append_assoc] at hx
      rcases List.mem_append.1 hx with hx | hx
      · exact hl x (List.mem_of_mem_take hx)
      · rcases List.mem_append.1 hx with hx | hx
        · exact hl2 x hx
        · exact hl x (List.mem_of_mem_drop hx)
    have hjs : j < sz := by rw [← hxl]; exact (List.getElem?_eq_some_iff.1 hj).1
    have htl : (rows.take n).length = n := by rw [List.length_take]; omega
    have hclen : (cur.toList.take (n * sz)).length = n * sz := by rw [List.length_take]; omega
    rw [List.append_assoc, List.getElem?_append, htl] at hi
    rw [List.append_assoc, List.getElem?_append, hclen]
    split at hi
    · rename_i hin
      rw [if_pos (row_lt hin hjs), List.getElem?_take, if_pos (row_lt hin hjs), Array.getElem?_toList]
      rw [List.getElem?_take, if_pos hin] at hi
      exact h i x j y hi hj
    · rename_i hin
      have hge : n * sz ≤ i * sz := Nat.mul_le_mul_right _ (by omega)
      rw [if_neg (by omega)]
      rw [List.getElem?_append] at hi
      rw [List.getElem?_append, hnl]
      split at hi
      · rename_i hin2
        have e : i * sz + j - n * sz = (i - n) * sz + j := by rw [Nat.sub_mul]; omega
        rw [e, if_pos (row_lt hin2 hjs)]
        obtain ⟨d1, d2⟩ := div_row (i := i - n) hjs
        have hf : rows2.flatten[(i - n) * sz + j]? = some y := by rw [flat_get hs _ _ hl2, d1, d2, hi]; simpa using hj
        exact hnew.get hf
      · rename_i hin2
        have e : i * sz + j - n * sz = (i - n) * sz + j := by rw [Nat.sub_mul]; omega
        have hge2 : rows2.length * sz ≤ (i - n) * sz := Nat.mul_le_mul_right _ (by omega)
        rw [e, if_neg (by omega), List.getElem?_drop, Array.getElem?_toList]
        rw [List.getElem?_drop] at hi
        have e2 : n + rows2.length + (i - n - rows2.length) = i := by omega
        rw [e2] at hi
        have e3 : n * sz + rows2.length * sz + ((i - n) * sz + j - rows2.length * sz) = i * sz + j := by
          have : (i - n) * sz = i * sz - n * sz := Nat.sub_mul _ _ _
          omega
        rw [e3]
        exact h i x j y hi hj

section
variable {P : Program} {o : Oper} {ρ : Operand → AV} {H : Nat → Option Blk} {F : Nat → Prop}

/-- An own array that goes on under a new name. -/
theorem post_move {E : Env} {id m : Nat} {k k' : Blk} {r : Root} {w' : World} {x : AV} {v : Value} (hh : HeapOk E H) (hb : ∀ b, E.ok b → b < E.w.heap.size) (hm : F m) (hem : E.e m = none) (hH : H id = some k) (he : E.e id = some r)
    (hw : ∀ b, (0 < r.cap → b ≠ r.b) → w'.heap[b]? = E.w.heap[b]?) (hsz : w'.heap.size = E.w.heap.size) (h2 : w'.os = E.w.os) (h3 : w'.tape = E.w.tape) (h4 : w'.output = E.w.output)
    (hk : BlkRep (E.new m r w') r k') (hx : Rep (E.new m r w') x v) : Post E H F (E.new m r w') (single m k') x v := by
  obtain ⟨r', he', _, hr⟩ := hh.live _ _ hH
  rw [he] at he'; cases he'
  have ex : Ext E (E.new m r w') := Env.new_ext hem fun b hob => hw b fun hc hbr => (hr hc).2 (hbr ▸ hob)
  refine ⟨ex.e, fun id' h h' => ?_, ex.ok, fun b h => .inl h, fun b h => by show b < w'.heap.size; rw [hsz]; exact hb b h, hx, ⟨fun id' k'' h => ?_, fun id1 id2 k1 k2 r1 r2 g1 g2 _ _ _ _ _ => ?_⟩, fun id' k'' r' h he' hc' => ?_, ⟨h2, h3, h4, by show _ ≤ w'.heap.size; omega, fun b _ ho => hw b fun hc hbr => ho ⟨id, k, r, hH, he, hc, hbr.symm⟩⟩⟩
  · simp only [Env.new] at h'
    split at h'
    · subst_vars; exact hm
    · exact (h' h).elim
  · simp only [single] at h
    split at h
    · rename_i hid; subst hid; cases h
      exact ⟨r, by simp [Env.new], hk, fun hc => ⟨by show _ < w'.heap.size; rw [hsz]; exact (hr hc).1, (hr hc).2⟩⟩
    · cases h
  · simp only [single] at g1 g2
    split at g1
    · split at g2
      · subst_vars; rfl
      · cases g2
    · cases g1
  · simp only [single] at h
    split at h
    · rename_i hid; subst hid
      simp only [Env.new, if_true, Option.some.injEq] at he'
      subst he'
      exact .inr ⟨id, k, r, hH, he, hc', rfl⟩
    · cases h

/-- A step with what it reads beside what it turns. -/
theorem Post.widen {E E' : Env} {H' : Nat → Option Blk} {D : Nat → Bool} {x : AV} {v : Value} (hh : HeapOk E H) (hok : ∀ b, E.ok b → b < E.w.heap.size) (p : Post E (cut D H) F E' (cut D H') x v) : Post E H F E' (fun id => bif D id then H' id else H id) x v := by
  have hsub : ∀ b, Owns E (cut D H) b → Owns E H b := fun b ⟨id, k, r, q1, q2, q3, q4⟩ => ⟨id, k, r, (cut_some q1).2, q2, q3, q4⟩
  refine ⟨p.e, p.new, p.ok, fun b hb => (p.okn b hb).imp_right (·.imp_right (hsub b)), p.okb, p.rep, ?_, fun id k r h he hc => ?_, p.kp.imp hsub⟩
  · have := HeapOk.frame (D := D) hh hok p
    exact this.sub fun id k h => by cases hd : D id <;> simp [hd, cut] at h ⊢ <;> exact h
  · cases hd : D id <;> simp [hd] at h
    · obtain ⟨r0, q1, _⟩ := hh.live id k h
      have := p.e _ _ q1; rw [he] at this; cases this
      exact .inr ⟨id, k, r, h, q1, hc, rfl⟩
    · rcases p.blk id k r (by simp [cut, hd, h]) he hc with q | q
      · exact .inl q
      · exact .inr (hsub _ q)
theorem Post.sub' {E : Env} {E' : Env} {H' H'' : Nat → Option Blk} {x : AV} {v : Value} (p : Post E H F E' H' x v) (h : ∀ id k, H'' id = some k → H' id = some k) : Post E H F E' H'' x v :=
  ⟨p.e, p.new, p.ok, p.okn, p.okb, p.rep, p.heap.sub h, fun id k r h1 h2 h3 => p.blk id k r (h _ _ h1) h2 h3, p.kp⟩
theorem Post.moved {E E' : Env} {id m : Nat} {k : Blk} {x : AV} {v : Value} (hh : HeapOk E H) (hok : ∀ b, E.ok b → b < E.w.heap.size) (p : ∀ H1, HeapOk E H1 → H1 id = H id → Post E H1 F E' (single m k) x v) :
    Post E H F E' (fun j => if j = m then some k else if j = id then none else H j) x v := by
  let D : Nat → Bool := fun j => Nat.beq j m || Nat.beq j id
  have q := p (cut D H) (hh.sub fun _ _ h => (cut_some h).2) (by simp [cut, D, Nat.beq_refl])
  have := Post.widen (H' := single m k) hh hok (q.sub' fun j b hj => (cut_some hj).2)
  refine this.sub' fun j b hj => ?_
  by_cases h1 : j = m
  · subst h1; simp only [if_true] at hj; simp [D, Nat.beq_refl, single, hj]
  · by_cases h2 : j = id
    · subst h2; simp [h1] at hj
    · simp only [h1, h2, if_false] at hj
      have b1 : Nat.beq j m = false := by cases hq : Nat.beq j m; rfl; exact absurd (Nat.eq_of_beq_eq_true hq) h1
      have b2 : Nat.beq j id = false := by cases hq : Nat.beq j id; rfl; exact absurd (Nat.eq_of_beq_eq_true hq) h2
      simp [D, b1, b2, hj]
theorem Post.stored {E E' : Env} {id : Nat} {k : Blk} {x : AV} {v : Value} (hh : HeapOk E H) (hok : ∀ b, E.ok b → b < E.w.heap.size) (p : ∀ H1, HeapOk E H1 → H1 id = H id → Post E H1 F E' (single id k) x v) :
    Post E H F E' (fun j => if j = id then some k else H j) x v :=
  (Post.moved (id := id) (m := id) hh hok p).sub' fun j b hj => by
    by_cases h : j = id
    · simpa [h] using hj
    · simpa [h] using hj

theorem run_append_empty {t tx ty e : Nat} {te : TI} {i2 : TypeInfo} {z2 : Value} {d2 : TypeDesc} (ht : P.underlying t = some (.slice e)) (tfe : TF P e te i2 z2 d2) (w : World) (a : Option Addr) (n c : Nat) (x : Value) (hs : Src P i2.size tx x 0 [] w) (hnc : n ≤ c) :
    (Builtin.append_ #[t, tx] ty #[.slice a n c, x]).run P w = .ok (.slice a n c) w := by
  have hc := hs.cells
  cases a <;> rcases hs.kind with ⟨e', hk⟩ | hk <;> simp [Builtin.append_, run_underlying ht, run_underlying hk, tfe.run_size, sizeOf, typeInfo, tfe.info, hs.len, hnc, hc, storeCells]

theorem grown_arr {E : Env} {e : Nat} {te : TI} {i2 : TypeInfo} {z2 : Value} {d2 : TypeDesc} (tfe : TF P e te i2 z2 d2) (hs : 0 < te.size) {rows : List (List AV)} {olds : List Value} (hl : ∀ x, x ∈ rows → x.length = te.size) (h : All2 (Cell1 E) rows.flatten olds) {n old : Nat} (hn : rows.length = n) (hn47 : n ≤ 140737488355328)
    {m : Nat} (hok : ∀ b, E.ok b → b < E.w.heap.size) (hm : F m) (hem : E.e m = none) {H : Nat → Option Blk} (hold : old < n) :
    Post E H F (E.new m ⟨E.w.heap.size, grownCap E.w n old e, te.size⟩ (E.w.drew.alloc (.cells (olds.toArray ++ Builtin.zeroCells z2.cells (grownCap E.w n old e - n)) e))) (single m (.arr e te.size rows)) (.sl m 0 n) (.slice (some ⟨E.w.heap.size, 0, none⟩) n (grownCap E.w n old e)) := by
  have hge := grownCap_ge E.w n old e
  have hmx : grownCap E.w n old e ≤ maxLen := grownCap_le_maxLen E.w n old e (by unfold maxLen; omega)
  have hol : olds.length = n * te.size := by rw [← h.length, flat_len _ hl, hn]
  have hzs : z2.cells.size = te.size := by rw [tfe.size, tfe.zs]
  refine post_new hok hm hem (w' := E.w.drew.alloc _) rfl rfl rfl rfl rfl ⟨rfl, by rw [hn]; exact hge, hmx, by omega, hl, .inr ⟨_, heap_alloc_new E.w.drew _, ?_, fun i x j y hi hj => ?_⟩⟩ ⟨_, some ⟨E.w.heap.size, 0, none⟩, by simp [Env.new]; rfl, by simpa using hge, fun _ => by simp, by simp⟩
  · simp only [Array.size_append, List.size_toArray, size_zeroCells, hol, hzs]
    rw [← Nat.add_mul]; congr 1; omega
  · have hin : i < n := by rw [← hn]; exact (List.getElem?_eq_some_iff.1 hi).1
    have hxl := hl x (List.mem_of_getElem? hi)
    have hjs : j < te.size := by rw [← hxl]; exact (List.getElem?_eq_some_iff.1 hj).1
    obtain ⟨d1, d2'⟩ := div_row (i := i) hjs
    have hf : rows.flatten[i * te.size + j]? = some y := by rw [flat_get hs _ _ hl, d1, d2', hi]; simpa using hj
    obtain ⟨u, g1, g2⟩ := h.get hf
    refine ⟨u, ?_, g2.ext (Env.new_ext hem fun b hb => heap_alloc_old E.w.drew _ b (hok b hb))⟩
    rw [Array.getElem?_append_left (by rw [List.size_toArray, hol]; exact row_lt hin hjs)]
    simpa using g1

theorem exec_append {s x : Operand} {t u : TypeId} (ho : o.op = .call { callee := .builtin .append, args := #[s, x], argTypes := #[t, u] }) (a : Act) (w : World) (v : Value) (w' : World)
    (h : (Builtin.append_ #[t, u] o.type #[a.eval s, a.eval x]).run P w = .ok v w') : (execOp a.eval o).run P w = .ok (.value v) w' :=
  exec_builtin ho a w v w' fun cs => by simp [Go.builtin, h]

theorem sem_append {tab : List (Nat × TI)} (hT : TabOk P tab) {t e id m n : Nat} {ti te : TI} {s x : Operand} {rows rows2 : List (List AV)} (ho : o.op = .call { callee := .builtin .append, args := #[s, x], argTypes := #[t, t] }) (hl : look tab t = some ti) (ht : ti.ty = .slice e) (he : look tab e = some te) (hs : 0 < te.size) (hby : 0 < te.bytes)
    (hsx : ρ s = .sl id 0 n) (hH : H id = some (.arr e te.size rows)) (hn : rows.length = n) (hx : srcA H (ρ x) te.size = some rows2) (hb47 : (n + rows2.length) * te.bytes ≤ 140737488355328) (hm : F m) :
    OpSem P o ρ H F (fun j => if j = m then some (.arr e te.size (rows ++ rows2)) else if j = id then none else H j) (.sl m 0 (n + rows2.length)) := by
  refine OpSem.of_run fun a E hr hh hf hok => ?_
  obtain ⟨i, z, d, tf⟩ := hT.get hl
  obtain ⟨i2, z2, d2, tfe⟩ := hT.get he
  have hd := tyOf_slice (d := d) (by rw [← tf.ty, ht]); subst hd
  have e1 := hr s (by simp [ho, Op.operands, Call.operands])
  have e2 := hr x (by simp [ho, Op.operands, Call.operands])
  rw [hsx] at e1
  obtain ⟨A2, c2, news, hv2, hsrc, hnew, hl2, h47⟩ := src_of hh tf.und hs tfe.size.symm hx e2
  obtain ⟨r, A, hee, g1, g2, hv⟩ := e1
  obtain ⟨r', he', hk, hown⟩ := hh.live _ _ hH
  rw [hee] at he'; cases he'
  obtain ⟨hsz, hcap, hmax, hmx, hrl, hc⟩ := hk
  have hem := hf m hm
  have hnb : n + rows2.length ≤ (n + rows2.length) * te.bytes := Nat.le_mul_of_pos_right _ hby
  rw [Nat.sub_zero] at hv
  by_cases hroom : n + rows2.length ≤ r.cap
  · by_cases hempty : rows2.length = 0
    · -- nothing is appended
      have h2 : rows2 = [] := List.eq_nil_of_length_eq_zero hempty
      subst h2
      have hn0 : news = [] := by cases hnew; rfl
      subst hn0
      have hrun := run_append_empty (P := P) (ty := o.type) tf.und tfe E.w A n r.cap (a.eval x) hsrc (by omega)
      refine ⟨.slice A n r.cap, E.new m r E.w, .inl (exec_append ho a E.w _ _ (by rw [hv]; exact hrun)), ?_⟩
      have ex : Ext E (E.new m r E.w) := Env.new_ext hem fun _ _ => rfl
      refine Post.moved hh hok fun H1 hh1 hid => ?_
      refine post_move hh1 hok hm hem (hid.trans hH) hee (fun _ _ => rfl) rfl rfl rfl rfl ?_ ⟨r, A, by simp [Env.new], by simpa using g1, g2, by simp⟩
      rw [List.append_nil]
      exact BlkRep.ext ex (fun _ => rfl) ⟨hsz, hcap, hmax, hmx, hrl, hc⟩
    · have hcp : 0 < r.cap := by omega
      have hA := g2 hcp
      rw [Nat.zero_mul] at hA
      subst hA
      rcases hc with hc | ⟨cur, hb, hcs, hc⟩
      · omega
      have hnl : news.length = rows2.length * te.size := by rw [← hnew.length, flat_len _ hl2]
      have hfit : n * te.size + news.length ≤ cur.size := by rw [hnl, ← Nat.add_mul, hcs]; exact Nat.mul_le_mul_right _ hroom
      have hrun := run_append_room_src (P := P) E.w t t o.type e i2 tf.und tfe.info r.b 0 n r.cap (a.eval x) rows2.length news hsrc hroom
        (fun j hj => by rw [Nat.zero_add, ← tfe.size, cell_of_row _ _ _ _ _ _ hb]; simp; omega)
        (fun j hj => frozen_of_row _ _ _ _ _ hb)
      rw [Nat.zero_add, ← tfe.size] at hrun
      obtain ⟨q1, q2, q3, q4, q5⟩ := setCells_rest (g := r.b) news (n * te.size) E.w
      refine ⟨_, E.new m r (E.w.setCells r.b (n * te.size) news), .inl (exec_append ho a E.w _ _ (by rw [hv]; exact hrun)), ?_⟩
      have ex : Ext E (E.new m r (E.w.setCells r.b (n * te.size) news)) := Env.new_ext hem fun b hb' => q1 b fun hbr => (hown hcp).2 (hbr ▸ hb')
      obtain ⟨p1, p2⟩ := arr_put (R := Cell1 E) (n := n) hrl hl2 hcs hs hc (by omega) hroom hnew
      have hrows : rows.take n ++ rows2 ++ rows.drop (n + rows2.length) = rows ++ rows2 := by
        rw [List.take_of_length_le (by omega), List.drop_of_length_le (by omega), List.append_nil]
      rw [hrows] at p1 p2
      refine Post.moved hh hok fun H1 hh1 hid => ?_
      refine post_move hh1 hok hm hem (hid.trans hH) hee (fun b hb' => q1 b (hb' hcp)) q5 q2 q3 q4 ⟨hsz, by simp [hn]; exact hroom, hmax, by simp [hn]; omega, p1, .inr ⟨_, setCells_heap news _ cur E.w hb hfit, by simp [setAll_length, hcs], fun i x j y hi hj => ?_⟩⟩ ⟨r, some ⟨r.b, 0, none⟩, by simp [Env.new], by simpa using hroom, fun _ => by simp, by simp⟩
      obtain ⟨u, u1, u2⟩ := p2 i x j y hi hj
      exact ⟨u, by simpa using u1, u2.ext ex⟩
  · -- a new array
    have hsl : srcA H (.sl id 0 n) te.size = some rows := by
      simp only [srcA, hH, Nat.beq_refl, Bool.true_and]
      rw [show Nat.ble (0 + n) rows.length = true from Nat.ble_eq_true_of_le (by omega)]
      simp only [cond_true, List.drop_zero]
      rw [List.take_of_length_le (by omega)]
    have e1' : Rep E (.sl id 0 n) (.slice A n r.cap) := ⟨r, A, hee, g1, g2, by simp⟩
    obtain ⟨A3, c3, olds, hv3, hsrc3, hold3, _, _⟩ := src_of hh tf.und hs tfe.size.symm hsl e1'
    have hrun := run_append_grow_src (P := P) E.w t t o.type e i2 z2 tf.und tfe.info tfe.zero A n r.cap olds (by have := hsrc3.cellsD; rw [hn] at this; exact this) (a.eval x) rows2.length news hsrc (by omega) (by omega) (by
      rw [← tfe.bytes]; exact growslice_fits (by omega) hb47)
    refine ⟨_, E.new m ⟨E.w.heap.size, grownCap E.w (n + rows2.length) r.cap e, te.size⟩ _, .inl (exec_append ho a E.w _ _ (by rw [hv]; exact hrun)), ?_⟩
    refine Post.moved hh hok fun H1 hh1 hid => ?_
    exact grown_arr tfe hs (old := r.cap) (n := n + rows2.length) (rows := rows ++ rows2) (olds := olds ++ news) (fun x hx => by rcases List.mem_append.1 hx with hx | hx; exact hrl x hx; exact hl2 x hx) (by rw [List.flatten_append]; exact hold3.append hnew) (by simp [hn]) (by omega) hok hm hem (by omega)

theorem sem_append_nil {tab : List (Nat × TI)} (hT : TabOk P tab) {t e m : Nat} {ti te : TI} {s x : Operand} {rows2 : List (List AV)} (ho : o.op = .call { callee := .builtin .append, args := #[s, x], argTypes := #[t, t] }) (hl : look tab t = some ti) (ht : ti.ty = .slice e) (he : look tab e = some te) (hs : 0 < te.size) (hby : 0 < te.bytes)
    (hsx : ρ s = .nil) (hx : srcA H (ρ x) te.size = some rows2) (hb47 : rows2.length * te.bytes ≤ 140737488355328) (hm : F m) :
    OpSem P o ρ H F (fun j => if j = m then some (.arr e te.size rows2) else H j) (.sl m 0 rows2.length) := by
  refine OpSem.of_run fun a E hr hh hf hok => ?_
  obtain ⟨i, z, d, tf⟩ := hT.get hl
  obtain ⟨i2, z2, d2, tfe⟩ := hT.get he
  have hd := tyOf_slice (d := d) (by rw [← tf.ty, ht]); subst hd
  have e1 := hr s (by simp [ho, Op.operands, Call.operands])
  have e2 := hr x (by simp [ho, Op.operands, Call.operands])
  rw [hsx] at e1
  have hv : a.eval s = .slice none 0 0 := e1
  obtain ⟨A2, c2, news, hv2, hsrc, hnew, hl2, h47⟩ := src_of hh tf.und hs tfe.size.symm hx e2
  have hem := hf m hm
  have hnb : rows2.length ≤ rows2.length * te.bytes := Nat.le_mul_of_pos_right _ hby
  by_cases hempty : rows2.length = 0
  · have h2 : rows2 = [] := List.eq_nil_of_length_eq_zero hempty
    subst h2
    have hn0 : news = [] := by cases hnew; rfl
    subst hn0
    have hrun := run_append_empty (P := P) (ty := o.type) tf.und tfe E.w none 0 0 (a.eval x) hsrc (by omega)
    let r : Root := ⟨0, 0, te.size⟩
    have ex : Ext E (E.new m r E.w) := Env.new_ext hem fun _ _ => rfl
    refine ⟨.slice none 0 0, E.new m r E.w, .inl (exec_append ho a E.w _ _ (by rw [hv]; exact hrun)), ?_⟩
    refine Post.stored hh hok fun H1 hh1 hid => ?_
    refine ⟨ex.e, fun id h h' => ?_, ex.ok, fun b h => .inl h, hok, ⟨r, none, by simp [Env.new], by simp [r], by simp [r], by simp [r]⟩, ⟨fun id' k'' h => ?_, fun id1 id2 k1 k2 r1 r2 g1 g2 _ _ _ _ _ => ?_⟩, fun id' k'' r' h he' hc' => ?_, Kp.refl _ _⟩
    · simp only [Env.new] at h'
      split at h'
      · subst_vars; exact hm
      · exact (h' h).elim
    · simp only [single] at h
      split at h
      · rename_i hid; subst hid; cases h
        exact ⟨r, by simp [Env.new], ⟨rfl, by simp, by simp [r], by simp, (fun _ h => by cases h), .inl rfl⟩, fun hc => by simp [r] at hc⟩
      · cases h
    · simp only [single] at g1 g2
      split at g1
      · split at g2
        · subst_vars; rfl
        · cases g2
      · cases g1
    · simp only [single] at h
      split at h
      · rename_i hid; subst hid
        simp only [Env.new, if_true, Option.some.injEq] at he'
        subst he'; simp [r] at hc'
      · cases h
  · have hrun := run_append_grow_src (P := P) E.w t t o.type e i2 z2 tf.und tfe.info tfe.zero none 0 0 [] (by simp [Builtin.firstCells]) (a.eval x) rows2.length news hsrc (by omega) (by omega) (by
      rw [← tfe.bytes]; exact growslice_fits (by omega) (by rw [Nat.zero_add]; exact hb47))
    rw [List.nil_append, Nat.zero_add] at hrun
    refine ⟨_, E.new m ⟨E.w.heap.size, grownCap E.w rows2.length 0 e, te.size⟩ _, .inl (exec_append ho a E.w _ _ (by rw [hv]; exact hrun)), ?_⟩
    refine Post.stored hh hok fun H1 hh1 hid => ?_
    exact grown_arr tfe hs (old := 0) hl2 hnew rfl (by omega) hok hm hem (by omega)

/-- Over what is known to be there. -/
theorem sem_append_over {tab : List (Nat × TI)} (hT : TabOk P tab) {t e id n : Nat} {ti te : TI} {s x : Operand} {rows rows2 : List (List AV)} (ho : o.op = .call { callee := .builtin .append, args := #[s, x], argTypes := #[t, t] }) (hl : look tab t = some ti) (ht : ti.ty = .slice e) (he : look tab e = some te) (hs : 0 < te.size)
    (hsx : ρ s = .sl id 0 n) (hH : H id = some (.arr e te.size rows)) (hx : srcA H (ρ x) te.size = some rows2) (hn : n + rows2.length ≤ rows.length) (hpos : 0 < rows.length) :
    OpSem P o ρ H F (fun j => if j = id then some (.arr e te.size (rows.take n ++ rows2 ++ rows.drop (n + rows2.length))) else H j) (.sl id 0 (n + rows2.length)) := by
  refine OpSem.of_run fun a E hr hh hf hok => ?_
  obtain ⟨i, z, d, tf⟩ := hT.get hl
  obtain ⟨i2, z2, d2, tfe⟩ := hT.get he
  have hd := tyOf_slice (d := d) (by rw [← tf.ty, ht]); subst hd
  have e1 := hr s (by simp [ho, Op.operands, Call.operands])
  have e2 := hr x (by simp [ho, Op.operands, Call.operands])
  rw [hsx] at e1
  obtain ⟨A2, c2, news, hv2, hsrc, hnew, hl2, h47⟩ := src_of hh tf.und hs tfe.size.symm hx e2
  obtain ⟨r, A, hee, g1, g2, hv⟩ := e1
  obtain ⟨r', he', hk, hown⟩ := hh.live _ _ hH
  rw [hee] at he'; cases he'
  obtain ⟨hsz, hcap, hmax, hmx, hrl, hc⟩ := hk
  rw [Nat.sub_zero] at hv
  have hcp : 0 < r.cap := by omega
  have hA := g2 hcp
  rw [Nat.zero_mul] at hA
  subst hA
  rcases hc with hc | ⟨cur, hb, hcs, hc⟩
  · omega
  have hroom : n + rows2.length ≤ r.cap := by omega
  have hnl : news.length = rows2.length * te.size := by rw [← hnew.length, flat_len _ hl2]
  have hfit : n * te.size + news.length ≤ cur.size := by rw [hnl, ← Nat.add_mul, hcs]; exact Nat.mul_le_mul_right _ hroom
  have hrun := run_append_room_src (P := P) E.w t t o.type e i2 tf.und tfe.info r.b 0 n r.cap (a.eval x) rows2.length news hsrc hroom
    (fun j hj => by rw [Nat.zero_add, ← tfe.size, cell_of_row _ _ _ _ _ _ hb]; simp; omega)
    (fun j hj => frozen_of_row _ _ _ _ _ hb)
  rw [Nat.zero_add, ← tfe.size] at hrun
  obtain ⟨q1, q2, q3, q4, q5⟩ := setCells_rest (g := r.b) news (n * te.size) E.w
  have ex : Ext E ⟨E.e, E.ok, E.w.setCells r.b (n * te.size) news⟩ := ⟨fun _ _ h => h, fun _ h => h, fun b hb' => q1 b fun hbr => (hown hcp).2 (hbr ▸ hb')⟩
  obtain ⟨p1, p2⟩ := arr_put (R := Cell1 E) (n := n) hrl hl2 hcs hs hc (by omega) hroom hnew
  refine ⟨_, ⟨E.e, E.ok, E.w.setCells r.b (n * te.size) news⟩, .inl (exec_append ho a E.w _ _ (by rw [hv]; exact hrun)), ?_⟩
  have hlen : (rows.take n ++ rows2 ++ rows.drop (n + rows2.length)).length = rows.length := by simp; omega
  refine Post.stored hh hok fun H1 hh1 hid => ?_
  refine post_store hh1 hok (hid.trans hH) hee hcp q1 q5 q2 q3 q4 ⟨hsz, by rw [hlen]; exact hcap, hmax, by rw [hlen]; exact hmx, p1, .inr ⟨_, setCells_heap news _ cur E.w hb hfit, by simp [setAll_length, hcs], fun i x j y hi hj => ?_⟩⟩ ⟨r, some ⟨r.b, 0, none⟩, hee, by simpa using hroom, fun _ => by simp, by simp⟩
  obtain ⟨u, u1, u2⟩ := p2 i x j y hi hj
  exact ⟨u, by simpa using u1, u2.ext ex⟩
end
end Go.Proofs.Am
