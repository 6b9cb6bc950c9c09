/- Structs that are compared; lists that are cleared. -/
import Derived.Test.YtpkfagbllafehaaAmI
namespace Go.Proofs.Am
open Go Go.RowKit
set_option linter.unusedVariables false
set_option linter.unusedSimpArgs false

def eqFs (f : Nat → List AV → List AV → Option Bool) (tab : List (Nat × TI)) : List (Nat × Nat) → List AV → List AV → Option Bool
  | [], _, _ => some true
  | (off, t) :: fs, xs, ys => match look tab t with
    | none => none
    | some ti => bif Nat.ble (off + ti.size) xs.length && Nat.ble (off + ti.size) ys.length then
        (match f t ((xs.drop off).take ti.size) ((ys.drop off).take ti.size) with
          | none => none
          | some a => match eqFs f tab fs xs ys with
            | none => none
            | some b => some (a && b))
      else none
def sameKind (a b : IntKind) : Bool := match a, b with
  | .i8, .i8 => true
  | .i16, .i16 => true
  | .i32, .i32 => true
  | .i64, .i64 => true
  | .u8, .u8 => true
  | .u16, .u16 => true
  | .u32, .u32 => true
  | .u64, .u64 => true
  | _, _ => false
theorem sameKind_eq {a b : IntKind} (h : sameKind a b = true) : a = b := by cases a <;> cases b <;> first | rfl | cases h
def eqC (tab : List (Nat × TI)) : Nat → Nat → List AV → List AV → Option Bool
  | 0, _, _, _ => none
  | d + 1, t, xs, ys => match look tab t with
    | none => none
    | some ti => match ti.ty with
      | .int _ => match xs, ys with
        | [.p (.sc (.int k a))], [.p (.sc (.int j b))] => bif sameKind k j then some (a == b) else none
        | _, _ => none
      | .bool => match xs, ys with
        | [.p (.sc (.bool a))], [.p (.sc (.bool b))] => some (a == b)
        | _, _ => none
      | .string => match xs, ys with
        | [.p (.sc (.string a))], [.p (.sc (.string b))] => some (a.toList == b.toList)
        | _, _ => none
      | .struct fs => bif ti.eqok then eqFs (eqC tab d) tab fs xs ys else none
      | _ => none

section
variable {P : Program}
theorem eqf_cons' {d : Nat} {xs ys : Array Value} {f : Field} {fs : List Field} {a b : Value} {r s : Bool} {w : World} (hn : (f.name == "_") = false) (ha : (part f.type xs f.offset).run P w = .ok a w) (hb : (part f.type ys f.offset).run P w = .ok b w) (he : (Op.equalIn d f.type a b).run P w = .ok r w) (hr : (Op.eqFields d xs ys fs).run P w = .ok s w) :
    (Op.eqFields d xs ys (f :: fs)).run P w = .ok (r && s) w := by
  have hn' : f.name ≠ "_" := by simpa using hn
  rw [Op.eqFields]
  simp only [if_pos hn', Sem.run_bind, ha, hb, he, Result.andThen_ok]
  cases r
  · simp
  · simpa using hr

theorem run_part {t : Nat} {ti : TI} {i : TypeInfo} {z : Value} {d : TypeDesc} (h : TF P t ti i z d) (h1 : ti.agg = false → ti.size = 1) (vs : List Value) (off : Nat) (hl : off + ti.size ≤ vs.length) (w : World) : (part t vs.toArray off).run P w = .ok (valV ti.agg ((vs.drop off).take ti.size)) w := by
  simp only [part, Sem.run_bind, h.run_agg w, Result.andThen_ok]
  cases hg : ti.agg
  · have hlen : ((vs.drop off).take ti.size).length = 1 := by rw [part_len hl, h1 hg]
    obtain ⟨u, hu⟩ : ∃ u, (vs.drop off).take ti.size = [u] := by
      match hq : (vs.drop off).take ti.size, hlen with
      | [u], _ => exact ⟨u, rfl⟩
    have : vs[off]? = some u := by
      have := part_get (l := vs) (o := off) (n := ti.size) (j := 0) (x := u) (by rw [hu]; rfl)
      simpa using this
    simp [this, hu, valV]
  · simp [h.run_size w, valV]

def oneB (tab : List (Nat × TI)) : Bool := tab.all fun p => p.2.agg || Nat.beq p.2.size 1
theorem oneB_get {tab : List (Nat × TI)} (h : oneB tab = true) : ∀ {t : Nat} {ti : TI}, look tab t = some ti → ti.agg = false → ti.size = 1 := by
  induction tab with
  | nil => intro t ti hl; simp [look] at hl
  | cons p l ih =>
    intro t ti hl hg
    simp only [oneB, List.all_cons, Bool.and_eq_true] at h
    unfold look at hl
    cases hb : Nat.beq p.1 t
    · rw [hb] at hl; exact ih h.2 hl hg
    · rw [hb] at hl
      simp only [cond_true, Option.some.injEq] at hl
      subst hl
      rw [hg] at h
      simpa using h.1

theorem eqC_run {tab : List (Nat × TI)} (hT : TabOk P tab) (h1 : oneB tab = true) (E : Env) : ∀ (d : Nat) (t : Nat) (xs ys : List AV) (r : Bool), eqC tab d t xs ys = some r → ∀ (vs us : List Value), All2 (Cell1 E) xs vs → All2 (Cell1 E) ys us →
    ∀ (D : Nat), d ≤ D → ∃ ti, look tab t = some ti ∧ (Op.equalIn D t (valV ti.agg vs) (valV ti.agg us)).run P E.w = .ok r E.w := by
  intro d
  induction d with
  | zero => intro t xs ys r h; simp [eqC] at h
  | succ d ih =>
    intro t xs ys r h vs us hx hy D hD
    obtain ⟨D, rfl⟩ : ∃ q, D = q + 1 := ⟨D - 1, by omega⟩
    unfold eqC at h
    cases hl : look tab t with
    | none => rw [hl] at h; cases h
    | some ti =>
      rw [hl] at h
      obtain ⟨i, z, dd, tf⟩ := hT.get hl
      refine ⟨ti, rfl, ?_⟩
      simp only at h
      have hag : ti.agg = match ti.ty with
          | .struct _ => true
          | .array _ _ => true
          | _ => false := rfl
      cases ht : ti.ty <;> rw [ht] at h hag <;> simp only at h hag <;> try (cases h; done)
      case struct fs =>
        cases he : ti.eqok
        · rw [he] at h; cases h
        · rw [he] at h
          simp only [cond_true] at h
          obtain ⟨fa, rfl, hfs⟩ := tyOf_struct (by rw [← tf.ty, ht])
          have heq := tf.eqok
          rw [he] at heq
          simp only [eqokOf] at heq
          have heq := heq.symm
          rw [Bool.and_eq_true, Bool.and_eq_true] at heq
          obtain ⟨⟨e1, e2⟩, e3⟩ := heq
          rw [hag]
          have hf : P.fieldsOf t = fa := by simp [Program.fieldsOf, tf.und]
          show (Op.equalIn (D + 1) t (.agg vs.toArray) (.agg us.toArray)).run P E.w = .ok r E.w
          rw [run_equalIn_struct (P := P) E.w D t vs.toArray us.toArray (by rw [hf]; exact tf.und) (by simpa using e1), hf]
          have key : ∀ (fl : List Field) (r : Bool), (∀ f, f ∈ fl → (!(f.name == "_")) = true) → eqFs (eqC tab d) tab (fl.map fun f => (f.offset, f.type)) xs ys = some r → (Op.eqFields D vs.toArray us.toArray fl).run P E.w = .ok r E.w := by
            intro fl
            induction fl with
            | nil => intro r _ h; simp [eqFs] at h; subst h; simp [Op.eqFields]
            | cons f fl ihf =>
              intro r hn h
              simp only [List.map_cons, eqFs] at h
              cases hlf : look tab f.type with
              | none => rw [hlf] at h; cases h
              | some tif =>
                rw [hlf] at h
                simp only at h
                cases hb : (Nat.ble (f.offset + tif.size) xs.length && Nat.ble (f.offset + tif.size) ys.length)
                · rw [hb] at h; cases h
                · rw [hb] at h
                  simp only [cond_true] at h
                  rw [Bool.and_eq_true] at hb
                  have b1 := Nat.le_of_ble_eq_true hb.1
                  have b2 := Nat.le_of_ble_eq_true hb.2
                  cases hq : eqC tab d f.type ((xs.drop f.offset).take tif.size) ((ys.drop f.offset).take tif.size) with
                  | none => rw [hq] at h; cases h
                  | some a =>
                    rw [hq] at h
                    simp only at h
                    cases hr : eqFs (eqC tab d) tab (fl.map fun f => (f.offset, f.type)) xs ys with
                    | none => rw [hr] at h; cases h
                    | some b =>
                      rw [hr] at h
                      simp only [Option.some.injEq] at h
                      subst h
                      obtain ⟨i3, z3, d3, tf3⟩ := hT.get hlf
                      obtain ⟨ti', g1, g2⟩ := ih f.type _ _ a hq _ _ ((hx.drop f.offset).take tif.size) ((hy.drop f.offset).take tif.size) D (by omega)
                      rw [hlf] at g1; cases g1
                      exact eqf_cons' (by simpa using hn f List.mem_cons_self) (run_part tf3 (oneB_get h1 hlf) vs f.offset (by rw [← hx.length]; exact b1) E.w) (run_part tf3 (oneB_get h1 hlf) us f.offset (by rw [← hy.length]; exact b2) E.w) g2 (ihf b (fun q hq => hn q (List.mem_cons_of_mem _ hq)) hr)
          exact key fa.toList r (List.all_eq_true.1 e2) (by rw [← hfs]; exact h)
      case int k =>
        have hdd := tyOf_int (d := dd) (by rw [← tf.ty, ht])
        have hu := tf.und
        rw [hdd] at hu
        rw [hag]
        split at h
        · rename_i k' a j b
          cases hk : sameKind k' j
          · rw [hk] at h; cases h
          · rw [hk] at h
            have := sameKind_eq hk
            subst this
            simp only [cond_true, Option.some.injEq] at h
            subst h
            cases hx with
            | cons h2 t2 =>
              cases t2
              cases hy with
              | cons h3 t3 =>
                cases t3
                have q2 := rep_sc (E := E) h2.1
                have q3 := rep_sc (E := E) h3.1
                subst q2; subst q3
                simp only [valV]
                exact run_equalIn_int (P := P) E.w D t k' k a b hu
        · cases h
      case bool =>
        have hdd := tyOf_bool (d := dd) (by rw [← tf.ty, ht])
        have hu := tf.und
        rw [hdd] at hu
        rw [hag]
        split at h
        · rename_i a b
          simp only [Option.some.injEq] at h
          subst h
          cases hx with
          | cons h2 t2 =>
            cases t2
            cases hy with
            | cons h3 t3 =>
              cases t3
              have q2 := rep_sc (E := E) h2.1
              have q3 := rep_sc (E := E) h3.1
              subst q2; subst q3
              simp only [valV]
              exact run_equalIn_bool' (P := P) E.w D t a b hu
        · cases h
      case string =>
        have hdd := tyOf_string (d := dd) (by rw [← tf.ty, ht])
        have hu := tf.und
        rw [hdd] at hu
        rw [hag]
        split at h
        · rename_i a b
          simp only [Option.some.injEq] at h
          subst h
          cases hx with
          | cons h2 t2 =>
            cases t2
            cases hy with
            | cons h3 t3 =>
              cases t3
              have q2 := rep_sc (E := E) h2.1
              have q3 := rep_sc (E := E) h3.1
              subst q2; subst q3
              simp only [valV]
              exact run_equalIn_string (P := P) E.w D t a b hu
        · cases h

variable {o : Oper} {ρ : Operand → AV} {H : Nat → Option Blk} {F : Nat → Prop}
theorem sem_structeq {tab : List (Nat × TI)} (hT : TabOk P tab) (h1 : oneB tab = true) {op : BinOp} {t u : Nat} {ti : TI} {x y : Operand} {xs ys : List AV} {b : Bool} (ho : o.op = .binOp op t x y u) {q : Bool} (hop : isEq op = some q) (hl : look tab t = some ti) (hk : ti.eqok = true) (hag : ti.agg = true)
    (hx : ρ x = .agg xs) (hy : ρ y = .agg ys) (hb : eqC tab 20 t xs ys = some b) : OpSem P o ρ H F H (.p (.sc (.bool (bif q then b else !b)))) := by
  refine OpSem.of_pure fun a E hr hh => ?_
  obtain ⟨i, z, d, tf⟩ := hT.get hl
  obtain ⟨vs, hv, hvs⟩ := hx ▸ hr x (by simp [ho, Op.operands])
  obtain ⟨us, hu, hus⟩ := hy ▸ hr y (by simp [ho, Op.operands])
  obtain ⟨ti', g1, g2⟩ := eqC_run hT h1 E 20 t xs ys b hb vs us hvs hus 10000 (by omega)
  rw [hl] at g1; cases g1
  rw [hag] at g2
  have hem : P.eqGuardType P.depth t = false := by
    have heq := tf.eqok
    rw [hk] at heq
    unfold eqokOf at heq
    cases d <;> simp only at heq <;> first | (cases heq; done) | skip
    have heq := heq.symm
    rw [Bool.and_eq_true] at heq
    simpa using heq.2
  have hg := run_eqGuard_agg (P := P) E.w op t x y vs.toArray us.toArray hem
  have g2' : (Op.equalIn 10000 t (.agg vs.toArray) (.agg us.toArray)).run P E.w = .ok b E.w := g2
  refine ⟨_, ?_, rep_of_sc E rfl⟩
  rcases isEq_or hop with ⟨rfl, rfl⟩ | ⟨rfl, rfl⟩
  · have := run_eql_struct (P := P) E.w t vs.toArray us.toArray
    rw [g2'] at this
    simp [execOp, ho, hv, hu, hg, this]
  · have := run_neq_struct (P := P) E.w t vs.toArray us.toArray
    rw [g2'] at this
    simp [execOp, ho, hv, hu, hg, this]

theorem sem_clear {tab : List (Nat × TI)} (hT : TabOk P tab) {t e id off len : Nat} {ti te : TI} {x : Operand} {rows : List (List AV)} (ho : o.op = .call { callee := .builtin .clear, args := #[x], argTypes := #[t] }) (hl : look tab t = some ti) (ht : ti.ty = .slice e) (he : look tab e = some te) (hs : 0 < te.size)
    (hx : ρ x = .sl id off len) (hH : H id = some (.arr e te.size rows)) (hpos : 0 < rows.length) (hn : off + len ≤ rows.length) : OpSem P o ρ H F (single id (.arr e te.size (rows.take off ++ List.replicate len te.zero ++ rows.drop (off + len)))) .any := by
  refine OpSem.of_run fun a E hr hh hf hok => ?_
  obtain ⟨i, z, d, tf⟩ := hT.get hl
  obtain ⟨i2, z2, d2, tfe⟩ := hT.get he
  have hd := tyOf_slice (d := d) (by rw [← tf.ty, ht]); subst hd
  have e1 := hr x (by simp [ho, Op.operands, Call.operands])
  rw [hx] at e1
  obtain ⟨r, A, hee, g1, g2, hv⟩ := e1
  obtain ⟨r', he', hk, hown⟩ := hh.live _ _ hH
  rw [hee] at he'; cases he'
  obtain ⟨hsz, hcap, hmax, hmx, hrl, hc⟩ := hk
  have hcp : 0 < r.cap := by omega
  rcases hc with hc | ⟨cur, hb, hcs, hc⟩
  · omega
  by_cases h0 : len = 0
  · subst h0
    have hrows : rows.take off ++ List.replicate 0 te.zero ++ rows.drop (off + 0) = rows := by simp
    rw [hrows]
    refine ⟨.tuple #[], ⟨E.e, E.ok, E.w⟩, .inl (exec_builtin ho a E.w _ E.w fun cs => ?_), ?_⟩
    · cases A <;> simp [Go.builtin, Builtin.clear_, hv, tf.run_und]
    · exact post_store hh hok hH hee hcp (fun _ _ => rfl) rfl rfl rfl rfl ⟨hsz, hcap, hmax, hmx, hrl, .inr ⟨cur, hb, hcs, hc⟩⟩ trivial
  · have hA := g2 (by omega)
    subst hA
    let news := (Builtin.zeroCells z2.cells len).toList
    have hzl : z2.cells.toList.length = te.size := by rw [tfe.size, ← tfe.zs]; simp
    have hnews : news = repL z2.cells.toList len := by
      have := madeRow z2.cells.toList len
      simp only [news, Builtin.zeroCells, Array.toList_map, Array.toList_range]
      rw [← this]; simp
    have hnew : All2 (Cell1 E) (List.replicate len te.zero).flatten news := by
      rw [hnews]
      have hfl : ∀ n, (List.replicate n te.zero).flatten = repL te.zero n := fun n => by
        induction n with
        | zero => rfl
        | succ n ih => rw [List.replicate_succ, List.flatten_cons, ih]; rfl
      rw [hfl]
      exact repL_rep (tfe.zeroRep E) len
    have hl2 : ∀ x, x ∈ List.replicate len te.zero → x.length = te.size := fun x hx => by rw [(List.mem_replicate.1 hx).2]; exact tfe.zeroLen
    have hnl : news.length = len * te.size := by rw [hnews, repL_length, hzl]
    have hfit : off * te.size + news.length ≤ cur.size := by rw [hnl, ← Nat.add_mul, hcs]; exact Nat.mul_le_mul_right _ (by omega)
    have h1 : ∀ v, v ∈ news → v.oneCell' = true := fun v hv => by
      obtain ⟨j, hj⟩ := List.getElem?_of_mem hv
      have hjl : j < (List.replicate len te.zero).flatten.length := by rw [hnew.length]; exact (List.getElem?_eq_some_iff.1 hj).1
      obtain ⟨u, q1, q2⟩ := hnew.get (List.getElem?_eq_getElem hjl)
      rw [hj] at q1; cases q1; exact q2.2
    have hst := run_storeCells_at P r.b (off * te.size) e news 0 cur E.w hb (by simpa using hfit) h1
    have hsetall : cur.toList.take (off * te.size + 0) ++ news ++ cur.toList.drop (off * te.size + 0 + news.length) = setAll cur.toList (off * te.size) news := by
      rw [setAll_eq _ _ _ (by simpa using hfit)]; simp
    rw [hsetall] at hst
    generalize hcs2 : (setAll cur.toList (off * te.size) news).toArray = cs2 at hst
    have hww : ∀ b, b ≠ r.b → (E.w.setRow r.b cs2).heap[b]? = E.w.heap[b]? := fun b hne => setRow_other _ _ _ _ hne
    have ex : Ext E ⟨E.e, E.ok, E.w.setRow r.b cs2⟩ := ⟨fun _ _ h => h, fun _ h => h, fun b hb' => hww b fun hbr => (hown hcp).2 (hbr ▸ hb')⟩
    obtain ⟨p1, p2⟩ := arr_put (R := Cell1 E) (n := off) hrl hl2 hcs hs hc (by omega) (by rw [List.length_replicate]; omega) hnew
    rw [List.length_replicate] at p1 p2
    have hlen : (rows.take off ++ List.replicate len te.zero ++ rows.drop (off + len)).length = rows.length := by simp; omega
    refine ⟨.tuple #[], ⟨E.e, E.ok, E.w.setRow r.b cs2⟩, .inl (exec_builtin ho a E.w _ _ fun cs => ?_), ?_⟩
    · have hne : ∀ n, len = n + 1 → True := fun _ _ => trivial
      obtain ⟨l', rfl⟩ : ∃ l', len = l' + 1 := ⟨len - 1, by omega⟩
      simp [Go.builtin, Builtin.clear_, hv, tf.run_und, tfe.run_zero, hsz]
      rw [show (Builtin.zeroCells z2.cells (l' + 1)).toList = news from rfl, hst]
      rfl
    · refine post_store hh hok hH hee hcp hww (setRow_same _ _ _).2.2.2 rfl rfl rfl ⟨hsz, by rw [hlen]; exact hcap, hmax, by rw [hlen]; exact hmx, p1, .inr ⟨cs2, setRow_heap _ _ _ _ _ _ hb, by rw [← hcs2]; simp [setAll_length, hcs], fun i x j y hi hj => ?_⟩⟩ trivial
      obtain ⟨u, u1, u2⟩ := p2 i x j y hi hj
      exact ⟨u, by rw [← hcs2]; simpa using u1, u2.ext ex⟩
end
end Go.Proofs.Am
