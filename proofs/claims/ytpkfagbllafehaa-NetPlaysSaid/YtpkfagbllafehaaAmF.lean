/- Numbers, truths, parts of structs, addresses of fields and elements. -/
import Derived.Test.YtpkfagbllafehaaAmE
namespace Go.Proofs.Am
open Go Go.RowKit
set_option linter.unusedVariables false
set_option linter.unusedSimpArgs false

section
variable {P : Program} {o : Oper} {ρ : Operand → AV} {H : Nat → Option Blk} {F : Nat → Prop}

theorem rep_int {E : Env} {k : IntKind} {n : Int} {v : Value} (h : Rep E (.p (.sc (.int k n))) v) : v = .int k n := by
  have h : RepP E.ok E.w (.sc (.int k n)) v := h
  cases h; rfl
theorem rep_sc {E : Env} {c v : Value} (h : Rep E (.p (.sc c)) v) : v = c := by
  have h : RepP E.ok E.w (.sc c) v := h
  cases h; rfl
theorem rep_of_sc (E : Env) {c : Value} (h : c.oneCell' = true) : Rep E (.p (.sc c)) c := RepP.sc c h

theorem sem_move {x : Operand} (ho : o.op = .move x ∨ o.op = .assign x) : OpSem P o ρ H F H (ρ x) :=
  OpSem.of_pure fun a E hr hh => ⟨a.eval x, by rcases ho with ho | ho <;> simp [execOp, ho], hr x (by rcases ho with ho | ho <;> simp [ho, Op.operands])⟩

theorem sem_pick {c x y : Operand} {b : Bool} (ho : o.op = .pick c x y) (hc : ρ c = .p (.sc (.bool b))) : OpSem P o ρ H F H (bif b then ρ x else ρ y) := by
  refine OpSem.of_pure fun a E hr hh => ⟨bif b then a.eval x else a.eval y, ?_, ?_⟩
  · have := rep_sc (hc ▸ hr c (by simp [ho, Op.operands]))
    simp only [execOp, ho, this, asBool]
    cases b <;> simp
  · cases b
    · exact hr y (by simp [ho, Op.operands])
    · exact hr x (by simp [ho, Op.operands])

def notNil : AV → Bool
  | .ptr _ _ _ => true
  | .fptr _ _ _ _ => true
  | .fn _ _ => true
  | _ => false
theorem sem_nilCheck {x : Operand} (ho : o.op = .nilCheck x) (hx : notNil (ρ x) = true) : OpSem P o ρ H F H (ρ x) := by
  refine OpSem.of_pure fun a E hr hh => ⟨a.eval x, ?_, hr x (by simp [ho, Op.operands])⟩
  have h := hr x (by simp [ho, Op.operands])
  cases hq : ρ x <;> rw [hq] at hx h <;> simp [notNil] at hx
  · obtain ⟨r, _, hv⟩ := h
    simp [execOp, ho, hv]
  · obtain ⟨b, o', c, _, hv⟩ := h
    simp [execOp, ho, hv]
  · obtain ⟨vs, hv, _⟩ := h
    simp [execOp, ho, hv]

/-- A number's operation: its answer, under a condition. -/
def intA (op : BinOp) (k j : IntKind) (x y : Int) : Option (Prop × PV) :=
  let same (p : Prop) (v : PV) : Option (Prop × PV) := if k = j then some (p, v) else none
  match op with
  | .add => same True (.sc (.int k (k.wrap (x + y))))
  | .sub => same True (.sc (.int k (k.wrap (x - y))))
  | .mul => same True (.sc (.int k (k.wrap (x * y))))
  | .quo => same (y ≠ 0) (.sc (.int k (k.wrap (x.tdiv y))))
  | .rem => same (y ≠ 0) (.sc (.int k (x.tmod y)))
  | .and => same True (.sc (.int k (k.wrap ((BitVec.ofInt k.bits x &&& BitVec.ofInt k.bits y).toNat))))
  | .or => same True (.sc (.int k (k.wrap ((BitVec.ofInt k.bits x ||| BitVec.ofInt k.bits y).toNat))))
  | .xor => same True (.sc (.int k (k.wrap ((BitVec.ofInt k.bits x ^^^ BitVec.ofInt k.bits y).toNat))))
  | .andNot => same True (.sc (.int k (k.wrap ((BitVec.ofInt k.bits x &&& ~~~ BitVec.ofInt k.bits y).toNat))))
  | .shl => some (0 ≤ y, .sc (.int k (k.wrap (x * 2 ^ (min y.toNat k.bits)))))
  | .shr => some (0 ≤ y, .sc (.int k (x.fdiv (2 ^ (min y.toNat k.bits)))))
  | .eql => same True (.sc (.bool (x == y)))
  | .neq => same True (.sc (.bool (x != y)))
  | .lss => same True (.sc (.bool (decide (x < y))))
  | .leq => same True (.sc (.bool (decide (x ≤ y))))
  | .gtr => same True (.sc (.bool (decide (x > y))))
  | .geq => same True (.sc (.bool (decide (x ≥ y))))

theorem run_eqGuard_int (op : BinOp) (t : TypeId) (x y : Operand) (k j : IntKind) (a b : Int) (w : World) : (eqGuard op t x y (.int k a) (.int j b)).run P w = .ok () w := by
  unfold eqGuard; cases op <;> rfl
theorem run_eqGuard_bool (op : BinOp) (t : TypeId) (x y : Operand) (a b : Bool) (w : World) : (eqGuard op t x y (.bool a) (.bool b)).run P w = .ok () w := by
  unfold eqGuard; cases op <;> rfl
theorem run_eqGuard_string (op : BinOp) (t : TypeId) (x y : Operand) (a b : ByteArray) (w : World) : (eqGuard op t x y (.string a) (.string b)).run P w = .ok () w := by
  unfold eqGuard; cases op <;> rfl
theorem run_eqGuard_slice (op : BinOp) (t : TypeId) (x y : Operand) (a b : Option Addr) (n c n' c' : Nat) (w : World) : (eqGuard op t x y (.slice a n c) (.slice b n' c')).run P w = .ok () w := by
  unfold eqGuard; cases op <;> rfl

theorem sem_intbin {op : BinOp} {t u : TypeId} {x y : Operand} {k j : IntKind} {m n : Int} {c : Prop} {v : PV} (ho : o.op = .binOp op t x y u) (hx : ρ x = .p (.sc (.int k m))) (hy : ρ y = .p (.sc (.int j n))) (hv : intA op k j m n = some (c, v)) (hc : c) :
    OpSem P o ρ H F H (.p v) := by
  refine OpSem.of_pure fun a E hr hh => ?_
  have e1 := rep_sc (hx ▸ hr x (by simp [ho, Op.operands]))
  have e2 := rep_sc (hy ▸ hr y (by simp [ho, Op.operands]))
  have hex : ∀ r : Value, (Go.binOp op t (.int k m) (.int j n)).run P E.w = .ok r E.w → (execOp a.eval o).run P E.w = .ok (.value r) E.w := fun r hrr => by
    simp [execOp, ho, e1, e2, run_eqGuard_int, hrr]
  cases op <;> simp only [intA] at hv
  case shl =>
    simp only [Option.some.injEq, Prod.mk.injEq] at hv
    obtain ⟨rfl, rfl⟩ := hv
    exact ⟨_, hex _ (by simp [Go.binOp, Op.shift, show ¬ n < 0 by omega]), rep_of_sc E rfl⟩
  case shr =>
    simp only [Option.some.injEq, Prod.mk.injEq] at hv
    obtain ⟨rfl, rfl⟩ := hv
    exact ⟨_, hex _ (by simp [Go.binOp, Op.shift, show ¬ n < 0 by omega]), rep_of_sc E rfl⟩
  all_goals
    split at hv
    · rename_i hkj
      subst hkj
      simp only [Option.some.injEq, Prod.mk.injEq] at hv
      obtain ⟨rfl, rfl⟩ := hv
      refine ⟨_, hex _ ?_, rep_of_sc E rfl⟩
      first
        | (simp [Go.binOp, Op.intArith, Op.intBits, Op.intCmp, Op.intDiv]; done)
        | (simp [Go.binOp, Op.intDiv, hc]; done)
    · cases hv

def boolA (op : BinOp) (x y : Bool) : Option PV :=
  match op with
  | .eql => some (.sc (.bool (x == y)))
  | .neq => some (.sc (.bool (x != y)))
  | _ => none
theorem sem_boolbin {op : BinOp} {t u : TypeId} {ti : TI} {i : TypeInfo} {z : Value} {d : TypeDesc} {x y : Operand} {m n : Bool} {v : PV} (h : TF P t ti i z d) (ht : ti.ty = .bool) (ho : o.op = .binOp op t x y u) (hx : ρ x = .p (.sc (.bool m))) (hy : ρ y = .p (.sc (.bool n))) (hv : boolA op m n = some v) :
    OpSem P o ρ H F H (.p v) := by
  refine OpSem.of_pure fun a E hr hh => ?_
  have e1 := rep_sc (hx ▸ hr x (by simp [ho, Op.operands]))
  have e2 := rep_sc (hy ▸ hr y (by simp [ho, Op.operands]))
  have hd : P.underlying t = some .bool := by have := tyOf_bool (d := d) (by rw [← h.ty, ht]); rw [h.und, this]
  have heq := run_equalIn_bool' (P := P) E.w 9999 t m n hd
  cases op <;> simp only [boolA, Option.some.injEq] at hv <;> first | (cases hv; done) | skip
  all_goals
    subst hv
    refine ⟨_, ?_, rep_of_sc E rfl⟩
    simp [execOp, ho, e1, e2, run_eqGuard_bool, Go.binOp, Op.equal, Op.maxDepth, heq, bne]

def strA (op : BinOp) (x y : ByteArray) : Option (Prop × PV) :=
  match op with
  | .add => some (x.size + y.size ≤ 9223372036854775807, .sc (.string (x ++ y)))
  | .eql => some (True, .sc (.bool (x.toList == y.toList)))
  | .neq => some (True, .sc (.bool (!(x.toList == y.toList))))
  | _ => none
theorem sem_strbin {op : BinOp} {t u : TypeId} {x y : Operand} {m n : ByteArray} {c : Prop} {v : PV} (ho : o.op = .binOp op t x y u) (hx : ρ x = .p (.sc (.string m))) (hy : ρ y = .p (.sc (.string n))) (hv : strA op m n = some (c, v)) (hc : c) :
    OpSem P o ρ H F H (.p v) := by
  refine OpSem.of_pure fun a E hr hh => ?_
  have e1 := rep_sc (hx ▸ hr x (by simp [ho, Op.operands]))
  have e2 := rep_sc (hy ▸ hr y (by simp [ho, Op.operands]))
  have hm : IntKind.i64.max = 9223372036854775807 := by decide
  cases op <;> simp only [strA, Option.some.injEq, Prod.mk.injEq] at hv <;> first | (cases hv; done) | skip
  all_goals
    obtain ⟨rfl, rfl⟩ := hv
    refine ⟨_, ?_, rep_of_sc E rfl⟩
    first
      | (simp [execOp, ho, e1, e2, run_eqGuard_string, Go.binOp, Op.stringOp]; done)
      | (have h' : ¬ ((m.size + n.size : Nat) : Int) > IntKind.i64.max := by rw [hm]; omega
         simp only [execOp, ho, e1, e2, Sem.run_bind, run_eqGuard_string, Result.andThen_ok, Go.binOp, Op.stringOp, if_neg h', Sem.run_pure])

def isEq : BinOp → Option Bool
  | .eql => some true
  | .neq => some false
  | _ => none
theorem isEq_or {op : BinOp} {q : Bool} (h : isEq op = some q) : (op = .eql ∧ q = true) ∨ (op = .neq ∧ q = false) := by cases op <;> simp [isEq] at h <;> simp [h]
/-- A slice against nil. -/
def nilA (x y : AV) : Option (Prop × Bool) :=
  match x, y with
  | .nil, .nil => some (True, true)
  | .emp, .nil => some (True, false)
  | .p (.seq _ rows), .nil => some (rows ≠ [], false)
  | _, _ => none
theorem run_slice_nil {t : TypeId} {e : Nat} (hd : P.underlying t = some (.slice e)) (dp : Nat) (A : Option Addr) (n c : Nat) (w : World) : (Op.equalIn (dp + 1) t (.slice A n c) (.slice none 0 0)).run P w = .ok A.isNone w := by
  cases A with
  | none => simp [Op.equalIn, run_underlying hd]
  | some A => simp [Op.equalIn, run_underlying hd]
theorem sem_nileq {op : BinOp} {t u : TypeId} {ti : TI} {i : TypeInfo} {z : Value} {d : TypeDesc} {e : Nat} {x y : Operand} {c : Prop} {b : Bool} (h : TF P t ti i z d) (ht : ti.ty = .slice e) (ho : o.op = .binOp op t x y u) {q : Bool} (hop : isEq op = some q) (hv : nilA (ρ x) (ρ y) = some (c, b)) (hc : c) :
    OpSem P o ρ H F H (.p (.sc (.bool (bif q then b else !b)))) := by
  refine OpSem.of_pure fun a E hr hh => ?_
  have hd : P.underlying t = some (.slice e) := by have := tyOf_slice (d := d) (by rw [← h.ty, ht]); rw [h.und, this]
  have h1 := hr x (by simp [ho, Op.operands])
  have h2 := hr y (by simp [ho, Op.operands])
  have key : ∃ (A : Option Addr) (n c : Nat), a.eval x = .slice A n c ∧ a.eval y = .slice none 0 0 ∧ A.isNone = b := by
    cases hx : ρ x <;> cases hy : ρ y <;> rw [hx, hy] at hv <;> simp only [nilA] at hv <;> try (cases hv; done)
    · simp only [Option.some.injEq, Prod.mk.injEq] at hv; obtain ⟨_, rfl⟩ := hv
      rw [hx] at h1; rw [hy] at h2
      exact ⟨none, 0, 0, h1, h2, rfl⟩
    · simp only [Option.some.injEq, Prod.mk.injEq] at hv; obtain ⟨_, rfl⟩ := hv
      rw [hx] at h1; rw [hy] at h2
      obtain ⟨A, c, h1⟩ := h1
      exact ⟨some A, 0, c, h1, h2, rfl⟩
    · rename_i pv
      cases pv with
      | sc v => cases hv
      | seq sz rows =>
        simp only [Option.some.injEq, Prod.mk.injEq] at hv; obtain ⟨rfl, rfl⟩ := hv
        rw [hx] at h1; rw [hy] at h2
        have h1 : RepP E.ok E.w (.seq sz rows) (a.eval x) := h1
        generalize a.eval x = q at h1
        cases h1 with
        | emp => exact (hc rfl).elim
        | seq => exact ⟨_, _, _, rfl, h2, rfl⟩
  obtain ⟨A, n, cc, e1, e2, hA⟩ := key
  refine ⟨_, ?_, rep_of_sc E rfl⟩
  have heq : (Op.equalIn 10000 t (.slice A n cc) (.slice none 0 0)).run P E.w = .ok b E.w := hA ▸ run_slice_nil hd 9999 A n cc E.w
  rcases isEq_or hop with ⟨rfl, rfl⟩ | ⟨rfl, rfl⟩ <;> simp [execOp, ho, e1, e2, run_eqGuard_slice, Go.binOp, Op.equal, Op.maxDepth, heq]

def unA (op : UnOp) (x : PV) : Option PV :=
  match op, x with
  | .not, .sc (.bool b) => some (.sc (.bool (!b)))
  | .neg, .sc (.int k n) => some (.sc (.int k (k.wrap (0 - n))))
  | .xor, .sc (.int k n) => some (.sc (.int k (k.wrap ((BitVec.ofInt k.bits (if k.signed then -1 else k.max) ^^^ BitVec.ofInt k.bits n).toNat))))
  | _, _ => none
theorem sem_un {op : UnOp} {t : TypeId} {x : Operand} {p v : PV} (ho : o.op = .unOp op t x) (hx : ρ x = .p p) (hv : unA op p = some v) : OpSem P o ρ H F H (.p v) := by
  refine OpSem.of_pure fun a E hr hh => ?_
  have e1 := hx ▸ hr x (by simp [ho, Op.operands])
  cases p with
  | seq => cases op <;> simp [unA] at hv
  | sc c =>
    have e1 := rep_sc e1
    cases op <;> cases c <;> simp only [unA, Option.some.injEq] at hv <;> first | (cases hv; done) | skip
    all_goals
      subst hv
      refine ⟨_, ?_, rep_of_sc E rfl⟩
      simp [execOp, ho, e1, Op.unary, Op.intArith, Op.intBits]

theorem sem_convint {s t : TypeId} {ti : TI} {i : TypeInfo} {z : Value} {d : TypeDesc} {x : Operand} {k k' : IntKind} {n : Int} {ts : TI} {i2 : TypeInfo} {z2 : Value} {d2 : TypeDesc} (hs : TF P s ts i2 z2 d2) (h : TF P t ti i z d) (ht : ti.ty = .int k) (ho : o.op = .convert s t x) (hx : ρ x = .p (.sc (.int k' n))) :
    OpSem P o ρ H F H (.p (.sc (.int k (k.wrap n)))) := by
  refine OpSem.of_pure fun a E hr hh => ?_
  have e1 := rep_sc (hx ▸ hr x (by simp [ho, Op.operands]))
  have hd : P.underlying t = some (.int k) := by have := tyOf_int (d := d) (by rw [← h.ty, ht]); rw [h.und, this]
  refine ⟨_, ?_, rep_of_sc E rfl⟩
  simp [execOp, ho, e1, Go.convert, hs.run_und E.w, run_underlying hd, Conv.intToInt]

theorem sem_extract {x : Operand} {j : Nat} {ts : List AV} {y : AV} (ho : o.op = .extract x j) (hx : ρ x = .tup ts) (hy : ts[j]? = some y) (hl : (match y with | .tup _ => false | _ => true) = true) : OpSem P o ρ H F H y := by
  refine OpSem.of_pure fun a E hr hh => ?_
  have h := hx ▸ hr x (by simp [ho, Op.operands])
  obtain ⟨vs, hv, h2⟩ := h
  obtain ⟨u, g1, g2⟩ := h2.get hy
  refine ⟨u, ?_, ?_⟩
  · simp [execOp, ho, hv, Instr.extract, g1]
  · cases y <;> first | exact g2 | (simp at hl)

theorem sem_field {s : TypeId} {ti : TI} {i : TypeInfo} {z : Value} {d : TypeDesc} {x : Operand} {f off ft : Nat} {fs : List (Nat × Nat)} {tf : TI} {i2 : TypeInfo} {z2 : Value} {d2 : TypeDesc} {cs : List AV} {y : AV} (h : TF P s ti i z d) (ht : ti.ty = .struct fs) (hf : fs[f]? = some (off, ft)) (h2 : TF P ft tf i2 z2 d2)
    (ho : o.op = .field s x f) (hx : ρ x = .agg cs) (hl : off + tf.size ≤ cs.length) (h1 : tf.agg = false → tf.size = 1) (hy : valA tf.agg ((cs.drop off).take tf.size) = some y) : OpSem P o ρ H F H y := by
  refine OpSem.of_pure fun a E hr hh => ?_
  obtain ⟨vs, hv, h3⟩ := hx ▸ hr x (by simp [ho, Op.operands])
  obtain ⟨fa, rfl, hfs⟩ := tyOf_struct (by rw [← h.ty, ht])
  have hfa : ∃ fl : Field, fa[f]? = some fl ∧ fl.offset = off ∧ fl.type = ft := by
    rw [hfs, List.getElem?_map] at hf
    cases hq : fa.toList[f]? with
    | none => rw [hq] at hf; cases hf
    | some fl => rw [hq] at hf; simp at hf; exact ⟨fl, by rw [← Array.getElem?_toList]; exact hq, hf.1, hf.2⟩
  obtain ⟨fl, g1, rfl, rfl⟩ := hfa
  have h3' : All2 (Cell1 E) cs vs := h3
  have h4 := (h3'.drop fl.offset).take tf.size
  refine ⟨valV tf.agg ((vs.drop fl.offset).take tf.size), ?_, rep_val hy h4⟩
  simp only [execOp, ho, Instr.field, Sem.run_bind, h.run_und E.w, Result.andThen_ok, g1, hv, asAgg, Sem.run_pure, part, h2.run_agg E.w]
  cases hg : tf.agg
  · have hlen : ((vs.drop fl.offset).take tf.size).length = 1 := by rw [← h4.length, part_len hl, h1 hg]
    obtain ⟨u, hu⟩ : ∃ u, (vs.drop fl.offset).take tf.size = [u] := by
      match hq : (vs.drop fl.offset).take tf.size, hlen with
      | [u], _ => exact ⟨u, rfl⟩
    have : vs[fl.offset]? = some u := by
      have := part_get (l := vs) (o := fl.offset) (n := tf.size) (j := 0) (x := u) (by rw [hu]; rfl)
      simpa using this
    simp [this, hu, valV]
  · simp [h2.run_size E.w, valV]

/-- The address of a field. -/
theorem run_fieldPlace {ft : TypeId} {fl : Field} {tf : TI} {i2 : TypeInfo} {z2 : Value} {d2 : TypeDesc} (h2 : TF P fl.type tf i2 z2 d2) (hp : 0 < tf.size) (b k : Nat) (w : World) : (fieldPlace ⟨b, k, none⟩ fl).run P w = .ok ⟨b, k + fl.offset, none⟩ w := by
  unfold fieldPlace
  simp only [Sem.run_bind, h2.run_size w, Result.andThen_ok, if_neg (show ¬ tf.size = 0 by omega), Sem.run_pure]
  rw [Addr.add_lit]

def ptrAdd (x : AV) (n : Nat) : Option AV :=
  match x with
  | .ptr id row off => some (.ptr id row (off + n))
  | .fptr sz rows row off => some (.fptr sz rows row (off + n))
  | _ => none
theorem rep_ptrAdd {E : Env} {x y : AV} {v : Value} {n : Nat} (h : ptrAdd x n = some y) (hr : Rep E x v) : ∃ b k, v = .pointer (some ⟨b, k, none⟩) ∧ Rep E y (.pointer (some ⟨b, k + n, none⟩)) := by
  cases x <;> simp only [ptrAdd, Option.some.injEq] at h <;> first | (cases h; done) | skip
  · subst h
    obtain ⟨r, h1, h2⟩ := hr
    exact ⟨_, _, h2, r, h1, by rw [Nat.add_assoc]⟩
  · subst h
    obtain ⟨b, o', c, h1, h2⟩ := hr
    exact ⟨_, _, h2, b, o', c, h1, by rw [Nat.add_assoc]⟩

theorem sem_fieldAddr {s : TypeId} {ti : TI} {i : TypeInfo} {z : Value} {d : TypeDesc} {x : Operand} {f off ft : Nat} {fs : List (Nat × Nat)} {tf : TI} {i2 : TypeInfo} {z2 : Value} {d2 : TypeDesc} {y : AV} (h : TF P s ti i z d) (ht : ti.ty = .struct fs) (hf : fs[f]? = some (off, ft)) (h2 : TF P ft tf i2 z2 d2) (hp : 0 < tf.size)
    (ho : o.op = .fieldAddr s x f) (hy : ptrAdd (ρ x) off = some y) : OpSem P o ρ H F H y := by
  refine OpSem.of_pure fun a E hr hh => ?_
  obtain ⟨b, k, hv, h3⟩ := rep_ptrAdd hy (hr x (by simp [ho, Op.operands]))
  obtain ⟨fa, rfl, hfs⟩ := tyOf_struct (by rw [← h.ty, ht])
  have hfa : ∃ fl : Field, fa[f]? = some fl ∧ fl.offset = off ∧ fl.type = ft := by
    rw [hfs, List.getElem?_map] at hf
    cases hq : fa.toList[f]? with
    | none => rw [hq] at hf; cases hf
    | some fl => rw [hq] at hf; simp at hf; exact ⟨fl, by rw [← Array.getElem?_toList]; exact hq, hf.1, hf.2⟩
  obtain ⟨fl, g1, rfl, rfl⟩ := hfa
  refine ⟨_, ?_, h3⟩
  simp [execOp, ho, Instr.fieldAt, h.run_und E.w, g1, hv, Instr.sureAddr, run_fieldPlace (ft := fl.type) h2 hp]

/-- The address of an element. -/
theorem sem_indexAddr_seq {t : TypeId} {ti : TI} {i : TypeInfo} {z : Value} {d : TypeDesc} {e : Nat} {te : TI} {i2 : TypeInfo} {z2 : Value} {d2 : TypeDesc} {x y : Operand} {rows : List (List PV)} {k : IntKind} {n : Int} (h : TF P t ti i z d) (ht : ti.ty = .slice e) (h2 : TF P e te i2 z2 d2)
    (ho : o.op = .indexAddr t x y) (hx : ρ x = .p (.seq te.size rows)) (hy : ρ y = .p (.sc (.int k n))) (h0 : 0 ≤ n) (h1 : n < rows.length) : OpSem P o ρ H F H (.fptr te.size rows n.toNat 0) := by
  refine OpSem.of_pure fun a E hr hh => ?_
  have hd : d = .slice e := tyOf_slice (by rw [← h.ty, ht])
  subst hd
  have e2 := rep_sc (hy ▸ hr y (by simp [ho, Op.operands]))
  have e1 : RepP E.ok E.w (.seq te.size rows) (a.eval x) := by have := hr x (by simp [ho, Op.operands]); rw [hx] at this; exact this
  have e1' := e1
  generalize hq : a.eval x = q at e1
  cases e1 with
  | emp => simp at h1; omega
  | seq _ _ b o' c u g0 g1 g2 g3 g4 g5 =>
    refine ⟨.pointer (some ⟨b, o' + n.toNat * te.size + 0, none⟩), ?_, b, o', c, by rw [← hq]; exact e1', rfl⟩
    simp [execOp, ho, Instr.indexAt, hq, e2, asIntOf, h.run_und E.w, h0, h1, h2.run_size E.w, Addr.add_lit]

theorem sem_indexAddr_sl {t : TypeId} {ti : TI} {i : TypeInfo} {z : Value} {d : TypeDesc} {e : Nat} {te : TI} {i2 : TypeInfo} {z2 : Value} {d2 : TypeDesc} {x y : Operand} {id off len tb : Nat} {rows : List (List AV)} {k : IntKind} {n : Int} (h : TF P t ti i z d) (ht : ti.ty = .slice e) (h2 : TF P e te i2 z2 d2)
    (ho : o.op = .indexAddr t x y) (hx : ρ x = .sl id off len) (hH : H id = some (.arr tb te.size rows)) (hy : ρ y = .p (.sc (.int k n))) (h0 : 0 ≤ n) (h1 : n < len) : OpSem P o ρ H F H (.ptr id (off + n.toNat) 0) := by
  refine OpSem.of_pure fun a E hr hh => ?_
  have hd : d = .slice e := tyOf_slice (by rw [← h.ty, ht])
  subst hd
  have e2 := rep_sc (hy ▸ hr y (by simp [ho, Op.operands]))
  obtain ⟨r, A, he, g1, g2, g3⟩ := hx ▸ hr x (by simp [ho, Op.operands])
  obtain ⟨r', he', hk, _⟩ := hh.live _ _ hH
  rw [he] at he'; cases he'
  have hsz := hk.1
  have hA := g2 (by omega)
  refine ⟨.pointer (some ⟨r.b, (off + n.toNat) * r.sz + 0, none⟩), ?_, r, he, rfl⟩
  simp [execOp, ho, Instr.indexAt, g3, hA, e2, asIntOf, h.run_und E.w, h0, h1, h2.run_size E.w, Addr.add_lit, hsz, Nat.add_mul]

theorem sem_indexAddr_arr {t : TypeId} {ti : TI} {i : TypeInfo} {z : Value} {d : TypeDesc} {e len : Nat} {te : TI} {i2 : TypeInfo} {z2 : Value} {d2 : TypeDesc} {x y : Operand} {k : IntKind} {n : Int} {q : AV} (h : TF P t ti i z d) (ht : ti.ty = .array len e) (h2 : TF P e te i2 z2 d2)
    (ho : o.op = .indexAddr t x y) (hx : ptrAdd (ρ x) (n.toNat * te.size) = some q) (hy : ρ y = .p (.sc (.int k n))) (h0 : 0 ≤ n) (h1 : n < len) : OpSem P o ρ H F H q := by
  refine OpSem.of_pure fun a E hr hh => ?_
  have hd : d = .array len e := tyOf_array (by rw [← h.ty, ht])
  subst hd
  have e2 := rep_sc (hy ▸ hr y (by simp [ho, Op.operands]))
  obtain ⟨b, k', hv, h3⟩ := rep_ptrAdd hx (hr x (by simp [ho, Op.operands]))
  refine ⟨_, ?_, h3⟩
  simp [execOp, ho, Instr.indexAt, hv, e2, asIntOf, h.run_und E.w, h0, h1, h2.run_size E.w, Addr.add_lit, Instr.sureAddr]

/-- A byte of a string. -/
theorem sem_index_str {t : TypeId} {ti : TI} {i : TypeInfo} {z : Value} {d : TypeDesc} {x y : Operand} {s : ByteArray} {k : IntKind} {n : Int} {b : UInt8} (h : TF P t ti i z d) (ht : ti.ty = .string)
    (ho : o.op = .index t x y) (hx : ρ x = .p (.sc (.string s))) (hy : ρ y = .p (.sc (.int k n))) (h0 : 0 ≤ n) (hb : s[n.toNat]? = some b) : OpSem P o ρ H F H (.p (.sc (.int .u8 b.toNat))) := by
  refine OpSem.of_pure fun a E hr hh => ?_
  have hd : d = .string := tyOf_string (by rw [← h.ty, ht])
  subst hd
  have e1 := rep_sc (hx ▸ hr x (by simp [ho, Op.operands]))
  have e2 := rep_sc (hy ▸ hr y (by simp [ho, Op.operands]))
  refine ⟨_, ?_, rep_of_sc E rfl⟩
  simp [execOp, ho, Instr.index, e1, e2, asIntOf, h.run_und E.w, h0, hb]
end
end Go.Proofs.Am
