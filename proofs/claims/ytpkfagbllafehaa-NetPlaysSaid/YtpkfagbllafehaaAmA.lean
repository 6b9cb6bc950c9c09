/- What a value of the program stands for: numbers, lists and local variables, without addresses. -/
import Derived.Below
import Derived.Orders
import Derived.Laws.World
import Derived.KernelRfl
import Derived.Laws.AppendOwn
namespace Go.Proofs.Am
open Go Go.RowKit
set_option linter.unusedVariables false

inductive PV where
  | sc (v : Value)
  | seq (sz : Nat) (rows : List (List PV))

inductive AV where
  | any
  | und
  | nil
  | emp
  | p (x : PV)
  | ptr (id row off : Nat)
  | fptr (sz : Nat) (rows : List (List PV)) (row off : Nat)
  | sl (id off len : Nat)
  | fn (f : FuncId) (caps : List (Nat × Nat × Nat))
  | agg (cs : List AV)
  | tup (vs : List AV)

structure Root where
  b : Nat
  cap : Nat
  sz : Nat

/-- The concrete side: which block an own variable has, which blocks are never written any more, the world. -/
structure Env where
  e : Nat → Option Root
  ok : Nat → Prop
  w : World

inductive All2 {α β : Type} (R : α → β → Prop) : List α → List β → Prop
  | nil : All2 R [] []
  | cons {a : α} {b : β} {as : List α} {bs : List β} (h : R a b) (t : All2 R as bs) : All2 R (a :: as) (b :: bs)

theorem All2.imp {α β : Type} {R S : α → β → Prop} (f : ∀ a b, R a b → S a b) : ∀ {as : List α} {bs : List β}, All2 R as bs → All2 S as bs
  | _, _, .nil => .nil
  | _, _, .cons h t => .cons (f _ _ h) (t.imp f)
theorem All2.length {α β : Type} {R : α → β → Prop} : ∀ {as : List α} {bs : List β}, All2 R as bs → as.length = bs.length
  | _, _, .nil => rfl
  | _, _, .cons _ t => by simp [t.length]
theorem All2.get {α β : Type} {R : α → β → Prop} : ∀ {as : List α} {bs : List β}, All2 R as bs → ∀ {i : Nat} {a : α}, as[i]? = some a → ∃ b, bs[i]? = some b ∧ R a b
  | _, _, .nil, i, a, h => by simp at h
  | _, _, .cons h t, 0, a, ha => by simp at ha; subst ha; exact ⟨_, rfl, h⟩
  | _, _, .cons h t, i + 1, a, ha => by simpa using t.get (i := i) (a := a) (by simpa using ha)
theorem All2.of_get {α β : Type} {R : α → β → Prop} : ∀ {as : List α} {bs : List β}, as.length = bs.length → (∀ (i : Nat) (a : α) (b : β), as[i]? = some a → bs[i]? = some b → R a b) → All2 R as bs
  | [], [], _, _ => .nil
  | a :: as, b :: bs, hl, h => .cons (h 0 a b rfl rfl) (All2.of_get (by simpa using hl) (fun i x y hx hy => h (i + 1) x y (by simpa using hx) (by simpa using hy)))
  | [], _ :: _, hl, _ => by simp at hl
  | _ :: _, [], hl, _ => by simp at hl
theorem All2.append {α β : Type} {R : α → β → Prop} : ∀ {as : List α} {bs : List β} {cs : List α} {ds : List β}, All2 R as bs → All2 R cs ds → All2 R (as ++ cs) (bs ++ ds)
  | _, _, _, _, .nil, k => k
  | _, _, _, _, .cons h t, k => .cons h (t.append k)
theorem All2.take {α β : Type} {R : α → β → Prop} : ∀ {as : List α} {bs : List β} (n : Nat), All2 R as bs → All2 R (as.take n) (bs.take n)
  | _, _, 0, _ => by simpa using .nil
  | _, _, n + 1, .nil => by simpa using .nil
  | _, _, n + 1, .cons h t => by simpa using .cons h (t.take n)
theorem All2.drop {α β : Type} {R : α → β → Prop} : ∀ {as : List α} {bs : List β} (n : Nat), All2 R as bs → All2 R (as.drop n) (bs.drop n)
  | _, _, 0, h => by simpa using h
  | _, _, n + 1, .nil => by simpa using .nil
  | _, _, n + 1, .cons h t => by simpa using t.drop n
theorem All2.set {α β : Type} {R : α → β → Prop} {a : α} {b : β} (r : R a b) : ∀ {as : List α} {bs : List β} (n : Nat), All2 R as bs → All2 R (as.set n a) (bs.set n b)
  | _, _, n, .nil => by simpa using .nil
  | _, _, 0, .cons h t => by simpa using .cons r t
  | _, _, n + 1, .cons h t => by simpa using .cons h (t.set r n)
theorem All2.map_l {α β γ : Type} {R : α → β → Prop} (f : γ → α) : ∀ {as : List γ} {bs : List β}, All2 (fun x b => R (f x) b) as bs → All2 R (as.map f) bs
  | _, _, .nil => .nil
  | _, _, .cons h t => .cons h (t.map_l f)

/-- A value without own variables: what it reads lies in blocks that are never written any more. -/
inductive RepP (ok : Nat → Prop) (w : World) : PV → Value → Prop
  | sc (v : Value) (h : v.oneCell' = true) : RepP ok w (.sc v) v
  | emp (sz : Nat) (a : Option Addr) (c : Nat) (h : a = none → c = 0) : RepP ok w (.seq sz []) (.slice a 0 c)
  | seq (sz : Nat) (rows : List (List PV)) (b o c : Nat) (u : Nat → Nat → Value) (h0 : ok b) (hc : rows.length ≤ c) (hm : rows.length ≤ 140737488355328)
      (hl : ∀ r, r ∈ rows → r.length = sz)
      (hu : ∀ i r j x, rows[i]? = some r → r[j]? = some x → w.cell? ⟨b, o + i * sz + j, none⟩ = some (u i j))
      (hr : ∀ i r j x, rows[i]? = some r → r[j]? = some x → RepP ok w x (u i j)) : RepP ok w (.seq sz rows) (.slice (some ⟨b, o, none⟩) rows.length c)

theorem cell_congr {w w' : World} {b o : Nat} (h : w'.heap[b]? = w.heap[b]?) : w'.cell? ⟨b, o, none⟩ = w.cell? ⟨b, o, none⟩ := by
  simp [World.cell?, h]

theorem RepP.mono {ok ok' : Nat → Prop} {w w' : World} (h1 : ∀ b, ok b → ok' b) (h2 : ∀ b, ok b → w'.heap[b]? = w.heap[b]?) {x : PV} {v : Value} (h : RepP ok w x v) : RepP ok' w' x v := by
  induction h with
  | sc v h => exact .sc v h
  | emp sz a c h => exact .emp sz a c h
  | seq sz rows b o c u h0 hc hm hl hu hr ih =>
    exact .seq sz rows b o c u (h1 b h0) hc hm hl (fun i r j x hi hj => by rw [cell_congr (h2 b h0)]; exact hu i r j x hi hj) ih

theorem RepP.one {ok : Nat → Prop} {w : World} {x : PV} {v : Value} (h : RepP ok w x v) : v.oneCell' = true := by
  cases h <;> first | assumption | rfl

def Rep1 (E : Env) (x : AV) (v : Value) : Prop :=
  match x with
  | .any => True
  | .und => v = undef
  | .nil => v = .slice none 0 0
  | .emp => ∃ a c, v = .slice (some a) 0 c
  | .p x => RepP E.ok E.w x v
  | .ptr id row off => ∃ r, E.e id = some r ∧ v = .pointer (some ⟨r.b, row * r.sz + off, none⟩)
  | .fptr sz rows row off => ∃ b o c, RepP E.ok E.w (.seq sz rows) (.slice (some ⟨b, o, none⟩) rows.length c) ∧ v = .pointer (some ⟨b, o + row * sz + off, none⟩)
  | .sl id off len => ∃ r a, E.e id = some r ∧ off + len ≤ r.cap ∧ (off < r.cap → a = some ⟨r.b, off * r.sz, none⟩) ∧ v = .slice a len (r.cap - off)
  | .fn f caps => ∃ vs : List Value, v = .func (.func f) #[] vs.toArray ∧ All2 (fun (c : Nat × Nat × Nat) u => ∃ r, E.e c.1 = some r ∧ u = .pointer (some ⟨r.b, c.2.1 * r.sz + c.2.2, none⟩)) caps vs
  | .agg _ => False
  | .tup _ => False

def RepA (E : Env) (x : AV) (v : Value) : Prop :=
  match x with
  | .agg cs => ∃ vs : List Value, v = .agg vs.toArray ∧ All2 (fun x u => Rep1 E x u ∧ u.oneCell' = true) cs vs
  | x => Rep1 E x v

def Rep (E : Env) (x : AV) (v : Value) : Prop :=
  match x with
  | .tup ts => ∃ vs : List Value, v = .tuple vs.toArray ∧ All2 (RepA E) ts vs
  | x => RepA E x v

structure Ext (E E' : Env) : Prop where
  e : ∀ id r, E.e id = some r → E'.e id = some r
  ok : ∀ b, E.ok b → E'.ok b
  hp : ∀ b, E.ok b → E'.w.heap[b]? = E.w.heap[b]?

theorem Rep1.ext {E E' : Env} (h : Ext E E') {x : AV} {v : Value} (k : Rep1 E x v) : Rep1 E' x v := by
  cases x <;> simp only [Rep1] at k ⊢
  case und => exact k
  case nil => exact k
  case emp => exact k
  case p x => exact k.mono h.ok h.hp
  case ptr => obtain ⟨r, h1, h2⟩ := k; exact ⟨r, h.e _ _ h1, h2⟩
  case fptr => obtain ⟨b, o, c, h1, h2⟩ := k; exact ⟨b, o, c, h1.mono h.ok h.hp, h2⟩
  case sl => obtain ⟨r, a, h1, h2⟩ := k; exact ⟨r, a, h.e _ _ h1, h2⟩
  case fn => obtain ⟨vs, h1, h2⟩ := k; exact ⟨vs, h1, h2.imp fun c u ⟨r, h3, h4⟩ => ⟨r, h.e _ _ h3, h4⟩⟩

theorem RepA.ext {E E' : Env} (h : Ext E E') {x : AV} {v : Value} (k : RepA E x v) : RepA E' x v := by
  cases x <;> simp only [RepA] at k ⊢
  case agg => obtain ⟨vs, h1, h2⟩ := k; exact ⟨vs, h1, h2.imp fun _ _ ⟨h3, h4⟩ => ⟨h3.ext h, h4⟩⟩
  all_goals exact Rep1.ext h k

theorem Rep.ext {E E' : Env} (h : Ext E E') {x : AV} {v : Value} (k : Rep E x v) : Rep E' x v := by
  cases x <;> simp only [Rep] at k ⊢
  case tup => obtain ⟨vs, h1, h2⟩ := k; exact ⟨vs, h1, h2.imp fun _ _ h3 => h3.ext h⟩
  all_goals exact RepA.ext h k

inductive Blk where
  | box (t : TypeId) (cells : List AV)
  | arr (t sz : Nat) (rows : List (List AV))

def Cell1 (E : Env) (x : AV) (u : Value) : Prop := Rep1 E x u ∧ u.oneCell' = true
theorem Cell1.ext {E E' : Env} (h : Ext E E') {x : AV} {v : Value} (k : Cell1 E x v) : Cell1 E' x v := ⟨k.1.ext h, k.2⟩

def BlkRep (E : Env) (r : Root) : Blk → Prop
  | .box t cells => r.cap = 1 ∧ r.sz = cells.length ∧ ∃ cs : Array Value, E.w.heap[r.b]? = some (.cells cs t (0, 0)) ∧ All2 (Cell1 E) cells cs.toList
  | .arr t sz rows => r.sz = sz ∧ rows.length ≤ r.cap ∧ r.cap ≤ maxLen ∧ rows.length ≤ 140737488355328 ∧ (∀ x, x ∈ rows → x.length = sz) ∧
      (r.cap = 0 ∨ ∃ cs : Array Value, E.w.heap[r.b]? = some (.cells cs t (0, 0)) ∧ cs.size = r.cap * sz ∧ ∀ i x j y, rows[i]? = some x → x[j]? = some y → ∃ u, cs[i * sz + j]? = some u ∧ Cell1 E y u)

theorem BlkRep.ext {E E' : Env} (h : Ext E E') {r : Root} {k : Blk} (hb : 0 < r.cap → E'.w.heap[r.b]? = E.w.heap[r.b]?) (hk : BlkRep E r k) : BlkRep E' r k := by
  cases k with
  | box t cells =>
    obtain ⟨h1, h2, cs, h3, h4⟩ := hk
    exact ⟨h1, h2, cs, by rw [hb (by omega)]; exact h3, h4.imp fun _ _ k => k.ext h⟩
  | arr t sz rows =>
    obtain ⟨h1, h2, h2', h2b, h3, h4⟩ := hk
    refine ⟨h1, h2, h2', h2b, h3, ?_⟩
    rcases h4 with h4 | ⟨cs, h4, h5, h6⟩
    · exact .inl h4
    · by_cases hc : r.cap = 0
      · exact .inl hc
      · exact .inr ⟨cs, by rw [hb (by omega)]; exact h4, h5, fun i x j y hi hj => let ⟨u, h7, h8⟩ := h6 i x j y hi hj; ⟨u, h7, h8.ext h⟩⟩

/-- The blocks that own variables have. -/
def Owns (E : Env) (H : Nat → Option Blk) (b : Nat) : Prop := ∃ id k r, H id = some k ∧ E.e id = some r ∧ 0 < r.cap ∧ r.b = b

structure HeapOk (E : Env) (H : Nat → Option Blk) : Prop where
  live : ∀ id k, H id = some k → ∃ r, E.e id = some r ∧ BlkRep E r k ∧ (0 < r.cap → r.b < E.w.heap.size ∧ ¬ E.ok r.b)
  inj : ∀ id id' k k' r r', H id = some k → H id' = some k' → E.e id = some r → E.e id' = some r' → 0 < r.cap → 0 < r'.cap → r.b = r'.b → id = id'

/-- But for the blocks in M the world is as it was. -/
structure Kp (M : Nat → Prop) (w w' : World) : Prop where
  os : w'.os = w.os
  tape : w'.tape = w.tape
  output : w'.output = w.output
  size : w.heap.size ≤ w'.heap.size
  block : ∀ b, b < w.heap.size → ¬ M b → w'.heap[b]? = w.heap[b]?

theorem Kp.refl (M : Nat → Prop) (w : World) : Kp M w w := ⟨rfl, rfl, rfl, Nat.le_refl _, fun _ _ _ => rfl⟩
theorem Kp.trans {M M' : Nat → Prop} {a b c : World} (h : Kp M a b) (k : Kp M' b c) (hM : ∀ x, x < a.heap.size → M' x → M x) : Kp M a c :=
  ⟨k.os.trans h.os, k.tape.trans h.tape, k.output.trans h.output, Nat.le_trans h.size k.size, fun x hx hm => (k.block x (Nat.lt_of_lt_of_le hx h.size) (fun hm' => hm (hM x hx hm'))).trans (h.block x hx hm)⟩
theorem Kp.imp {M M' : Nat → Prop} {a b : World} (h : Kp M a b) (hM : ∀ x, M x → M' x) : Kp M' a b := ⟨h.os, h.tape, h.output, h.size, fun x hx hm => h.block x hx fun k => hm (hM x k)⟩

/-- One step, of an operation or of a call: what it touches (H), and what becomes of it (H'). -/
structure Post (E : Env) (H : Nat → Option Blk) (F : Nat → Prop) (E' : Env) (H' : Nat → Option Blk) (x : AV) (v : Value) : Prop where
  e : ∀ id r, E.e id = some r → E'.e id = some r
  new : ∀ id, E.e id = none → E'.e id ≠ none → F id
  ok : ∀ b, E.ok b → E'.ok b
  okn : ∀ b, E'.ok b → E.ok b ∨ E.w.heap.size ≤ b ∨ Owns E H b
  okb : ∀ b, E'.ok b → b < E'.w.heap.size
  rep : Rep E' x v
  heap : HeapOk E' H'
  blk : ∀ id k r, H' id = some k → E'.e id = some r → 0 < r.cap → E.w.heap.size ≤ r.b ∨ Owns E H r.b
  kp : Kp (Owns E H) E.w E'.w

theorem Post.refl {E : Env} {H : Nat → Option Blk} {F : Nat → Prop} {x : AV} {v : Value} (hh : HeapOk E H) (hb : ∀ b, E.ok b → b < E.w.heap.size) (h : Rep E x v) : Post E H F E H x v :=
  ⟨fun _ _ h => h, fun _ h k => (k h).elim, fun _ h => h, fun _ h => .inl h, hb, h, hh, fun id k r h1 h2 h3 => .inr ⟨id, k, r, h1, h2, h3, rfl⟩, Kp.refl _ _⟩

theorem Post.ext {E E' : Env} {H H' : Nat → Option Blk} {F : Nat → Prop} {x : AV} {v : Value} (p : Post E H F E' H' x v) (hh : HeapOk E H) (hb : ∀ b, E.ok b → b < E.w.heap.size) : Ext E E' :=
  ⟨p.e, p.ok, fun b h => p.kp.block b (hb b h) fun ⟨id, k, r, h1, h2, h3, h4⟩ => by
    obtain ⟨r', h5, _, h6⟩ := hh.live id k h1
    rw [h2] at h5; cases h5
    exact (h6 h3).2 (h4 ▸ h)⟩

/-- What a step doesn't touch stays. -/
theorem HeapOk.frame {E E' : Env} {Hf H' : Nat → Option Blk} {F : Nat → Prop} {x : AV} {v : Value} {D : Nat → Bool} (hf : HeapOk E Hf) (hb : ∀ b, E.ok b → b < E.w.heap.size)
    (p : Post E (fun id => bif D id then Hf id else none) F E' H' x v) :
    HeapOk E' (fun id => bif D id then H' id else Hf id) := by
  have sub : HeapOk E (fun id => bif D id then Hf id else none) := by
    constructor
    · intro id k h
      cases hd : D id <;> simp [hd] at h
      exact hf.live id k h
    · intro id id' k k' r r' h h'
      cases hd : D id <;> simp [hd] at h
      cases hd' : D id' <;> simp [hd'] at h'
      exact hf.inj id id' k k' r r' h h'
  have ex := p.ext sub hb
  -- an own block that is not touched
  have away : ∀ id k r, D id = false → Hf id = some k → E.e id = some r → 0 < r.cap → ¬ Owns E (fun id => bif D id then Hf id else none) r.b := by
    rintro id k r hd h1 h2 h3 ⟨id', k', r', g1, g2, g3, g4⟩
    cases hd' : D id' <;> simp [hd'] at g1
    have := hf.inj id' id k' k r' r g1 h1 g2 h2 g3 h3 g4
    subst this
    rw [hd] at hd'; cases hd'
  constructor
  · intro id k h
    cases hd : D id <;> simp [hd] at h
    · obtain ⟨r, h1, h2, h3⟩ := hf.live id k h
      refine ⟨r, p.e _ _ h1, h2.ext ex (fun hc => p.kp.block _ (h3 hc).1 (away id k r hd h h1 hc)), fun hc => ⟨Nat.lt_of_lt_of_le (h3 hc).1 p.kp.size, fun hok => ?_⟩⟩
      rcases p.okn _ hok with h4 | h4 | h4
      · exact (h3 hc).2 h4
      · have := (h3 hc).1; omega
      · exact away id k r hd h h1 hc h4
    · exact p.heap.live id k h
  · intro id id' k k' r r' h h' he he' hc hc' hbb
    cases hd : D id <;> simp [hd] at h <;> cases hd' : D id' <;> simp [hd'] at h'
    · obtain ⟨r0, h1, _⟩ := hf.live id k h
      obtain ⟨r0', h1', _⟩ := hf.live id' k' h'
      have := p.e _ _ h1; rw [he] at this; cases this
      have := p.e _ _ h1'; rw [he'] at this; cases this
      exact hf.inj id id' k k' r r' h h' h1 h1' hc hc' hbb
    · obtain ⟨r0, h1, _, h2⟩ := hf.live id k h
      have := p.e _ _ h1; rw [he] at this; cases this
      rcases p.blk id' k' r' h' he' hc' with g | g
      · have := (h2 hc).1; omega
      · exact (away id k r hd h h1 hc (hbb ▸ g)).elim
    · obtain ⟨r0, h1, _, h2⟩ := hf.live id' k' h'
      have := p.e _ _ h1; rw [he'] at this; cases this
      rcases p.blk id k r h he hc with g | g
      · have := (h2 hc').1; omega
      · exact (away id' k' r' hd' h' h1 hc' (hbb ▸ g)).elim
    · exact p.heap.inj id id' k k' r r' h h' he he' hc hc' hbb

end Go.Proofs.Am
