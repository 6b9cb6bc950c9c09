/- Data that came in, read as Lean values: what reads as data of a type is a value of a kind, and good (numbers in range, rows no longer than fits).
   Conditions: none. -/
import Derived.Deep.Slices
import Derived.SizedLaws
import Derived.OpenShut
import Derived.ChangeOld
import Derived.WideShapes
import Derived.Lib.SmallJoins
import Derived.Test.YtpkfagbllafehaaWWords
namespace Go.Proofs.Ytpkfagbllafehaa.Opn
open Go.RowKit Go.Proofs.YtpkfagbllafehaaW.PrintWords Go.ChangeShapes Go.WideShapes

/-- No part of the data weighs more than may be read. -/
def Sized {H : Type} (P : Program) (t : TypeId) (d : DataW H) : Prop := ∀ n ∈ d.weights P t, n ≤ reachBytes

/-- What reads as data of type t is a value of kind k that is good. -/
def Rd {α : Type} (P : Program) (t : TypeId) (k : Kd α) (good : α → Prop) : Prop :=
  k.sz = P.cellsOf t ∧ ∀ {H : Type} (enc : TypeId × Value → H) (w : World) (held : Bool) (fuel : Nat) (cs : List Value) (x : DataW H × List MemPlace),
    DataW.trod enc P w 0 (fun _ => true) held fuel t cs = some x → Sized P t x.1 → ∃ a, k.K w a cs ∧ good a

theorem Rd.imp {α : Type} {P : Program} {t : TypeId} {k : Kd α} {good good' : α → Prop} (h : Rd P t k good) (hg : ∀ a, good a → good' a) : Rd P t k good' :=
  ⟨h.1, fun enc w held fuel cs x hx hs => by
    obtain ⟨a, hk, ha⟩ := h.2 enc w held fuel cs x hx hs
    exact ⟨a, hk, hg a ha⟩⟩

theorem Rd.int {P : Program} {t : TypeId} {k : IntKind} (ht : P.underlying t = some (.int k)) (hc : P.cellsOf t = 1) : Rd P t (Kd.int k) (fun n => (Lit.int k n).wf = true) :=
  ⟨hc.symm, fun enc w held fuel cs x hx _ => by
    obtain ⟨n, rfl, _, hw⟩ := DataW.trod_int ht hx
    exact ⟨n, rfl, hw⟩⟩

theorem trod_bool_ {H : Type} {enc : TypeId × Value → H} {P : Program} {w : World} {base : Nat} {spare : Nat → Bool} {held : Bool} {fuel : Nat} {t : TypeId} {cs : List Value} {x : DataW H × List MemPlace}
    (ht : P.underlying t = some .bool) (h : DataW.trod enc P w base spare held fuel t cs = some x) : ∃ b, cs = [.bool b] := by
  cases fuel with
  | zero => simp [DataW.trod] at h
  | succ n =>
    unfold DataW.trod at h
    rw [ht] at h
    split at h <;> simp_all

theorem Rd.bool {P : Program} {t : TypeId} (ht : P.underlying t = some .bool) (hc : P.cellsOf t = 1) : Rd P t Kd.bool (fun _ => True) :=
  ⟨hc.symm, fun enc w held fuel cs x hx _ => by
    obtain ⟨b, rfl⟩ := trod_bool_ ht hx
    exact ⟨b, rfl, trivial⟩⟩

theorem Rd.string {P : Program} {t : TypeId} (ht : P.underlying t = some .string) (hc : P.cellsOf t = 1) : Rd P t Kd.string (fun s => s.size ≤ 140737488351232) :=
  ⟨hc.symm, fun enc w held fuel cs x hx hs => by
    obtain ⟨s, rfl, rfl, _⟩ := DataW.trod_string ht hx
    have h1 := hs s.data.toList.length (by simp [DataW.weights])
    have h2 : s.data.toList.length = s.size := by rw [Array.length_toList]; rfl
    rw [h2] at h1
    exact ⟨s, rfl, h1⟩⟩

theorem list_of {α : Type} {n : Nat} {p : Nat → α → Prop} (h : ∀ i, i < n → ∃ x, p i x) : ∃ xs : List α, xs.length = n ∧ ∀ i x, xs[i]? = some x → p i x := by
  induction n with
  | zero => exact ⟨[], rfl, fun i x hx => by simp at hx⟩
  | succ n ih =>
    obtain ⟨xs, hl, hx⟩ := ih (fun i hi => h i (by omega))
    obtain ⟨y, hy⟩ := h n (by omega)
    refine ⟨xs ++ [y], by simp [hl], fun i x he => ?_⟩
    rcases Nat.lt_or_ge i xs.length with hi | hi
    · rw [List.getElem?_append_left hi] at he
      exact hx i x he
    · have hi' : i = xs.length := by
        have := (List.getElem?_eq_some_iff.1 he).1
        simp at this
        omega
      subst hi'
      have e : y = x := by simpa using he
      subst e
      rw [hl]
      exact hy

theorem weightsAll_mem {H : Type} {P : Program} {e : TypeId} {d : DataW H} {m : Nat} (hm : m ∈ d.weights P e) : ∀ {l : List (DataW H)}, d ∈ l → m ∈ DataW.weightsAll P e l
  | [], h => by cases h
  | c :: l, h => by
    rw [DataW.weightsAll, List.mem_append]
    rcases List.mem_cons.1 h with rfl | h
    · exact Or.inl hm
    · exact Or.inr (weightsAll_mem hm h)

theorem Rd.slice {α : Type} {P : Program} {t e : TypeId} {k : Kd α} {good : α → Prop} (ht : P.underlying t = some (.slice e)) (hc : P.cellsOf t = 1) (he : Rd P e k good) :
    Rd P t (Kd.slice e k) (fun l => l.length * P.bytesOf e ≤ 140737488351232 ∧ ∀ x ∈ l, good x) :=
  ⟨hc.symm, fun enc w held fuel cs x hx hs => by
    rcases Go.Deep.open_slice ht hx with ⟨rfl, rfl⟩ | ⟨a, len, cap, m, n, D, Pl, rfl, hb, hl, hm, hmm, rfl, hel⟩
    · exact ⟨[], ⟨none, 0, rfl, Nat.le_refl _, Kd.C_nil _ _⟩, by simp⟩
    · simp only [if_true] at hmm
      subst hmm
      have hz : (len + (m - len)) * P.bytesOf e ≤ reachBytes := by
        have := hs ((len + (m - len)) * P.bytesOf e) (by simp [DataW.weights, ht])
        exact this
      obtain ⟨xs, hxl, hxs⟩ := list_of (n := len) (p := fun i x => ∃ cs', w.cells? 0 (a.add (i * P.cellsOf e)) (P.cellsOf e) = some cs' ∧ k.K w x cs' ∧ good x) (fun i hi => by
        obtain ⟨cs', h1, h2⟩ := hel i (by omega)
        obtain ⟨y, hK, hg⟩ := he.2 enc w held n cs' (D i, Pl i) h2 (fun q hq => hs q (by
          simp only [DataW.weights, ht, List.mem_cons, List.mem_append]
          exact Or.inr (Or.inl (weightsAll_mem hq (List.mem_map.2 ⟨i, List.mem_range.2 hi, rfl⟩)))))
        exact ⟨y, cs', h1, hK, hg⟩)
      have hb' : xs.length * P.bytesOf e ≤ 140737488351232 := by
        rw [hxl]
        refine Nat.le_trans (Nat.mul_le_mul_right _ ?_) hz
        omega
      refine ⟨xs, ⟨some a, m, by rw [hxl], by rw [hxl]; exact hl, ?_⟩, hb', fun x hx => ?_⟩
      · refine ⟨rfl, by rw [hxl]; simp only [maxLen] at hm; omega, fun _ => ⟨a, rfl, fun j p hj => ?_⟩⟩
        obtain ⟨cs', h1, h2, _⟩ := hxs j p hj
        obtain ⟨_, h3, h4⟩ := World.cells?_some h1
        refine ⟨cs', by rw [h3, he.1], h2, fun i u hu => ?_⟩
        have hi : i < P.cellsOf e := by rw [← h3]; exact (List.getElem?_eq_some_iff.1 hu).1
        have h5 := h4 i hi
        rw [hu, Go.Deep.add_add] at h5
        rw [he.1]
        exact h5
      · obtain ⟨i, hi⟩ := List.getElem?_of_mem hx
        obtain ⟨_, _, _, hg⟩ := hxs i x hi
        exact hg⟩

/-- Fields in line, from cell off on. -/
def RdF {α : Type} (P : Program) (fs : List Field) (off : Nat) (k : Kd α) (good : α → Prop) : Prop :=
  ∀ {H : Type} (enc : TypeId × Value → H) (w : World) (held : Bool) (fuel : Nat) (cs : List Value) (xs : List (DataW H × List MemPlace)),
    (∀ (i : Nat) (f : Field), fs[i]? = some f → DataW.trod enc P w 0 (fun _ => true) held fuel f.type ((cs.drop f.offset).take (P.cellsOf f.type)) = xs[i]?) → xs.length = fs.length →
    (∀ n ∈ DataW.weightsEach P (fs.map (·.type)) (xs.map (·.1)), n ≤ reachBytes) → cs.length = off + k.sz → ∃ a, k.K w a (cs.drop off) ∧ good a

theorem RdF.one {α : Type} {P : Program} {f : Field} {off : Nat} {k : Kd α} {good : α → Prop} {t : TypeId} (h : Rd P t k good) (ht : f.type = t) (ho : f.offset = off) : RdF P [f] off k good := by
  subst ht
  intro H enc w held fuel cs xs hx hl hw hc
  match xs, hl with
  | [y], _ =>
    have h1 := hx 0 f rfl
    rw [ho, ← h.1, List.take_of_length_le (by rw [List.length_drop]; omega)] at h1
    refine h.2 enc w held fuel _ y h1 (fun n hn => hw n ?_)
    simp [DataW.weightsEach, hn]

theorem RdF.cons {α β : Type} {P : Program} {f : Field} {fs : List Field} {off : Nat} {k : Kd α} {k' : Kd β} {good : α → Prop} {good' : β → Prop} {t : TypeId} (h : Rd P t k good) (hr : RdF P fs (off + k.sz) k' good') (ht : f.type = t) (ho : f.offset = off) :
    RdF P (f :: fs) off (Kd.pair k k') (fun x => good x.1 ∧ good' x.2) := by
  subst ht
  intro H enc w held fuel cs xs hx hl hw hc
  match xs, hl with
  | y :: ys, hl =>
    have hc2 : cs.length = off + (k.sz + k'.sz) := hc
    have h1 := hx 0 f rfl
    rw [ho, ← h.1] at h1
    obtain ⟨a, hK, hg⟩ := h.2 enc w held fuel _ y h1 (fun n hn => hw n (by simp [DataW.weightsEach, hn]))
    obtain ⟨b, hK', hg'⟩ := hr enc w held fuel cs ys (fun i f' hf => hx (i + 1) f' (by simpa using hf)) (by simpa using hl) (fun n hn => hw n (by simp [DataW.weightsEach, hn])) (by omega)
    refine ⟨(a, b), ⟨_, _, ?_, hK, hK'⟩, hg, hg'⟩
    rw [← List.drop_drop, List.take_append_drop]

theorem Rd.struct {α : Type} {P : Program} {t : TypeId} {fs : List Field} {k : Kd α} {good : α → Prop} (ht : P.underlying t = some (.struct fs.toArray)) (hc : k.sz = P.cellsOf t) (h : RdF P fs 0 k good) : Rd P t k good :=
  ⟨hc, fun enc w held fuel cs x hx hs => by
    obtain ⟨xs, n, _, rfl, hl, hlen, hf⟩ := DataW.trod_struct ht hx
    obtain ⟨a, hK, hg⟩ := h enc w held n cs xs (fun i f hi => hf i f (by simpa using hi)) (by simpa using hlen) (fun m hm => hs m (by simpa [DataW.weights, ht] using hm)) (by rw [hl, ← hc, Nat.zero_add])
    exact ⟨a, by simpa using hK, hg⟩⟩

theorem Rd.iso {α β : Type} {P : Program} {t : TypeId} {k : Kd α} {good : α → Prop} (f : β → α) (g : α → β) (hfg : ∀ y, f (g y) = y) (h : Rd P t k good) : Rd P t (Kd.iso k f) (fun x => good (f x)) :=
  ⟨h.1, fun enc w held fuel cs x hx hs => by
    obtain ⟨a, hK, hg⟩ := h.2 enc w held fuel cs x hx hs
    exact ⟨g a, by show k.K w (f (g a)) cs; rw [hfg]; exact hK, by show good (f (g a)); rw [hfg]; exact hg⟩⟩

theorem Rd.arr2 {α : Type} {P : Program} {t e : TypeId} {k : Kd α} {good : α → Prop} (ht : P.underlying t = some (.array 2 e)) (hc : P.cellsOf t = k.sz + k.sz) (h : Rd P e k good) : Rd P t (Kd.pair k k) (fun x => good x.1 ∧ good x.2) :=
  ⟨hc.symm, fun enc w held fuel cs x hx hs => by
    obtain ⟨xs, n, _, rfl, hl, hlen, hf⟩ := DataW.trod_array ht hx
    match xs, hlen with
    | [y0, y1], _ =>
      have h0 := hf 0 (by omega)
      have h1 := hf 1 (by omega)
      rw [← h.1, Nat.zero_mul, List.drop_zero] at h0
      rw [← h.1, Nat.one_mul, List.take_of_length_le (by rw [List.length_drop]; omega)] at h1
      obtain ⟨a, hK, hg⟩ := h.2 enc w held n _ y0 h0 (fun m hm => hs m (by simp [DataW.weights, ht, DataW.weightsAll, hm]))
      obtain ⟨b, hK', hg'⟩ := h.2 enc w held n _ y1 h1 (fun m hm => hs m (by simp [DataW.weights, ht, DataW.weightsAll, hm]))
      exact ⟨(a, b), ⟨_, _, (List.take_append_drop _ _).symm, hK, hK'⟩, hg, hg'⟩⟩

theorem Rd.arr3 {α : Type} {P : Program} {t e : TypeId} {k : Kd α} {good : α → Prop} (ht : P.underlying t = some (.array 3 e)) (hc : P.cellsOf t = k.sz + (k.sz + k.sz)) (h : Rd P e k good) : Rd P t (Kd.pair k (Kd.pair k k)) (fun x => good x.1 ∧ good x.2.1 ∧ good x.2.2) :=
  ⟨hc.symm, fun enc w held fuel cs x hx hs => by
    obtain ⟨xs, n, _, rfl, hl, hlen, hf⟩ := DataW.trod_array ht hx
    match xs, hlen with
    | [y0, y1, y2], _ =>
      have h0 := hf 0 (by omega)
      have h1 := hf 1 (by omega)
      have h2 := hf 2 (by omega)
      rw [← h.1, Nat.zero_mul, List.drop_zero] at h0
      rw [← h.1, Nat.one_mul] at h1
      rw [← h.1, List.take_of_length_le (by rw [List.length_drop]; omega)] at h2
      obtain ⟨a, hK, hg⟩ := h.2 enc w held n _ y0 h0 (fun m hm => hs m (by simp [DataW.weights, ht, DataW.weightsAll, hm]))
      obtain ⟨b, hK', hg'⟩ := h.2 enc w held n _ y1 h1 (fun m hm => hs m (by simp [DataW.weights, ht, DataW.weightsAll, hm]))
      obtain ⟨c, hK2, hg2⟩ := h.2 enc w held n _ y2 h2 (fun m hm => hs m (by simp [DataW.weights, ht, DataW.weightsAll, hm]))
      refine ⟨(a, b, c), ⟨_, _, (List.take_append_drop k.sz _).symm, hK, ⟨_, _, (List.take_append_drop k.sz _).symm, hK', ?_⟩⟩, hg, hg', hg2⟩
      rw [List.drop_drop, show k.sz + k.sz = 2 * k.sz by omega]
      exact hK2⟩

/-- An argument's slice, as it is handed to the call. -/
theorem arg_slice {α : Type} {H : Type} {enc : TypeId × Value → H} {P : Program} {W : World} {t e : TypeId} {k : Kd α} {good : List α → Prop} (h : Rd P t (Kd.slice e k) good) {A : Option Addr} {len cap : Nat} {d : DataW H} {p : List MemPlace}
    (ht : DataW.Trod enc P W 0 (fun _ => true) true t (.slice A len cap) d p) (hs : Sized P t d) : ∃ l : List α, len = l.length ∧ l.length ≤ cap ∧ k.C W A l.length l ∧ good l := by
  obtain ⟨fuel, hf⟩ := ht
  obtain ⟨l, ⟨A', c', he, hl, hC⟩, hg⟩ := h.2 enc W true fuel _ (d, p) hf hs
  have he2 : [Value.slice A len cap] = [.slice A' l.length c'] := by simpa [Value.cells] using he
  simp only [List.cons.injEq, Value.slice.injEq, and_true] at he2
  obtain ⟨rfl, rfl, rfl⟩ := he2
  exact ⟨l, rfl, hl, hC, hg⟩

/-- An argument that is a struct, by value. -/
theorem arg_agg {α : Type} {H : Type} {enc : TypeId × Value → H} {P : Program} {W : World} {t : TypeId} {k : Kd α} {good : α → Prop} (h : Rd P t k good) {cs : Array Value} {d : DataW H} {p : List MemPlace}
    (ht : DataW.Trod enc P W 0 (fun _ => true) true t (.agg cs) d p) (hs : Sized P t d) : ∃ x : α, k.K W x cs.toList ∧ good x := by
  obtain ⟨fuel, hf⟩ := ht
  exact h.2 enc W true fuel _ (d, p) (by simpa [Value.cells] using hf) hs

theorem sized_of {H : Type} {P : Program} {ts : List TypeId} {ds : List (DataW H)} (h : (DataW.weightsEach P ts ds).all (· ≤ reachBytes) = true) {j : Nat} {t : TypeId} {d : DataW H} (ht : ts[j]? = some t) (hd : ds[j]? = some d) : Sized P t d := fun n hn => by
  have := List.all_eq_true.1 h _ (DataW.weights_mem_each ht hd n hn)
  simpa using this
end Go.Proofs.Ytpkfagbllafehaa.Opn
