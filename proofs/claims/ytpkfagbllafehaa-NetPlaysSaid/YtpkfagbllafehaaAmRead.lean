/- Data that came in, as pure values. -/
import Derived.Deep.Slices
import Derived.SizedLaws
import Derived.OpenShut
import Derived.ChangeOld
import Derived.WideShapes
import Derived.Lib.SmallJoins
import Derived.Test.YtpkfagbllafehaaAmNet5
namespace Go.Proofs.Am
open Go Go.RowKit Go.ChangeShapes Go.WideShapes
set_option linter.unusedVariables false
set_option linter.unusedSimpArgs false

def okW (w : World) (b : Nat) : Prop := b < w.heap.size
/-- No part of the data weighs more than may be read. -/
def Sized {H : Type} (P : Program) (t : TypeId) (d : DataW H) : Prop := ∀ n ∈ d.weights P t, n ≤ reachBytes
/-- What reads as data of type t is pure, and such as R says. -/
structure Rd (P : Program) (t : TypeId) (R : List PV → Prop) : Prop where
  get : ∀ {H : Type} (enc : TypeId × Value → H) (w : World) (held : Bool) (fuel : Nat) (cs : List Value) (x : DataW H × List MemPlace),
    DataW.trod enc P w 0 (fun _ => true) held fuel t cs = some x → Sized P t x.1 → cs.length = P.cellsOf t ∧ ∃ ps, R ps ∧ All2 (RepP (okW w) w) ps cs

theorem Rd.imp {P : Program} {t : TypeId} {R R' : List PV → Prop} (h : Rd P t R) (hg : ∀ a, R a → R' a) : Rd P t R' :=
  Rd.mk fun enc w held fuel cs x hx hs => by
    obtain ⟨h1, ps, h2, h3⟩ := h.get enc w held fuel cs x hx hs
    exact ⟨h1, ps, hg _ h2, h3⟩
theorem Rd.int {P : Program} {t : TypeId} {k : IntKind} (ht : P.underlying t = some (.int k)) (hc : P.cellsOf t = 1) : Rd P t (fun ps => ∃ n, ps = [.sc (.int k n)] ∧ (Lit.int k n).wf = true) :=
  Rd.mk fun enc w held fuel cs x hx _ => by
    obtain ⟨n, rfl, _, hw⟩ := DataW.trod_int ht hx
    exact ⟨hc.symm, [.sc (.int k n)], ⟨n, rfl, hw⟩, .cons (.sc _ rfl) .nil⟩
theorem trod_bool_ {H : Type} {enc : TypeId × Value → H} {P : Program} {w : World} {base : Nat} {spare : Nat → Bool} {held : Bool} {fuel : Nat} {t : TypeId} {cs : List Value} {x : DataW H × List MemPlace}
    (ht : P.underlying t = some .bool) (h : DataW.trod enc P w base spare held fuel t cs = some x) : ∃ b, cs = [.bool b] := by
  cases fuel with
  | zero => simp [DataW.trod] at h
  | succ n =>
    unfold DataW.trod at h
    rw [ht] at h
    split at h <;> simp_all
theorem Rd.bool {P : Program} {t : TypeId} (ht : P.underlying t = some .bool) (hc : P.cellsOf t = 1) : Rd P t (fun ps => ∃ b, ps = [.sc (.bool b)]) :=
  Rd.mk fun enc w held fuel cs x hx _ => by
    obtain ⟨b, rfl⟩ := trod_bool_ ht hx
    exact ⟨hc.symm, [.sc (.bool b)], ⟨b, rfl⟩, .cons (.sc _ rfl) .nil⟩
theorem Rd.string {P : Program} {t : TypeId} (ht : P.underlying t = some .string) (hc : P.cellsOf t = 1) : Rd P t (fun ps => ∃ s, ps = [.sc (.string s)] ∧ s.size ≤ 140737488351232) :=
  Rd.mk fun enc w held fuel cs x hx hs => by
    obtain ⟨s, rfl, rfl, _⟩ := DataW.trod_string ht hx
    have h1 := hs s.data.toList.length (by simp [DataW.weights])
    have h2 : s.data.toList.length = s.size := by rw [Array.length_toList]; rfl
    rw [h2] at h1
    exact ⟨hc.symm, [.sc (.string s)], ⟨s, rfl, h1⟩, .cons (.sc _ rfl) .nil⟩

theorem list_of {α : Type} {n : Nat} {p : Nat → α → Prop} (h : ∀ i, i < n → ∃ x, p i x) : ∃ xs : List α, xs.length = n ∧ ∀ i x, xs[i]? = some x → p i x := by
  induction n with
  | zero => exact ⟨[], rfl, fun i x hx => by simp at hx⟩
  | succ n ih =>
    obtain ⟨xs, hl, hx⟩ := ih (fun i hi => h i (by omega))
    obtain ⟨y, hy⟩ := h n (by omega)
    refine ⟨xs ++ [y], by simp [hl], fun i x he => ?_⟩
    rcases Nat.lt_or_ge i xs.length with hi | hi
    · rw [List.getElem?_append_left hi] at he
      exact hx i x he
    · have hi' : i = xs.length := by
        have := (List.getElem?_eq_some_iff.1 he).1
        simp at this
        omega
      subst hi'
      have e : y = x := by simpa using he
      subst e
      rw [hl]
      exact hy
theorem weightsAll_mem {H : Type} {P : Program} {e : TypeId} {d : DataW H} {m : Nat} (hm : m ∈ d.weights P e) : ∀ {l : List (DataW H)}, d ∈ l → m ∈ DataW.weightsAll P e l
  | [], h => by cases h
  | c :: l, h => by
    rw [DataW.weightsAll, List.mem_append]
    rcases List.mem_cons.1 h with rfl | h
    · exact Or.inl hm
    · exact Or.inr (weightsAll_mem hm h)

theorem Rd.slice {P : Program} {t e : TypeId} {R : List PV → Prop} (sz : Nat) (ht : P.underlying t = some (.slice e)) (hc : P.cellsOf t = 1) (hsz : P.cellsOf e = sz) (hsp : 0 < sz) (hbp : 0 < P.bytesOf e) (he : Rd P e R) :
    Rd P t (fun ps => ∃ rows, ps = [.seq sz rows] ∧ (∀ r ∈ rows, R r) ∧ rows.length * P.bytesOf e ≤ 140737488351232) :=
  Rd.mk fun enc w held fuel cs x hx hs => by
    subst hsz
    rcases Go.Deep.open_slice ht hx with ⟨rfl, rfl⟩ | ⟨a, len, cap, m, n, D, Pl, rfl, hb, hl, hm, hmm, rfl, hel⟩
    · exact ⟨hc.symm, [.seq _ []], ⟨[], rfl, (fun _ h => by cases h), by simp⟩, .cons (.emp _ _ _ fun _ => rfl) .nil⟩
    · simp only [if_true] at hmm
      subst hmm
      have hz : (len + (m - len)) * P.bytesOf e ≤ reachBytes := hs ((len + (m - len)) * P.bytesOf e) (by simp [DataW.weights, ht])
      obtain ⟨rows, hxl, hxs⟩ := list_of (n := len) (p := fun i r => ∃ cs', w.cells? 0 (a.add (i * P.cellsOf e)) (P.cellsOf e) = some cs' ∧ R r ∧ All2 (RepP (okW w) w) r cs') (fun i hi => by
        obtain ⟨cs', h1, h2⟩ := hel i (by omega)
        obtain ⟨y1, ps, y2, y3⟩ := he.get enc w held n cs' (D i, Pl i) h2 (fun q hq => hs q (by
          simp only [DataW.weights, ht, List.mem_cons, List.mem_append]
          exact Or.inr (Or.inl (weightsAll_mem hq (List.mem_map.2 ⟨i, List.mem_range.2 hi, rfl⟩)))))
        exact ⟨ps, cs', h1, y2, y3⟩)
      have hb' : rows.length * P.bytesOf e ≤ 140737488351232 := by
        rw [hxl]
        exact Nat.le_trans (Nat.mul_le_mul_right _ (by omega)) hz
      have hlen47 : rows.length ≤ 140737488355328 := by
        have := Nat.le_mul_of_pos_right rows.length hbp
        omega
      refine ⟨hc.symm, [.seq _ rows], ⟨rows, rfl, fun r hr => ?_, hb'⟩, .cons ?_ .nil⟩
      · obtain ⟨i, hi⟩ := List.getElem?_of_mem hr
        obtain ⟨_, _, hg, _⟩ := hxs i r hi
        exact hg
      · subst hxl
        rcases Nat.eq_zero_or_pos rows.length with h0 | h0
        · have : rows = [] := List.eq_nil_of_length_eq_zero h0
          subst this
          exact .emp _ _ _ fun h => by cases h
        · obtain ⟨r0, hr0⟩ : ∃ r0, rows[0]? = some r0 := ⟨_, List.getElem?_eq_getElem h0⟩
          obtain ⟨cs0, c1, _, c3⟩ := hxs 0 r0 hr0
          obtain ⟨_, c4, c5⟩ := World.cells?_some c1
          have c6 := c5 0 hsp
          have hadd : (a.add (0 * P.cellsOf e)).add 0 = a := by simp [Addr.add]
          rw [hadd, List.getElem?_eq_getElem (by omega)] at c6
          obtain ⟨blk, off, spot⟩ := a
          have hspot : spot = none ∧ blk < w.heap.size := by
            unfold World.cell? at c6
            cases hq : w.heap[blk]? with
            | none => simp only [hq] at c6; cases c6
            | some ob =>
              refine ⟨?_, (Array.getElem?_eq_some_iff.1 hq).1⟩
              simp only [hq] at c6
              cases ob <;> simp only at c6
              · cases spot with
                | none => rfl
                | some q => simp at c6
              all_goals cases c6
          obtain ⟨rfl, hblk⟩ := hspot
          have hcell : ∀ i r j x, rows[i]? = some r → r[j]? = some x → ∃ u, w.cell? ⟨blk, off + i * P.cellsOf e + j, none⟩ = some u ∧ RepP (okW w) w x u := fun i r j x hi hj => by
            obtain ⟨cs', d1, _, d3⟩ := hxs i r hi
            obtain ⟨_, d4, d5⟩ := World.cells?_some d1
            obtain ⟨u, u1, u2⟩ := d3.get hj
            have hjl : j < P.cellsOf e := by rw [← d4]; exact (List.getElem?_eq_some_iff.1 u1).1
            have d6 := d5 j hjl
            rw [u1, Addr.add_lit, Addr.add_lit] at d6
            exact ⟨u, d6, u2⟩
          refine RepP.seq _ rows blk off _ (fun i j => (w.cell? ⟨blk, off + i * P.cellsOf e + j, none⟩).getD undef) hblk hl hlen47 (fun r hr => ?_) (fun i r j x hi hj => ?_) (fun i r j x hi hj => ?_)
          · obtain ⟨i, hi⟩ := List.getElem?_of_mem hr
            obtain ⟨cs', d1, _, d3⟩ := hxs i r hi
            rw [d3.length]; exact (World.cells?_some d1).2.1
          · obtain ⟨u, u1, _⟩ := hcell i r j x hi hj
            rw [u1]; rfl
          · obtain ⟨u, u1, u2⟩ := hcell i r j x hi hj
            simp only [u1, Option.getD_some]; exact u2

/-- Fields in line, from cell off on. -/
structure RdF (P : Program) (fs : List Field) (off sz : Nat) (R : List PV → Prop) : Prop where
  get : ∀ {H : Type} (enc : TypeId × Value → H) (w : World) (held : Bool) (fuel : Nat) (cs : List Value) (xs : List (DataW H × List MemPlace)),
    (∀ (i : Nat) (f : Field), fs[i]? = some f → DataW.trod enc P w 0 (fun _ => true) held fuel f.type ((cs.drop f.offset).take (P.cellsOf f.type)) = xs[i]?) → xs.length = fs.length →
    (∀ n ∈ DataW.weightsEach P (fs.map (·.type)) (xs.map (·.1)), n ≤ reachBytes) → cs.length = off + sz → ∃ ps, R ps ∧ All2 (RepP (okW w) w) ps (cs.drop off)

theorem RdF.nil {P : Program} {off : Nat} : RdF P [] off 0 (fun ps => ps = []) := RdF.mk fun enc w held fuel cs xs hx hl hw hc => ⟨[], rfl, by rw [List.drop_of_length_le (by omega)]; exact .nil⟩
theorem RdF.cons {P : Program} {f : Field} {fs : List Field} {off sz sz' : Nat} {R R' : List PV → Prop} {t : TypeId} (h : Rd P t R) (hsz : P.cellsOf t = sz) (hr : RdF P fs (off + sz) sz' R') (ht : f.type = t) (ho : f.offset = off) :
    RdF P (f :: fs) off (sz + sz') (fun ps => ∃ a b, ps = a ++ b ∧ R a ∧ R' b) := by
  subst ht
  refine RdF.mk fun {H} enc w held fuel cs xs hx hl hw hc => ?_
  match xs, hl with
  | y :: ys, hl =>
    have h1 := hx 0 f rfl
    rw [ho, hsz] at h1
    obtain ⟨_, a, hK, hg⟩ := h.get enc w held fuel _ y h1 (fun n hn => hw n (by simp [DataW.weightsEach, hn]))
    obtain ⟨b, hK', hg'⟩ := hr.get enc w held fuel cs ys (fun i f' hf => hx (i + 1) f' (by simpa using hf)) (by simpa using hl) (fun n hn => hw n (by simp [DataW.weightsEach, hn])) (by omega)
    refine ⟨a ++ b, ⟨a, b, rfl, hK, hK'⟩, ?_⟩
    have := hg.append hg'
    rw [← List.drop_drop, List.take_append_drop] at this
    exact this
theorem Rd.struct {P : Program} {t : TypeId} {fs : List Field} {sz : Nat} {R : List PV → Prop} (ht : P.underlying t = some (.struct fs.toArray)) (hc : P.cellsOf t = sz) (h : RdF P fs 0 sz R) : Rd P t R :=
  Rd.mk fun enc w held fuel cs x hx hs => by
    obtain ⟨xs, n, _, rfl, hl, hlen, hf⟩ := DataW.trod_struct ht hx
    obtain ⟨a, hK, hg⟩ := h.get enc w held n cs xs (fun i f hi => hf i f (by simpa using hi)) (by simpa using hlen) (fun m hm => hs m (by simpa [DataW.weights, ht] using hm)) (by rw [hl, hc, Nat.zero_add])
    exact ⟨hl, a, hK, by simpa using hg⟩

/-- Rows that are each of one shape. -/
theorem rows_of {α : Type} {f : α → List PV} {good : α → Prop} : ∀ {rows : List (List PV)}, (∀ r ∈ rows, ∃ x, r = f x ∧ good x) → ∃ l : List α, rows = l.map f ∧ ∀ x ∈ l, good x
  | [], _ => ⟨[], rfl, fun _ h => by cases h⟩
  | r :: rs, h => by
    obtain ⟨x, rfl, hx⟩ := h _ List.mem_cons_self
    obtain ⟨l, rfl, hl⟩ := rows_of fun q hq => h q (List.mem_cons_of_mem _ hq)
    exact ⟨x :: l, rfl, fun y hy => by rcases List.mem_cons.1 hy with rfl | hy; exact hx; exact hl y hy⟩

theorem sized_of {H : Type} {P : Program} {ts : List TypeId} {ds : List (DataW H)} (h : (DataW.weightsEach P ts ds).all (· ≤ reachBytes) = true) {j : Nat} {t : TypeId} {d : DataW H} (ht : ts[j]? = some t) (hd : ds[j]? = some d) : Sized P t d := fun n hn => by
  have := List.all_eq_true.1 h _ (DataW.weights_mem_each ht hd n hn)
  simpa using this
end Go.Proofs.Am
