/- A law: from what the function does to the claim's row. -/
import Derived.Test.YtpkfagbllafehaaAmRead
import Derived.Below
namespace Go.Proofs.Am
open Go Go.RowKit

def envW (w : World) : Env := ⟨fun _ => none, okW w, w⟩
/-- A law answers true and leaves memory as it was. -/
theorem ConP.law {P : Program} {f : FuncId} {xs : List AV} (c : ConP P f xs (.p (bv true))) {W : World} {vals : List Value} (hv : All2 (RepA (envW W)) xs vals) :
    Calls P f vals.toArray W fun e w' => e = .returned (.bool true) ∧ Below W.heap.size W w' := by
  have := c.1.2 (envW W) vals (fun _ _ => rfl) hv ⟨fun _ _ h => by simp [look] at h, fun _ _ _ _ _ _ h => by simp [look] at h⟩ (fun b h => h)
  refine this.mono ?_
  rintro en w' ⟨v, E', rfl, rfl, p⟩
  have hr : RepP E'.ok E'.w (bv true) v := p.rep
  cases hr
  have hno : ∀ b, ¬ Owns (envW W) (look []) b := fun b ⟨id, k, r, h1, _⟩ => by simp [look] at h1
  exact ⟨rfl, ⟨p.kp.os, p.kp.tape, p.kp.output, p.kp.size, fun k hk => p.kp.block k hk (hno k)⟩⟩

theorem rep_one {W : World} {x : PV} {v : Value} (h : All2 (RepP (okW W) W) [x] [v]) : RepA (envW W) (.p x) v := by cases h with | cons k _ => exact k
/-- An argument's slice, as a pure value. -/
theorem arg_seq {H : Type} {enc : TypeId × Value → H} {P : Program} {W : World} {t : TypeId} {R : List PV → Prop} (h : Rd P t R) {A : Option Addr} {len cap : Nat} {d : DataW H} {p : List MemPlace}
    (ht : DataW.Trod enc P W 0 (fun _ => true) true t (.slice A len cap) d p) (hs : Sized P t d) : ∃ ps, R ps ∧ All2 (RepP (okW W) W) ps [.slice A len cap] := by
  obtain ⟨fuel, hf⟩ := ht
  obtain ⟨_, ps, h1, h2⟩ := h.get enc W true fuel _ (d, p) hf hs
  exact ⟨ps, h1, by simpa [Value.cells] using h2⟩
/-- An argument that is a struct or an array. -/
theorem arg_agg {H : Type} {enc : TypeId × Value → H} {P : Program} {W : World} {t : TypeId} {R : List PV → Prop} (h : Rd P t R) {cs : Array Value} {d : DataW H} {p : List MemPlace}
    (ht : DataW.Trod enc P W 0 (fun _ => true) true t (.agg cs) d p) (hs : Sized P t d) : ∃ ps, R ps ∧ All2 (RepP (okW W) W) ps cs.toList := by
  obtain ⟨fuel, hf⟩ := ht
  obtain ⟨_, ps, h1, h2⟩ := h.get enc W true fuel _ (d, p) hf hs
  exact ⟨ps, h1, by simpa [Value.cells] using h2⟩
theorem repA_agg {E : Env} {ps : List PV} {cs : Array Value} (h : All2 (RepP E.ok E.w) ps cs.toList) : RepA E (.agg (ps.map .p)) (.agg cs) := by
  refine ⟨cs.toList, by simp, ?_⟩
  generalize cs.toList = l at h
  induction h with
  | nil => exact .nil
  | cons k _ ih => exact .cons ⟨k, k.one⟩ ih
end Go.Proofs.Am
