/- NetPlays: the walk of the law. -/
import Derived.Test.YtpkfagbllafehaaAmNet4
namespace Go.Proofs.Am
open Go Go.Proofs
set_option maxRecDepth 100000
set_option maxHeartbeats 0
structure POp where
  kind : Int
  i : Int
  list : List PPacket
def POp.cells (o : POp) : List PV := [iv o.kind, iv o.i, .seq 15 (packRows o.list)]
def opRows (l : List POp) : List (List PV) := l.map POp.cells
@[simp] theorem opRows_length (l : List POp) : (opRows l).length = l.length := by simp [opRows]

def npT (s : List POp) (q : Nat × List PPacket) : St := ⟨[(3, .ptr 10 0 0), (4, .sl 20 0 q.2.length), (21, .p (.seq 3 (opRows s))), (22, .p (iv s.length)), (23, .p (iv q.1))],
  [(10, some (.box 26 [.sl 11 0 q.2.length])), (11, some (.arr 37 15 (up (packRows q.2)))), (20, some (.arr 37 15 (up (packRows q.2))))], 100⟩

theorem npEnd {S : St} {s : List POp} {i n1 n2 : Nat} {m : List PPacket} {j : Int} {k1 k2 : Nat} {rows : List (List AV)} (h3 : S.tf 3 = .ptr 10 0 0) (h4 : S.tf 4 = .sl k2 0 n2) (h21 : S.tf 21 = .p (.seq 3 (opRows s))) (h22 : S.tf 22 = .p (iv s.length)) (h23 : S.tf 23 = .p (iv j))
    (b0 : S.hf 10 = some (.box 26 [.sl k1 0 n1])) (b1 : S.hf k1 = some (.arr 37 15 (up (packRows m)))) (b2 : S.hf k2 = some (.arr 37 15 rows)) (hq : namesB [(11, k1), (20, k2)] [10, 11, 20] [] 100 = true)
    (hn1 : n1 = m.length) (hn2 : n2 = m.length) (hj : j = (i : Int)) (hr : rows = up (packRows m)) : SLe [] S (npT s (i, m)) := by
  subst hn1 hn2 hj
  exact SLe.mk [(11, k1), (20, k2)] hq ⟨(by rw [h3]; exact SubT.ptr rfl rfl), (by rw [h4]; exact SubT.sl rfl rfl rfl rfl), (by rw [h21]; exact SubT.p rfl), (by rw [h22]; exact SubT.p rfl), (by rw [h23]; exact SubT.p rfl), trivial⟩ ⟨⟨_, b0, netB rfl rfl rfl⟩, ⟨_, b1, SubB.up_eq rfl⟩, ⟨_, b2, arr_up hr⟩, trivial⟩
theorem er_rows {m : List PPacket} {j : Nat} : List.take j (up (packRows m)) ++ List.take (m.length - (j + 1)) (List.drop (j + 1) (up (packRows m))) = up (packRows (m.eraseIdx j)) := by
  rw [List.eraseIdx_eq_take_drop_succ, List.take_of_length_le (i := m.length - (j + 1)) (by simp [up])]
  simp [up, packRows, List.map_take, List.map_drop]
theorem netPlays3 (s : List POp) (hf : ∀ o, o ∈ s → ∀ p, p ∈ o.list → p.msg.fits) : ConP Try.prog 3 [.p (.seq 3 (opRows s))] (.p (bv true)) := by
  refine ⟨?_, SubT.selfp⟩
  refine Con.mk tabOk tabOne 10 Try.func3 rfl (by kernel_rfl) rfl ?_
  refine wpA_sound mixed tabOk tabOne _ _ _ ?_
  conv => whnf
  refine callP carries14 .nil ?_
  conv => whnf
  refine condB (fun h => ?_) (fun h => ?_)
  · conv => whnf
    exact ⟨_, rfl, FinR.id SubT.selfp⟩
  have hs : s.length ≤ 60 := by have := of_decide_eq_false h; simp at this; omega
  conv => whnf
  refine Tri.loop (fun q : Nat × List PPacket => q.1 ≤ s.length ∧ q.2.length ≤ 50 * q.1 ∧ ∀ p, p ∈ q.2 → p.msg.fits) (npT s) (fun q => s.length - q.1) (0, []) ⟨Nat.zero_le _, by simp, fun p hp => by cases hp⟩ ?_ ?_
  · refine SLe.trans (SLe.adopt 200 37 15 ⟨[(3, .ptr 106 0 0), (4, .nil), (21, .p (.seq 3 (opRows s))), (22, .p (iv (opRows s).length)), (23, .p (iv 0))], [(106, some (.box 26 [.sl 200 0 0])), (200, some (.arr 37 15 []))], 201⟩ rfl ⟨.inl rfl, .inl rfl, .inl rfl, .inl rfl, .inl rfl, trivial⟩ ⟨.inr ⟨rfl, _, rfl, rfl, .cons (.inr ⟨rfl, rfl⟩) .nil⟩, .inl ⟨rfl, rfl⟩, trivial⟩) ?_
    refine SLe.trans (SLe.adopt 201 37 15 ⟨[(3, .ptr 106 0 0), (4, .sl 201 0 0), (21, .p (.seq 3 (opRows s))), (22, .p (iv (opRows s).length)), (23, .p (iv 0))], [(106, some (.box 26 [.sl 200 0 0])), (200, some (.arr 37 15 [])), (201, some (.arr 37 15 []))], 202⟩ rfl ⟨.inl rfl, .inr ⟨rfl, rfl⟩, .inl rfl, .inl rfl, .inl rfl, trivial⟩ ⟨.inr ⟨rfl, _, rfl, rfl, .cons (.inl rfl) .nil⟩, .inr ⟨rfl, _, rfl, rfl⟩, .inl ⟨rfl, rfl⟩, trivial⟩) ?_
    exact SLe.mk [(10, 106), (11, 200), (20, 201)] rfl ⟨SubT.ptr rfl rfl, SubT.sl rfl rfl rfl rfl, SubT.p rfl, SubT.p (by simp), SubT.p rfl, trivial⟩ ⟨⟨_, rfl, netB rfl rfl rfl⟩, ⟨_, rfl, arr_up rfl⟩, ⟨_, rfl, arr_up rfl⟩, trivial⟩
  · rintro ⟨i, m⟩ ⟨hi, hm, hmf⟩
    have hm0 : m.length ≤ 3000 := by simp at hi hm; omega
    refine wpA_sound mixed tabOk tabOne _ _ _ ?_
    conv => whnf
    refine condB (fun h => ?_) (fun h => ?_)
    · have hlt : i < s.length := by simpa using h
      obtain ⟨o, ho⟩ : ∃ o, s[i]? = some o := ⟨_, List.getElem?_eq_getElem hlt⟩
      have hrow : (opRows s)[(i : Int).toNat]? = some o.cells := by simp [opRows, ho]
      have hof := hf o (List.mem_of_getElem? ho)
      conv => whnf
      refine ⟨⟨by simp, by simpa using hlt⟩, ?_⟩
      conv => whnf
      refine ⟨_, hrow, ?_⟩
      conv => whnf
      refine condB (fun h0 => ?_) (fun h0 => ?_)
      · conv => whnf
        refine condB (fun hk => ?_) (fun hk => ?_)
        · conv => whnf
          refine condB (fun h5 => ?_) (fun h5 => ?_)
          · conv => whnf
            exact ⟨_, rfl, FinR.id SubT.selfp⟩
          have h5 : o.list.length ≤ 50 := by have := of_decide_eq_false h5; simp at this; omega
          conv => whnf
          refine netU (send15 m o.list (by simp at hm hi; omega) hof) 10 _ rfl rfl (by kernel_rfl) (.cons (SubA.ptr' rfl rfl) (.cons (SubA.p rfl) .nil)) subt1 ?_
          conv => whnf
          refine ⟨by kernel_rfl, ?_⟩
          conv => whnf
          refine condF (by simp) ?_
          conv => whnf
          refine .inl ⟨⟨by simp [up], by simp [ti37, up]; simp at hm hi; omega⟩, ?_⟩
          conv => whnf
          refine netU (len20 (m ++ o.list)) 10 _ rfl rfl (by kernel_rfl) (.cons (SubA.ptr' rfl rfl) .nil) subt1 ?_
          conv => whnf
          refine condF (by simp [up]) ?_
          conv => whnf
          exact ⟨(i + 1, m ++ o.list), ⟨by simp; omega, by simp at hm ⊢; omega, fun p hp => by rcases List.mem_append.1 hp with hp | hp; exact hmf p hp; exact hof p hp⟩, by simp; omega, npEnd rfl rfl rfl rfl rfl rfl rfl rfl (by kernel_rfl) rfl (by simp [up]) (by rw [wrap_succ (by simp at hi; omega)]) (by simp [up, packRows])⟩
        conv => whnf
        refine condB (fun hk1 => ?_) (fun hk1 => ?_)
        · conv => whnf
          by_cases hth : o.i < m.length
          · obtain ⟨j, hj⟩ := Int.eq_ofNat_of_zero_le (of_decide_eq_true h0)
            have hjm : j < m.length := by rw [hj] at hth; exact_mod_cast hth
            obtain ⟨p, hp⟩ : ∃ p, m[j]? = some p := ⟨_, List.getElem?_eq_getElem hjm⟩
            have hpf := hmf p (List.mem_of_getElem? hp)
            have hrw : (up (packRows m))[0 + (o.i).toNat]? = some (p.cells.map .p) := by rw [hj]; exact up_get0 hp
            refine netU (take16i m j p hp hpf (by simp at hm hi; omega)) 10 _ rfl rfl (by kernel_rfl) (.cons (SubA.ptr' rfl rfl) (.cons (SubA.p (congrArg iv hj)) .nil)) (subt2 (r := p.cells)) ?_
            conv => whnf
            refine condF (by simp [hth]) ?_
            conv => whnf
            refine condT (by simp [hth]) ?_
            conv => whnf
            refine ⟨⟨by omega, by simpa using hth⟩, ?_⟩
            conv => whnf
            refine ⟨_, hrw, ?_⟩
            conv => whnf
            refine callP (same17 p hpf) (.cons (SubA.selfa (r := p.cells)) (.cons (SubA.selfa (r := p.cells)) .nil)) ?_
            conv => whnf
            refine condF (by simp [hth]) ?_
            conv => whnf
            refine ⟨by kernel_rfl, ?_⟩
            conv => whnf
            refine condT (by simp [hth]) ?_
            conv => whnf
            refine ⟨⟨trivial, by omega, by omega, .inl (by simp; omega)⟩, ?_⟩
            conv => whnf
            refine ⟨by simp [up]; omega, ?_⟩
            conv => whnf
            refine .inl ⟨⟨rfl, by simp [ti37, up]; simp at hm hi; omega⟩, ?_⟩
            conv => whnf
            have hw : IntKind.i64.wrap (o.i + 1) = ((j + 1 : Nat) : Int) := by rw [hj, wrap_succ (by simp at hm hi; omega)]
            have hL : (m.eraseIdx j).length = m.length - 1 := by rw [List.length_eraseIdx]; simp [hjm]
            refine ⟨⟨by rw [hw]; omega, trivial, by rw [hw]; simp; omega, .inl (Nat.le_refl _)⟩, ?_⟩
            conv => whnf
            refine ⟨by rw [hw]; simp [up]; omega, ?_⟩
            conv => whnf
            refine .inl ⟨⟨by simp, by rw [hw]; simp [ti37, up]; simp at hm hi; omega⟩, ?_⟩
            conv => whnf
            refine ⟨by kernel_rfl, ?_⟩
            conv => whnf
            refine netU (len20 (m.eraseIdx j)) 10 _ rfl rfl (by kernel_rfl) (.cons (SubA.ptr' rfl rfl) .nil) subt1 ?_
            conv => whnf
            refine condF (by rw [hw, hL, hj]; simp [up]; omega) ?_
            conv => whnf
            refine ⟨(i + 1, m.eraseIdx j), ⟨by simp; omega, by simp at hm ⊢; omega, fun q hq => hmf q (List.mem_of_mem_eraseIdx hq)⟩, by simp; omega, npEnd rfl rfl rfl rfl rfl rfl rfl rfl (by kernel_rfl) rfl ?_ (by rw [wrap_succ (by simp at hi; omega)]) ?_⟩
            · rw [hw, hL, hj]; simp [up]; omega
            · rw [hw, hj]; simp only [List.nil_append, Int.toNat_natCast, Nat.sub_zero, Nat.zero_add, List.drop_zero]; exact er_rows
          · refine netU (take16o m o.i (fun h => hth h.2)) 10 _ rfl rfl (by kernel_rfl) (.cons (SubA.ptr' rfl rfl) (.cons (SubA.p rfl) .nil)) (subt2 (r := zpack.cells)) ?_
            conv => whnf
            refine condF (by simp [hth]) ?_
            conv => whnf
            refine condF (by simp [hth]) ?_
            conv => whnf
            refine condT (by simp [hth]) ?_
            conv => whnf
            refine ⟨by kernel_rfl, ?_⟩
            conv => whnf
            refine condF (by simp [hth]) ?_
            conv => whnf
            refine netU (len20 m) 10 _ rfl rfl (by kernel_rfl) (.cons (SubA.ptr' rfl rfl) .nil) subt1 ?_
            conv => whnf
            refine condF (by simp) ?_
            conv => whnf
            exact ⟨(i + 1, m), ⟨by simp; omega, by simp at hm ⊢; omega, hmf⟩, by simp; omega, npEnd rfl rfl rfl rfl rfl rfl rfl rfl (by kernel_rfl) rfl rfl (by rw [wrap_succ (by simp at hi; omega)]) rfl⟩
        conv => whnf
        refine condB (fun hk2 => ?_) (fun hk2 => ?_)
        · conv => whnf
          by_cases hth : o.i < m.length
          · obtain ⟨j, hj⟩ := Int.eq_ofNat_of_zero_le (of_decide_eq_true h0)
            have hjm : j < m.length := by rw [hj] at hth; exact_mod_cast hth
            obtain ⟨p, hp⟩ : ∃ p, m[j]? = some p := ⟨_, List.getElem?_eq_getElem hjm⟩
            have hpf := hmf p (List.mem_of_getElem? hp)
            have hrw : (up (packRows m))[0 + (o.i).toNat]? = some (p.cells.map .p) := by rw [hj]; exact up_get0 hp
            refine netU (twice18i m j p hp hpf (by simp at hm hi; omega)) 10 _ rfl rfl (by kernel_rfl) (.cons (SubA.ptr' rfl rfl) (.cons (SubA.p (congrArg iv hj)) .nil)) subt1 ?_
            conv => whnf
            refine condF (by simp [hth]) ?_
            conv => whnf
            refine condF (by simp [hth]) ?_
            conv => whnf
            refine condT (by simp [hth]) ?_
            conv => whnf
            refine ⟨⟨by omega, by simpa using hth⟩, ?_⟩
            conv => whnf
            refine ⟨_, hrw, ?_⟩
            conv => whnf
            refine ⟨by simp, ?_⟩
            conv => whnf
            refine .inl ⟨⟨by simp [up], by simp [ti37]; simp at hm hi; omega⟩, ?_⟩
            conv => whnf
            refine netU (len20 (m ++ [p])) 10 _ rfl rfl (by kernel_rfl) (.cons (SubA.ptr' rfl rfl) .nil) subt1 ?_
            conv => whnf
            refine condF (by simp) ?_
            conv => whnf
            exact ⟨(i + 1, m ++ [p]), ⟨by simp; omega, by simp at hm ⊢; omega, fun q hq => by rcases List.mem_append.1 hq with hq | hq; exact hmf q hq; simp at hq; subst hq; exact hpf⟩, by simp; omega, npEnd rfl rfl rfl rfl rfl rfl rfl rfl (by kernel_rfl) rfl (by simp) (by rw [wrap_succ (by simp at hi; omega)]) (by simp [up, packRows]; rfl)⟩
          · refine netU (twice18o m o.i (fun h => hth h.2)) 10 _ rfl rfl (by kernel_rfl) (.cons (SubA.ptr' rfl rfl) (.cons (SubA.p rfl) .nil)) subt1 ?_
            conv => whnf
            refine condF (by simp [hth]) ?_
            conv => whnf
            refine condT (by simp [hth]) ?_
            conv => whnf
            refine condF (by simp [hth]) ?_
            conv => whnf
            refine netU (len20 m) 10 _ rfl rfl (by kernel_rfl) (.cons (SubA.ptr' rfl rfl) .nil) subt1 ?_
            conv => whnf
            refine condF (by simp) ?_
            conv => whnf
            exact ⟨(i + 1, m), ⟨by simp; omega, by simp at hm ⊢; omega, hmf⟩, by simp; omega, npEnd rfl rfl rfl rfl rfl rfl rfl rfl (by kernel_rfl) rfl rfl (by rw [wrap_succ (by simp at hi; omega)]) rfl⟩
        conv => whnf
        refine condB (fun hk3 => ?_) (fun hk3 => ?_)
        · conv => whnf
          by_cases hth : o.i < m.length
          · obtain ⟨j, hj⟩ := Int.eq_ofNat_of_zero_le (of_decide_eq_true h0)
            have hjm : j < m.length := by rw [hj] at hth; exact_mod_cast hth
            obtain ⟨p, hp⟩ : ∃ p, m[j]? = some p := ⟨_, List.getElem?_eq_getElem hjm⟩
            have hpf := hmf p (List.mem_of_getElem? hp)
            have hrw : (up (packRows m))[0 + (o.i).toNat]? = some (p.cells.map .p) := by rw [hj]; exact up_get0 hp
            refine netU (look19i m j p hp hpf) 10 _ rfl rfl (by kernel_rfl) (.cons (SubA.ptr' rfl rfl) (.cons (SubA.p (congrArg iv hj)) .nil)) (subt2 (r := p.cells)) ?_
            conv => whnf
            refine condF (by simp [hth]) ?_
            conv => whnf
            refine condT (by simp [hth]) ?_
            conv => whnf
            refine ⟨⟨by omega, by simpa using hth⟩, ?_⟩
            conv => whnf
            refine ⟨_, hrw, ?_⟩
            conv => whnf
            refine callP (same17 p hpf) (.cons (SubA.selfa (r := p.cells)) (.cons (SubA.selfa (r := p.cells)) .nil)) ?_
            conv => whnf
            refine condF (by simp [hth]) ?_
            conv => whnf
            refine ⟨by kernel_rfl, ?_⟩
            conv => whnf
            refine netU (len20 m) 10 _ rfl rfl (by kernel_rfl) (.cons (SubA.ptr' rfl rfl) .nil) subt1 ?_
            conv => whnf
            refine condF (by simp) ?_
            conv => whnf
            exact ⟨(i + 1, m), ⟨by simp; omega, by simp at hm ⊢; omega, hmf⟩, by simp; omega, npEnd rfl rfl rfl rfl rfl rfl rfl rfl (by kernel_rfl) rfl rfl (by rw [wrap_succ (by simp at hi; omega)]) rfl⟩
          · refine netU (look19o m o.i (fun h => hth h.2)) 10 _ rfl rfl (by kernel_rfl) (.cons (SubA.ptr' rfl rfl) (.cons (SubA.p rfl) .nil)) (subt2 (r := zpack.cells)) ?_
            conv => whnf
            refine condF (by simp [hth]) ?_
            conv => whnf
            refine condF (by simp [hth]) ?_
            conv => whnf
            refine condT (by simp [hth]) ?_
            conv => whnf
            refine ⟨by kernel_rfl, ?_⟩
            conv => whnf
            refine netU (len20 m) 10 _ rfl rfl (by kernel_rfl) (.cons (SubA.ptr' rfl rfl) .nil) subt1 ?_
            conv => whnf
            refine condF (by simp) ?_
            conv => whnf
            exact ⟨(i + 1, m), ⟨by simp; omega, by simp at hm ⊢; omega, hmf⟩, by simp; omega, npEnd rfl rfl rfl rfl rfl rfl rfl rfl (by kernel_rfl) rfl rfl (by rw [wrap_succ (by simp at hi; omega)]) rfl⟩
        conv => whnf
        refine netU (len20 m) 10 _ rfl rfl (by kernel_rfl) (.cons (SubA.ptr' rfl rfl) .nil) subt1 ?_
        conv => whnf
        refine condF (by simp) ?_
        conv => whnf
        exact ⟨(i + 1, m), ⟨by simp; omega, by simp at hm ⊢; omega, hmf⟩, by simp; omega, npEnd rfl rfl rfl rfl rfl rfl rfl rfl (by kernel_rfl) rfl rfl (by rw [wrap_succ (by simp at hi; omega)]) rfl⟩
      · have hno : ¬ (0 ≤ o.i ∧ o.i < m.length) := fun h => by simp at h0; omega
        conv => whnf
        refine condB (fun hk => ?_) (fun hk => ?_)
        · conv => whnf
          refine condB (fun h5 => ?_) (fun h5 => ?_)
          · conv => whnf
            exact ⟨_, rfl, FinR.id SubT.selfp⟩
          have h5 : o.list.length ≤ 50 := by have := of_decide_eq_false h5; simp at this; omega
          conv => whnf
          refine netU (send15 m o.list (by simp at hm hi; omega) hof) 10 _ rfl rfl (by kernel_rfl) (.cons (SubA.ptr' rfl rfl) (.cons (SubA.p rfl) .nil)) subt1 ?_
          conv => whnf
          refine ⟨by kernel_rfl, ?_⟩
          conv => whnf
          refine condF (by simp) ?_
          conv => whnf
          refine .inl ⟨⟨by simp [up], by simp [ti37, up]; simp at hm hi; omega⟩, ?_⟩
          conv => whnf
          refine netU (len20 (m ++ o.list)) 10 _ rfl rfl (by kernel_rfl) (.cons (SubA.ptr' rfl rfl) .nil) subt1 ?_
          conv => whnf
          refine condF (by simp [up]) ?_
          conv => whnf
          exact ⟨(i + 1, m ++ o.list), ⟨by simp; omega, by simp at hm ⊢; omega, fun p hp => by rcases List.mem_append.1 hp with hp | hp; exact hmf p hp; exact hof p hp⟩, by simp; omega, npEnd rfl rfl rfl rfl rfl rfl rfl rfl (by kernel_rfl) rfl (by simp [up]) (by rw [wrap_succ (by simp at hi; omega)]) (by simp [up, packRows])⟩
        conv => whnf
        refine condB (fun hk1 => ?_) (fun hk1 => ?_)
        · conv => whnf
          refine netU (take16o m o.i hno) 10 _ rfl rfl (by kernel_rfl) (.cons (SubA.ptr' rfl rfl) (.cons (SubA.p rfl) .nil)) (subt2 (r := zpack.cells)) ?_
          conv => whnf
          refine ⟨by kernel_rfl, ?_⟩
          conv => whnf
          refine netU (len20 m) 10 _ rfl rfl (by kernel_rfl) (.cons (SubA.ptr' rfl rfl) .nil) subt1 ?_
          conv => whnf
          refine condF (by simp) ?_
          conv => whnf
          exact ⟨(i + 1, m), ⟨by simp; omega, by simp at hm ⊢; omega, hmf⟩, by simp; omega, npEnd rfl rfl rfl rfl rfl rfl rfl rfl (by kernel_rfl) rfl rfl (by rw [wrap_succ (by simp at hi; omega)]) rfl⟩
        conv => whnf
        refine condB (fun hk2 => ?_) (fun hk2 => ?_)
        · conv => whnf
          refine netU (twice18o m o.i hno) 10 _ rfl rfl (by kernel_rfl) (.cons (SubA.ptr' rfl rfl) (.cons (SubA.p rfl) .nil)) subt1 ?_
          conv => whnf
          refine netU (len20 m) 10 _ rfl rfl (by kernel_rfl) (.cons (SubA.ptr' rfl rfl) .nil) subt1 ?_
          conv => whnf
          refine condF (by simp) ?_
          conv => whnf
          exact ⟨(i + 1, m), ⟨by simp; omega, by simp at hm ⊢; omega, hmf⟩, by simp; omega, npEnd rfl rfl rfl rfl rfl rfl rfl rfl (by kernel_rfl) rfl rfl (by rw [wrap_succ (by simp at hi; omega)]) rfl⟩
        conv => whnf
        refine condB (fun hk3 => ?_) (fun hk3 => ?_)
        · conv => whnf
          refine netU (look19o m o.i hno) 10 _ rfl rfl (by kernel_rfl) (.cons (SubA.ptr' rfl rfl) (.cons (SubA.p rfl) .nil)) (subt2 (r := zpack.cells)) ?_
          conv => whnf
          refine ⟨by kernel_rfl, ?_⟩
          conv => whnf
          refine netU (len20 m) 10 _ rfl rfl (by kernel_rfl) (.cons (SubA.ptr' rfl rfl) .nil) subt1 ?_
          conv => whnf
          refine condF (by simp) ?_
          conv => whnf
          exact ⟨(i + 1, m), ⟨by simp; omega, by simp at hm ⊢; omega, hmf⟩, by simp; omega, npEnd rfl rfl rfl rfl rfl rfl rfl rfl (by kernel_rfl) rfl rfl (by rw [wrap_succ (by simp at hi; omega)]) rfl⟩
        conv => whnf
        refine netU (len20 m) 10 _ rfl rfl (by kernel_rfl) (.cons (SubA.ptr' rfl rfl) .nil) subt1 ?_
        conv => whnf
        refine condF (by simp) ?_
        conv => whnf
        exact ⟨(i + 1, m), ⟨by simp; omega, by simp at hm ⊢; omega, hmf⟩, by simp; omega, npEnd rfl rfl rfl rfl rfl rfl rfl rfl (by kernel_rfl) rfl rfl (by rw [wrap_succ (by simp at hi; omega)]) rfl⟩
    · clear h hi hm
      have hm : m.length ≤ 140737488355328 := by omega
      conv => whnf
      refine Tri.loop (fun k : Nat => k ≤ m.length) (fun k => ⟨[(3, .ptr 10 0 0), (4, .sl 20 0 m.length), (168, .p (iv m.length)), (169, .p (iv k))], [(10, some (.box 26 [.sl 11 0 m.length])), (11, some (.arr 37 15 (up (packRows m)))), (20, some (.arr 37 15 (up (packRows m))))], 100⟩) (fun k => m.length - k) 0 (Nat.zero_le _)
        (SLe.mk [] rfl ⟨SubT.ptr rfl rfl, SubT.sl rfl rfl rfl rfl, SubT.p rfl, SubT.p rfl, trivial⟩ ⟨⟨_, rfl, netB rfl rfl rfl⟩, ⟨_, rfl, SubB.up_eq rfl⟩, ⟨_, rfl, SubB.up_eq rfl⟩, trivial⟩) ?_
      intro k hk
      refine wpA_sound mixed tabOk tabOne _ _ _ ?_
      conv => whnf
      refine condB (fun h => ?_) (fun h => ?_)
      · have hlt : k < m.length := by simpa using h
        obtain ⟨p, hp⟩ : ∃ p, m[k]? = some p := ⟨_, List.getElem?_eq_getElem hlt⟩
        have hpf := hmf p (List.mem_of_getElem? hp)
        conv => whnf
        refine netU (look19i m k p hp hpf) 10 _ rfl rfl (by kernel_rfl) (.cons (SubA.ptr' rfl rfl) (.cons (SubA.p rfl) .nil)) (subt2 (r := p.cells)) ?_
        conv => whnf
        refine ⟨⟨by omega, by simpa using hlt⟩, ?_⟩
        conv => whnf
        refine ⟨_, up_get0 hp, ?_⟩
        conv => whnf
        refine callP (same17 p hpf) (.cons (SubA.selfa (r := p.cells)) (.cons (SubA.selfa (r := p.cells)) .nil)) ?_
        conv => whnf
        refine ⟨by kernel_rfl, ?_⟩
        conv => whnf
        exact ⟨k + 1, by omega, by omega, SLe.mk [(11, 164)] rfl ⟨SubT.ptr rfl rfl, SubT.sl rfl rfl rfl rfl, SubT.p rfl, SubT.p (by rw [wrap_succ (by omega)]), trivial⟩ ⟨⟨_, rfl, netB rfl rfl rfl⟩, ⟨_, rfl, SubB.up_eq rfl⟩, ⟨_, rfl, SubB.up_eq rfl⟩, trivial⟩⟩
      · conv => whnf
        exact ⟨_, rfl, FinR.id SubT.selfp⟩
end Go.Proofs.Am
