/- Plain laws on shifted and numbered terms. No program in sight. -/
import Derived.Test.YtnhfnpjfahmmpaaPlain3
namespace Go.Proofs.Ytnhfnpjfahmmpaa
open Go.RowKit

def okV (v : Int) (l : List Int) : Bool := l.all fun x => decide (0 ≤ x + v) && decide (x + v ≤ 999)
theorem okV_iff (v : Int) (l : List Int) : okV v l = true ↔ ∀ x ∈ l, 0 ≤ x + v ∧ x + v ≤ 999 := by simp [okV]
theorem okV_snoc (v : Int) (l : List Int) (x : Int) : okV v (l ++ [x]) = (okV v l && (decide (0 ≤ x + v) && decide (x + v ≤ 999))) := by simp [okV]
theorem okV_take (v : Int) {l : List Int} {k : Nat} {x : Int} (h : l[k]? = some x) : okV v (l.take (k + 1)) = (okV v (l.take k) && (decide (0 ≤ x + v) && decide (x + v ≤ 999))) := by
  obtain ⟨hl, he⟩ := List.getElem?_eq_some_iff.1 h
  rw [List.take_succ_eq_append_getElem hl, he, okV_snoc]
theorem wrap_small {x v : Int} (hx : 0 ≤ x ∧ x ≤ 999) (hv : -100000 ≤ v ∧ v ≤ 100000) : wrap64 (x + v) = x + v := by unfold wrap64; omega
theorem vars_range {t : List C} (h : rightB t = true) : ∀ x ∈ varsF t, 0 ≤ x ∧ x ≤ 999 := by
  intro x hx
  obtain ⟨c, hc, hk, rfl⟩ := mem_vars.1 hx
  exact right_var h c hc hk
theorem shift_no {t : List C} {v : Int} (h : rightB t = true) (hv : -100000 ≤ v ∧ v ≤ 100000) (ho : okV v (varsF t) = false) : shiftF t v = [] := by
  unfold shiftF
  split
  · rename_i hr
    exfalso
    rw [← Bool.not_eq_true, okV_iff] at ho
    refine ho fun x hx => ?_
    obtain ⟨c, hc, hk, rfl⟩ := mem_vars.1 hx
    have h1 : 0 ≤ wrap64 (c.n + v) ∧ wrap64 (c.n + v) ≤ 999 := turn_back hr c hc hk
    rwa [wrap_small (right_var h c hc hk) hv] at h1
  · rfl
theorem shift_at {t : List C} {v : Int} (h : rightB t = true) (hv : -100000 ≤ v ∧ v ≤ 100000) (ho : okV v (varsF t) = true) :
    ∀ c ∈ t, c.kind = 1 → wrap64 (c.n + v) = c.n + v ∧ 0 ≤ c.n + v ∧ c.n + v ≤ 999 := by
  intro c hc hk
  exact ⟨wrap_small (right_var h c hc hk) hv, (okV_iff _ _).1 ho _ (mem_vars.2 ⟨c, hc, hk, rfl⟩)⟩
theorem shift_is {t : List C} {v : Int} (h : rightB t = true) (hv : -100000 ≤ v ∧ v ≤ 100000) (ho : okV v (varsF t) = true) :
    shiftF t v = turnF (fun x => x + v) t ∧ rightB (shiftF t v) = true := by
  have h1 := shift_at h hv ho
  have e : turnF (fun n => wrap64 (n + v)) t = turnF (fun x => x + v) t := turn_congr fun c hc hk => (h1 c hc hk).1
  have h2 : rightB (turnF (fun x => x + v) t) = true := turn_right h fun c hc hk => (h1 c hc hk).2
  unfold shiftF
  rw [e, if_pos h2]
  exact ⟨rfl, h2⟩
theorem shift_facts {t : List C} {v : Int} (h : rightB t = true) (hv : -100000 ≤ v ∧ v ≤ 100000) (ho : okV v (varsF t) = true) :
    rightB (shiftF t v) = true ∧ depthF (shiftF t v) = depthF t ∧ varsF (shiftF t v) = (varsF t).map (fun x => x + v) ∧ (shiftF t v).length = t.length ∧ shiftF (shiftF t v) (-v) = t := by
  obtain ⟨e, hr⟩ := shift_is h hv ho
  have h1 := shift_at h hv ho
  have hvars : varsF (shiftF t v) = (varsF t).map (fun x => x + v) := by
    rw [e]
    exact varsF_turn (P := fun _ => True) (fun x y _ _ he => by simpa using he) t (fun _ _ _ => trivial)
  refine ⟨hr, by rw [e]; exact depth_turn h fun c hc hk => (h1 c hc hk).2, hvars, by rw [e, turn_len], ?_⟩
  have ho2 : okV (-v) (varsF (shiftF t v)) = true := by
    rw [okV_iff, hvars]
    intro x hx
    obtain ⟨y, hy, rfl⟩ := List.mem_map.1 hx
    have := vars_range h y hy
    show 0 ≤ y + v + -v ∧ y + v + -v ≤ 999
    omega
  rw [(shift_is hr (by omega) ho2).1, e, turn_turn]
  exact turn_id fun c _ _ => by show c.n + v + -v = c.n; omega
theorem shift_zero {t : List C} (h : rightB t = true) : shiftF t 0 = t := by
  have ho : okV 0 (varsF t) = true := by
    rw [okV_iff]
    intro x hx
    have := vars_range h x hx
    omega
  rw [(shift_is h (by omega) ho).1]
  exact turn_id fun c _ _ => by show c.n + 0 = c.n; omega

theorem varsA_le : ∀ (cs : List C) (acc : List Int), (varsA acc cs).length ≤ acc.length + cs.length
  | [], acc => by simp [varsA_nil]
  | c :: cs, acc => by
    rw [varsA_step]
    split
    · have := varsA_le cs (acc ++ [c.n]); simp at this ⊢; omega
    · have := varsA_le cs acc; simp; omega
theorem place_at {t : List C} (h : rightB t = true) : ∀ c ∈ t, c.kind = 1 → 0 ≤ placeI (varsF t) c.n ∧ placeI (varsF t) c.n ≤ 999 := by
  intro c hc hk
  have h1 := place_range (varsF_nodup t) (mem_vars.2 ⟨c, hc, hk, rfl⟩)
  have h2 := varsA_le t []
  have h3 := ((right_iff _).1 h).2
  have h4 : (varsF t).length = (varsA [] t).length := rfl
  simp at h2
  omega
theorem number_facts {t : List C} (h : rightB t = true) :
    rightB (numberF t) = true ∧ (numberF t).length = t.length ∧ varsF (numberF t) = (List.range (varsF t).length).map Int.ofNat ∧ numberF (numberF t) = numberF t := by
  have hr : rightB (numberF t) = true := turn_right h (place_at h)
  have hv : varsF (numberF t) = (List.range (varsF t).length).map Int.ofNat := by
    rw [← map_place (varsF_nodup t)]
    exact varsF_turn (P := fun x => x ∈ varsF t) (place_inj (varsF_nodup t)) t (fun c hc hk => mem_vars.2 ⟨c, hc, hk, rfl⟩)
  refine ⟨hr, turn_len _ _, hv, ?_⟩
  have hn := varsF_nodup (numberF t)
  show turnF (placeI (varsF (numberF t))) (numberF t) = numberF t
  refine turn_id fun c hc hk => ?_
  have hm : c.n ∈ varsF (numberF t) := mem_vars.2 ⟨c, hc, hk, rfl⟩
  have hm2 := hm
  rw [hv] at hm2
  obtain ⟨j, hj, hjc⟩ := List.mem_map.1 hm2
  have hjl := List.mem_range.1 hj
  rw [← hjc]
  refine place_get hn ?_
  rw [hv, List.getElem?_map, List.getElem?_range hjl]
  rfl
theorem turnC_inj {f : Int → Int} {t : List C} (hf : ∀ x y, x ∈ varsF t → y ∈ varsF t → f x = f y → x = y) {a b : C} (ha : a ∈ t) (hb : b ∈ t) : turnC f a = turnC f b ↔ a = b := by
  constructor
  · intro h
    have hk : a.kind = b.kind := by rw [← turnC_kind f a, ← turnC_kind f b, h]
    by_cases h1 : a.kind = 1
    · have h2 : b.kind = 1 := by omega
      rw [turnC_var h1, turnC_var h2] at h
      obtain ⟨k, s, x⟩ := a
      obtain ⟨k', s', x'⟩ := b
      simp only [C.mk.injEq] at h ⊢
      exact ⟨h.1, h.2.1, hf x x' (mem_vars.2 ⟨_, ha, h1, rfl⟩) (mem_vars.2 ⟨_, hb, h2, rfl⟩) h.2.2⟩
    · rwa [turnC_other h1, turnC_other (by omega)] at h
  · rintro rfl; rfl
theorem number_cell {t : List C} {i : Nat} {a : C} (ha : t[i]? = some a) : (numberF t)[i]? = some (turnC (placeI (varsF t)) a) := by
  show (turnF (placeI (varsF t)) t)[i]? = _
  rw [turnF_map, List.getElem?_map, ha]
  rfl
theorem number_beq {t : List C} {i k : Nat} {a b : C} (ha : t[i]? = some a) (hb : t[k]? = some b) : (turnC (placeI (varsF t)) a).beq (turnC (placeI (varsF t)) b) = a.beq b := by
  rw [Bool.eq_iff_iff, beq_iff, beq_iff]
  exact turnC_inj (place_inj (varsF_nodup t)) (List.mem_of_getElem? ha) (List.mem_of_getElem? hb)
theorem idx_map (v : Int) (l : List Int) (x : Int) : ∀ k, idxF (fun y => y == x + v) k (l.map fun y => y + v) = idxF (fun y => y == x) k l := by
  induction l with
  | nil => intro k; rfl
  | cons y l ih =>
    intro k
    have e : (y + v == x + v) = (y == x) := by rw [Bool.eq_iff_iff]; simp
    simp only [List.map_cons, idxF, e]
    rw [ih]
theorem number_shift {t : List C} {v : Int} (h : rightB t = true) (hv : -100000 ≤ v ∧ v ≤ 100000) (ho : okV v (varsF t) = true) : numberF (shiftF t v) = numberF t := by
  have e := (shift_is h hv ho).1
  have hvars := (shift_facts h hv ho).2.2.1
  show turnF (placeI (varsF (shiftF t v))) (shiftF t v) = turnF (placeI (varsF t)) t
  rw [hvars, e, turn_turn]
  exact turn_congr fun c _ _ => idx_map v (varsF t) c.n 0
end Go.Proofs.Ytnhfnpjfahmmpaa
