/- Texts of this proof that belong together: words of memory, plain laws, short walks. -/
import Derived.Test.YtlndjooddkjnoaaB2
import Derived.Test.YtlndjooddkjnoaaHF
import Derived.BigQuiet
import Derived.Test.YtlndjooddkjnoaaSame
set_option linter.unusedVariables false
set_option linter.unusedSimpArgs false
/- The walks of layer 3's End and parts (the document's): where a term ends, where its arguments begin. -/
namespace Go.Proofs.Ytlndjooddkjnoaa
open Go.RowKit

theorem sizes_len9 (ts : List Tm) : ts.length ≤ sizes ts := by
  induction ts with
  | nil => simp
  | cons t ts ih => simp only [sizes, List.length_cons]; have := t.size_pos; omega
theorem sizes_split {us : List Tm} {k : Nat} (hk : k < us.length) : sizes (us.take (k + 1)) = sizes (us.take k) + us[k].size := by
  rw [List.take_add_one, List.getElem?_eq_getElem hk, sizes_app9]
  simp [sizes]
theorem argP_succ (i : Nat) {us : List Tm} {k : Nat} (hk : k < us.length) : argP i us (k + 1) = argP i us k + us[k].size := by
  unfold argP
  rw [sizes_split hk]
  omega
set_option maxHeartbeats 1000000 in
theorem uEnd_any (A : Option Addr) (n c : Nat) (ts : List Tm) (i : Nat) (u : Tm) (w : World) (h : IsC w A n c (flats ts)) (hu : subT ts i = some u) (hn : n ≤ 100000) :
    Calls Try.prog 95 #[.slice A n c, .int .i64 i] w fun e w' => e = .returned (.int .i64 ((i + u.size : Nat) : Int)) ∧ w = w' := by
  have hl := h.len
  rw [flats_size9] at hl
  have hend := subT_lt hu
  obtain ⟨r0, hr0⟩ := subT_drop i ts u hu
  have hN : i + u.size ≤ n := by omega
  generalize hE : i + u.size = E at *
  have HE := Lib.hid hE
  have HC := Lib.hid h
  have Hr0 := Lib.hid hr0
  have hcd := h.sl.hcap
  have hcm := h.sl.hmax
  unfold maxLen at hcm
  clear hl h hr0 hE hu hend
  go_enter Try.func95, Try.ntmps95
  go_wp2
  go_loop [5, 1] (fun lv av => ∃ (k : Nat) (ws : List Tm) (r : List C) (m : Nat), m ≤ n ∧ k ≤ E ∧ lv = .int .i64 m ∧ av = .int .i64 k ∧ Hid (ws.length = m ∧ (flats ts).drop k = flats ws ++ r ∧ k + sizes ws = E)) (fun _ av => E - (intOf av).toNat)
  case atStart => exact ⟨i, [u], r0, 1, by have := HE.out; have := u.size_pos; omega, by have := HE.out; omega, rfl, rfl, Lib.hid ⟨rfl, by rw [Hr0.out]; simp [flats], by have := HE.out; simp [sizes]; omega⟩⟩
  case round =>
    obtain ⟨k, ws, r, m, hm, hk, rfl, rfl, hq⟩ := hrel
    cases ws with
    | nil =>
      obtain rfl : m = 0 := by have := hq.out.1; simpa using this.symm
      have hkE : k = E := by have := hq.out.2.2; simpa [sizes] using this
      go_wp2
      go_ret
      exact ⟨ret_int (by first | rfl | omega), rfl⟩
    | cons t ws =>
      obtain ⟨q1, q2, q3⟩ := hq.out
      simp only [List.length_cons] at q1
      simp only [sizes] at q3
      have hts := t.size_pos
      have hwl := sizes_len9 ws
      have hkn : k < n := by omega
      have hm0 : (0 : Int) < (m : Int) := by omega
      obtain ⟨r2, hr2⟩ := flat_c0 t
      have hcell : (flats ts)[k]? = some t.c0 := by
        have : ((flats ts).drop k)[0]? = some t.c0 := by rw [q2, flats_cons, hr2]; rfl
        rw [List.getElem?_drop] at this
        simpa using this
      obtain ⟨b, off, rfl, hb, hwf, e0, e1, e2⟩ := HC.out.at_ hcell
      have hd1 : (flats ts).drop (k + 1) = r2 ++ flats ws ++ r := by
        have := congrArg (List.drop 1) q2
        rw [List.drop_drop, flats_cons, hr2] at this
        simpa using this
      have Hd1 := Lib.hid hd1
      have hmw : m = ws.length + 1 := by omega
      cases t with
      | v x =>
        have hr2' : r2 = [] := by simpa [Tm.flat, Tm.c0] using hr2.symm
        have Hr2 := Lib.hid hr2'
        simp only [Tm.c0] at e0 e2
        simp only [Tm.size] at q3
        clear hq q1 q2 hr2 hr2' hcell hwf hd1
        go_wp2
        go_round
        case rel => exact ⟨k + 1, ws, r, m - 1, by omega, by omega, by go_num, by go_num, Lib.hid ⟨by omega, by rw [Hd1.out, Hr2.out]; rfl, by omega⟩⟩
        case measure => simp [intOf]; omega
      | i x =>
        have hr2' : r2 = [] := by simpa [Tm.flat, Tm.c0] using hr2.symm
        have Hr2 := Lib.hid hr2'
        simp only [Tm.c0] at e0 e2
        simp only [Tm.size] at q3
        clear hq q1 q2 hr2 hr2' hcell hwf hd1
        go_wp2
        go_round
        case rel => exact ⟨k + 1, ws, r, m - 1, by omega, by omega, by go_num, by go_num, Lib.hid ⟨by omega, by rw [Hd1.out, Hr2.out]; rfl, by omega⟩⟩
        case measure => simp [intOf]; omega
      | f s us =>
        have hr2' : r2 = flats us := by simpa [Tm.flat, Tm.c0] using hr2.symm
        have Hr2 := Lib.hid hr2'
        have hul := sizes_len9 us
        simp only [Tm.c0] at e0 e2
        simp only [Tm.size] at q3
        clear hq q1 q2 hr2 hr2' hcell hwf hd1
        go_wp2
        go_round
        case rel => exact ⟨k + 1, us ++ ws, r, m - 1 + us.length, by omega, by omega, by go_num, by go_num, Lib.hid ⟨by rw [List.length_append]; omega, by rw [Hd1.out, Hr2.out, flats_app9], by rw [sizes_app9]; omega⟩⟩
        case measure => simp [intOf]; omega
def partsU (i : Nat) : Tm → List Nat
  | .f _ us => (List.range us.length).map (argP i us)
  | _ => []
/-- a row of places of one's own -/
def RetIO (w : World) (l : List Nat) (e : Ending) (w' : World) : Prop := ∃ A n c, e = .returned (.slice A n c) ∧ w'.ownsRow w.heap.size 3 1 (.slice A n c) n ((ints l).map (Value.int .i64)) ∧ Below w.heap.size w w' ∧ ∀ x ∈ ints l, i64 x
set_option maxHeartbeats 2000000 in
theorem uparts_own (A : Option Addr) (n c : Nat) (ts : List Tm) (i : Nat) (u : Tm) (w : World) (h : IsC w A n c (flats ts)) (hu : subT ts i = some u) (hn : n ≤ 100000) :
    Calls Try.prog 89 #[.slice A n c, .int .i64 i] w (RetIO w (partsU i u)) := by
  have hl := h.len
  rw [flats_size9] at hl
  have hend := subT_lt hu
  have hus := u.size_pos
  have hin : i < n := by omega
  obtain ⟨b, off, rfl, hb, hwf, e0, e1, e2⟩ := h.at_ (subT_cell hu)
  have HC := Lib.hid h
  have Hl := Lib.hid hl
  have Hu := Lib.hid hu
  have hcd := h.sl.hcap
  have hcm := h.sl.hmax
  unfold maxLen at hcm
  have hcells := fun wx (hb' : Below w.heap.size w wx) => hb'.cell (p := ⟨b, off + i * 3 + 2, none⟩) hb
  clear hl h hend hwf e1 hu
  cases u with
  | v x =>
    simp only [Tm.c0] at e0
    go_enter Try.func89, Try.ntmps89
    go_wp2
    go_ret
    exact ⟨_, _, _, rfl, World.ownsRow_lit w #[] 0 (Nat.le_refl _) (by simp [maxLen]) rfl, (Below.refl _ _).alloc (Nat.le_refl _) _, by simp [ints, partsU]⟩
  | i x =>
    simp only [Tm.c0] at e0
    go_enter Try.func89, Try.ntmps89
    go_wp2
    go_ret
    exact ⟨_, _, _, rfl, World.ownsRow_lit w #[] 0 (Nat.le_refl _) (by simp [maxLen]) rfl, (Below.refl _ _).alloc (Nat.le_refl _) _, by simp [ints, partsU]⟩
  | f s us =>
    simp only [Tm.c0] at e0 e2
    have hul := sizes_len9 us
    simp only [Tm.size] at hus
    have hun : us.length ≤ n := by have h1 := subT_lt Hu.out; simp only [Tm.size] at h1; have := Hl.out; omega
    go_enter Try.func89, Try.ntmps89
    go_wp2
    go_loopw [5, 6, 7] (fun ov tv kv wr => ∃ (k q m c8 : Nat) (A8 : Option Addr), k ≤ us.length ∧ m ≤ us.length ∧ kv = .int .i64 k ∧ tv = .int .i64 q ∧ ov = .slice A8 m c8 ∧ wr.ownsRow w.heap.size 3 1 (.slice A8 m c8) m ((ints ((List.range k).map (argP i us))).map (Value.int .i64)) ∧ Hid (q = argP i us k ∧ m = k) ∧ q ≤ n ∧ Below w.heap.size w wr) (fun _ _ kv _ => us.length - (intOf kv).toNat)
    case atStart => exact ⟨0, i + 1, 0, 0, _, Nat.zero_le _, Nat.zero_le _, rfl, by go_num, rfl, World.ownsRow_lit w #[] 0 (Nat.le_refl _) (by simp [maxLen]) rfl, Lib.hid ⟨by simp [argP, sizes], rfl⟩, by omega, (Below.refl _ _).alloc (Nat.le_refl _) _⟩
    case round =>
      obtain ⟨k, q, m, c8, A8, hk, hm, rfl, rfl, rfl, hown, hq, hqn, hbw⟩ := hrel
      have Hown := Lib.hid hown
      have c2 := (hbw.cell (p := ⟨b, off + i * 3 + 2, none⟩) hb).trans e2
      have c0 := (hbw.cell (p := ⟨b, off + i * 3, none⟩) hb).trans e0
      have hbr : b < wr.heap.size := Nat.lt_of_lt_of_le hb hbw.size
      have hszw := hbw.size
      clear hown
      by_cases hkn : k < us.length
      · have hkd : decide (k < us.length) = true := by simp; exact hkn
        have a1 := subT_arg i ts Hu.out hkn
        rw [List.getElem?_eq_getElem hkn, ← hq.out.1] at a1
        have hal := subT_lt a1
        have hap := us[k].size_pos
        have hqs := argP_succ i hkn
        rw [← hq.out.1] at hqs
        have Hend := Lib.hid (fun wx (hb' : Below w.heap.size w wx) => uEnd_any (some ⟨b, off, none⟩) n c ts q us[k] wx (HC.out.below hb') a1 hn)
        have Hqs := Lib.hid hqs
        have hq1 : q + us[k].size ≤ n := by have := Hl.out; omega
        generalize us[k].size = sz at *
        clear a1 hal hqs
        go_wp2_with (first
          | (at_builtin; go_must (refine wpList_append_sl rfl (.tmp 27) (.tmp 29) 23 rfl w.heap.size 3 Try.underlying23 infoI rfl (by omega) rfl (Hown.out.alloc _) rfl (Sl.lit wr _ [.int .i64 (q : Int)] 3 1 1 (by simp) rfl (by simp [maxLen])) (one1 rfl) (by omega) (by omega) (by simp; omega) ?_); intro A9 c9 w9 hown9 hb9 _ _; have Hown9 := Lib.hid hown9; have Hb9 := Lib.hid (hbw.trans (((Below.refl w.heap.size wr).alloc hszw _).trans hb9)); clear hown9 hb9)
          | (go_at_call 95; go_must (refine (Hend.out _ Hb9.out).mono ?_); rintro e w5 ⟨rfl, rfl⟩))
        go_roundw
        case rel => exact ⟨k + 1, q + sz, m + 1, c9, A9, by omega, by have := hq.out.2; omega, by go_num, rfl, rfl, by
          have h9 := Hown9.out
          have e : (ints ((List.range (k + 1)).map (argP i us))).map (Value.int .i64) = (ints ((List.range k).map (argP i us))).map (Value.int .i64) ++ [.int .i64 (q : Int)] := by
            rw [hq.out.1]
            simp [ints, List.range_succ]
          rw [e]; exact h9, Lib.hid ⟨Hqs.out.symm, by have := hq.out.2; omega⟩, hq1, Hb9.out⟩
        case measure => simp [intOf]; omega
      · have hkd : decide (k < us.length) = false := by simp; omega
        have hke : k = us.length := by omega
        have Hke := Lib.hid hke
        clear hke
        go_wp2
        go_ret
        refine ⟨A8, m, c8, rfl, ?_, hbw, ?_⟩
        · have := Hown.out
          rw [Hke.out] at this
          exact this
        · intro x hx
          obtain ⟨y, hy, rfl⟩ := List.mem_map.1 hx
          obtain ⟨k', hk', rfl⟩ := List.mem_map.1 hy
          have := (argP_lt Hu.out (List.mem_range.1 hk')).2
          have := Hl.out
          unfold i64
          omega
theorem uparts_any (A : Option Addr) (n c : Nat) (ts : List Tm) (i : Nat) (u : Tm) (w : World) (h : IsC w A n c (flats ts)) (hu : subT ts i = some u) (hn : n ≤ 100000) :
    Calls Try.prog 89 #[.slice A n c, .int .i64 i] w (RetI w (ints (partsU i u))) := by
  refine (uparts_own A n c ts i u w h hu hn).mono ?_
  rintro e w' ⟨A8, m, c8, rfl, h1, h2, h3⟩
  exact ⟨A8, m, c8, rfl, ⟨Sl.own h1 (by omega), h3⟩, h2⟩
end Go.Proofs.Ytlndjooddkjnoaa

/- The walk of layer 3's one (the document's): a class that becomes another one. -/
namespace Go.Proofs.Ytlndjooddkjnoaa
open Go.RowKit

def turnK (f t : Nat) (x : Nat) : Nat := if x = f then t else x
def mixK (f t k : Nat) (cl : List Nat) : List Nat := (cl.take k).map (turnK f t) ++ cl.drop k
theorem mixK_at (f t : Nat) {k x : Nat} {cl : List Nat} (h : cl[k]? = some x) : (mixK f t k cl)[k]? = some x := by
  have hk := (List.getElem?_eq_some_iff.1 h).1
  unfold mixK
  rw [List.getElem?_append_right (by simp; omega)]
  simp only [List.length_map, List.length_take, List.getElem?_drop]
  rw [show k + (k - min k cl.length) = k by omega]
  exact h
theorem mixK_set (f t : Nat) {k x : Nat} {cl : List Nat} (h : cl[k]? = some x) : (mixK f t k cl).set k (turnK f t x) = mixK f t (k + 1) cl := by
  have hk := (List.getElem?_eq_some_iff.1 h).1
  have hd : cl.drop k = x :: cl.drop (k + 1) := by
    rw [List.drop_eq_getElem_cons hk]
    congr 1
    rw [List.getElem?_eq_getElem hk] at h
    injection h
  unfold mixK
  rw [hd, List.set_append_right _ _ (by simp; omega)]
  simp only [List.length_map, List.length_take]
  rw [show k - min k cl.length = 0 by omega, List.set_cons_zero, List.take_add_one, h, List.map_append]
  simp
theorem mixK_same (f t : Nat) {k x : Nat} {cl : List Nat} (h : cl[k]? = some x) (hx : x ≠ f) : mixK f t k cl = mixK f t (k + 1) cl := by
  rw [← mixK_set f t h]
  have : turnK f t x = x := by unfold turnK; rw [if_neg hx]
  rw [this]
  apply List.ext_getElem?
  intro i
  by_cases hi : i = k
  · subst hi
    have hlt := (List.getElem?_eq_some_iff.1 (mixK_at f t h)).1
    rw [mixK_at f t h, List.getElem?_set_self hlt]
  · rw [List.getElem?_set_ne (fun e => hi e.symm)]
theorem mixK_end (f t : Nat) {k : Nat} {cl : List Nat} (h : cl.length ≤ k) : mixK f t k cl = cl.map (turnK f t) := by
  unfold mixK
  rw [List.take_of_length_le h, List.drop_of_length_le h, List.append_nil]
theorem ints_set (l : List Nat) (k x : Nat) : ((ints l).map (Value.int .i64)).set k (.int .i64 (x : Int)) = (ints (l.set k x)).map (Value.int .i64) := by
  simp [ints, List.map_set]
set_option maxHeartbeats 2000000 in
theorem uone_any (B : Option Addr) (n d : Nat) (cl : List Nat) (f t : Nat) (w : World) (h : IsI w B n d (ints cl)) (hn : n ≤ 100000) (ht : t ≤ 100000) :
    Calls Try.prog 87 #[.slice B n d, .int .i64 f, .int .i64 t] w (RetI w (ints (cl.map (turnK f t)))) := by
  have hl := h.len
  rw [ints_len] at hl
  have HC := Lib.hid h
  have Hl := Lib.hid hl
  have hRC := Lib.hid (fun (o : Obj) => h.sl.below ((Below.refl w.heap.size w).alloc (Nat.le_refl _) o))
  clear h hl
  go_enter Try.func87, Try.ntmps87
  go_upto_region 2 with (first
    | (at_builtin; go_must (refine wpList_append_sl rfl (.tmp 9) (.tmp 10) 23 rfl w.heap.size 3 Try.underlying23 infoI rfl (by omega) rfl (World.ownsRow_lit w #[] 0 (Nat.le_refl _) (by simp [maxLen]) rfl) rfl (hRC.out _) (oneI _ (ints cl)) (by omega) (by omega) (by simp) ?_); intro A1 c1 w1 hown1 hb1' _ _; have ho1 : w1.ownsRow w.heap.size 3 1 (.slice A1 n c1) n ((ints cl).map (Value.int .i64)) := (by simpa using hown1); have hb1 : Below w.heap.size w w1 := ((Below.refl _ _).alloc (Nat.le_refl _) _).trans hb1'; clear hown1 hb1'))
  have Ho1 := Lib.hid ho1
  have Hb1 := Lib.hid hb1
  clear ho1 hb1 hRC
  go_wp2
  go_loopw [8] (fun kv wr => ∃ k : Nat, k ≤ n ∧ kv = .int .i64 k ∧ wr.ownsRow w.heap.size 3 1 (.slice A1 n c1) n ((ints (mixK f t k cl)).map (Value.int .i64)) ∧ Below w.heap.size w wr) (fun kv _ => n - (intOf kv).toNat)
  case atStart => exact ⟨0, Nat.zero_le _, rfl, by simpa [mixK] using Ho1.out, Hb1.out⟩
  case round =>
    clear Ho1 Hb1
    obtain ⟨k, hk, rfl, hown, hb⟩ := hrel
    by_cases hkn : k < n
    · obtain ⟨x, hx⟩ : ∃ x, cl[k]? = some x := ⟨_, List.getElem?_eq_getElem (by have := Hl.out; omega)⟩
      have hget : ((ints (mixK f t k cl)).map (Value.int .i64))[k]? = some (.int .i64 (x : Int)) := by rw [List.getElem?_map, ints_get (mixK_at f t hx)]; rfl
      obtain ⟨ga, rfl⟩ : ∃ ga, A1 = some ⟨ga, 0, none⟩ := by
        obtain ⟨g, cap', hv, _⟩ := hown.form (by omega)
        injection hv with hv
        exact ⟨g, hv⟩
      have hl0 := (hown.cellAt k (by omega)).trans hget
      have hf0 := hown.frozenAt k
      obtain ⟨hg1, hg2⟩ := hown.lt ga rfl
      have hsl := Sl.own hown (by omega)
      have hc1 := hsl.hcap
      have hc2 := hsl.hmax
      unfold maxLen at hc2
      have Hown := Lib.hid hown
      have Hx := Lib.hid hx
      clear hown hsl hx hget
      by_cases hxf : x = f
      · have hxb : ((x : Int) == (f : Int)) = true := by simp; omega
        have hst := (Hown.out.stored k (.int .i64 (t : Int))).1
        have h2 := mixK_set f t Hx.out
        rw [show turnK f t x = t by unfold turnK; rw [if_pos hxf]] at h2
        rw [ints_set, h2] at hst
        clear h2
        have Hst := Lib.hid hst
        clear hst hxf
        go_wp2
        go_roundw
        case rel => exact ⟨k + 1, by omega, by go_num, Hst.out, hb.setCell hg1 _⟩
        case measure => simp [intOf]; omega
      · have hxb : ((x : Int) == (f : Int)) = false := by simp; omega
        have hst := Hown.out
        rw [mixK_same f t Hx.out hxf] at hst
        have Hst := Lib.hid hst
        clear hst hxf
        go_wp2
        go_roundw
        case rel => exact ⟨k + 1, by omega, by go_num, Hst.out, hb⟩
        case measure => simp [intOf]; omega
    · have hfin := hown
      rw [mixK_end f t (by have := Hl.out; omega)] at hfin
      have Hfin := Lib.hid hfin
      clear hfin hown
      go_wp2
      go_ret
      refine ⟨A1, n, c1, rfl, ⟨Sl.own Hfin.out (by omega), ?_⟩, hb⟩
      intro y hy
      obtain ⟨z, hz, rfl⟩ := List.mem_map.1 hy
      obtain ⟨v, hv, rfl⟩ := List.mem_map.1 hz
      have h1 := HC.out.wf (v : Int) (List.mem_map.2 ⟨v, hv, rfl⟩)
      unfold turnK
      split
      · unfold i64; omega
      · exact h1
end Go.Proofs.Ytlndjooddkjnoaa

/- The walk of layer 3's pair (the document's): two places that must be of one class. -/
namespace Go.Proofs.Ytlndjooddkjnoaa
open Go.RowKit

/-- a place's class -/
def clsF (cl : List Nat) (i : Nat) : Nat := (cl[i]?).getD 0
theorem clsF_get {cl : List Nat} {i : Nat} (h : i < cl.length) : cl[i]? = some (clsF cl i) := by unfold clsF; rw [List.getElem?_eq_getElem h]; rfl
/-- nothing asks two places for more -/
def NoP (ts : List Tm) (cls : Nat → Nat) (a b : Nat) : Prop :=
  (∀ n, subT ts a = some (.v n) → subT ts b = some (.v n) → cls a = cls b) ∧
  ∀ s us vs k, cls a = cls b → subT ts a = some (.f s us) → subT ts b = some (.f s vs) → us.length = vs.length → k < us.length → cls (argP a us k) = cls (argP b vs k)
theorem closed_of {ts : List Tm} {cls : Nat → Nat} (h : ∀ a, a < sizes ts → ∀ b, b < a → NoP ts cls a b) : Closed ts cls := by
  have lt : ∀ {i u}, subT ts i = some u → i < sizes ts := fun {i u} hu => by have := subT_lt hu; have := u.size_pos; omega
  rintro x y (⟨n, h1, h2⟩ | ⟨a, b, s, us, vs, k, h1, h2, h3, h4, h5, rfl, rfl⟩)
  · rcases Nat.lt_trichotomy x y with e | e | e
    · exact ((h y (lt h2) x e).1 n h2 h1).symm
    · rw [e]
    · exact (h x (lt h1) y e).1 n h1 h2
  · rcases Nat.lt_trichotomy a b with e | e | e
    · exact ((h b (lt h3) a e).2 s vs us k h1.symm h3 h2 h4.symm (by omega)).symm
    · subst e
      rw [h2] at h3
      injection h3 with h3
      injection h3 with _ h3
      rw [h3]
    · exact (h a (lt h2) b e).2 s us vs k h1 h2 h3 h4 h5
theorem NoP.cells {ts : List Tm} {cls : Nat → Nat} {a b : Nat} {u v : Tm} (hu : subT ts a = some u) (hv : subT ts b = some v) (h : (u.c0.kind = 1 → u.c0 = v.c0 → cls a = cls b) ∧ (cls a = cls b → u.c0.kind = 3 → u.c0 = v.c0 → False)) : NoP ts cls a b := by
  refine ⟨fun n h1 h2 => ?_, fun s us vs k hc h1 h2 hl hk => ?_⟩
  · rw [hu] at h1; rw [hv] at h2
    injection h1 with h1
    injection h2 with h2
    subst h1; subst h2
    exact h.1 rfl rfl
  · rw [hu] at h1; rw [hv] at h2
    injection h1 with h1
    injection h2 with h2
    subst h1; subst h2
    exact absurd (h.2 hc rfl (by simp [Tm.c0, hl])) id
def PairOk (ts : List Tm) (cl : List Nat) (x y : Nat) : Prop := x < sizes ts ∧ y < sizes ts ∧ Must ts (clsF cl) x y ∧ clsF cl x ≠ clsF cl y
def RetPair (ts : List Tm) (cl : List Nat) (w : World) (e : Ending) (w' : World) : Prop := ∃ (x y : Nat) (ok : Bool), e = .returned (.tuple #[.int .i64 x, .int .i64 y, .bool ok]) ∧ Below w.heap.size w w' ∧ (ok = true → x < sizes ts ∧ y < sizes ts ∧ Must ts (clsF cl) x y ∧ clsF cl x ≠ clsF cl y) ∧ (ok = false → Closed ts (clsF cl))
set_option maxRecDepth 100000 in
set_option maxHeartbeats 8000000 in
theorem upair_any (A B : Option Addr) (n c d : Nat) (ts : List Tm) (cl : List Nat) (w : World) (h : IsC w A n c (flats ts)) (hB : IsI w B n d (ints cl)) (hn : n ≤ 100000) (hcl : ∀ x ∈ cl, x ≤ 100000) :
    Calls Try.prog 88 #[.slice A n c, .slice B n d] w (RetPair ts cl w) := by
  have hl := h.len
  rw [flats_size9] at hl
  have hbl := hB.len
  rw [ints_len] at hbl
  have HC := Lib.hid h
  have HB := Lib.hid hB
  have Hl := Lib.hid hl
  have Hbl := Lib.hid hbl
  have Hcl := Lib.hid hcl
  have hcd := h.sl.hcap
  have hcm := h.sl.hmax
  unfold maxLen at hcm
  have hdd := hB.sl.hcap
  have hdm := hB.sl.hmax
  unfold maxLen at hdm
  clear h hB hl hbl hcl
  go_enter Try.func88, Try.ntmps88
  go_wp2
  go_loopw [7] (fun av wr => ∃ a : Nat, a ≤ n ∧ av = .int .i64 a ∧ Hid (∀ a', a' < a → ∀ b', b' < a' → NoP ts (clsF cl) a' b') ∧ Below w.heap.size w wr) (fun av _ => n - (intOf av).toNat)
  case atStart => exact ⟨0, Nat.zero_le _, rfl, Lib.hid (fun a' ha' => by omega), Below.refl _ _⟩
  case round =>
    obtain ⟨a, ha, rfl, hall, hbr⟩ := hrel
    by_cases han : a < n
    · go_wp2
      go_loopw [8] (fun bv wr2 => ∃ b : Nat, b ≤ a ∧ bv = .int .i64 b ∧ Hid (∀ b', b' < b → NoP ts (clsF cl) a b') ∧ Below w.heap.size w wr2) (fun bv _ => a - (intOf bv).toNat)
      case atStart => exact ⟨0, Nat.zero_le _, rfl, Lib.hid (fun b' hb' => by omega), hbr⟩
      case round =>
        clear hbr
        obtain ⟨b, hb, rfl, hno, hbr2⟩ := hrel
        by_cases hba : b < a
        · obtain ⟨u, hu⟩ := subT_some a ts (by have := Hl.out; omega)
          obtain ⟨v, hv⟩ := subT_some b ts (by have := Hl.out; omega)
          obtain ⟨bb, off, rfl, hbb, hwfu, e0, e1, e2⟩ := HC.out.at_ (subT_cell hu)
          obtain ⟨bb', off', he', _, hwfv, e3, e4, e5⟩ := HC.out.at_ (subT_cell hv)
          injection he' with he'
          injection he' with i1 i2 i3
          subst i1; subst i2
          have hbn : b < n := by omega
          have hga := clsF_get (cl := cl) (i := a) (by have := Hbl.out; omega)
          have hgb := clsF_get (cl := cl) (i := b) (by have := Hbl.out; omega)
          obtain ⟨bc, oc, rfl, hbc, hwfa, f0⟩ := HB.out.at_ (ints_get hga)
          obtain ⟨bc', oc', he'', _, hwfb, f1⟩ := HB.out.at_ (ints_get hgb)
          injection he'' with he''
          injection he'' with i1 i2 i3
          subst i1; subst i2
          have k0 := (hbr2.cell (p := ⟨bb, off + a * 3, none⟩) hbb).trans e0
          have k1 := (hbr2.cell (p := ⟨bb, off + a * 3 + 1, none⟩) hbb).trans e1
          have k2 := (hbr2.cell (p := ⟨bb, off + a * 3 + 2, none⟩) hbb).trans e2
          have k3 := (hbr2.cell (p := ⟨bb, off + b * 3, none⟩) hbb).trans e3
          have k4 := (hbr2.cell (p := ⟨bb, off + b * 3 + 1, none⟩) hbb).trans e4
          have k5 := (hbr2.cell (p := ⟨bb, off + b * 3 + 2, none⟩) hbb).trans e5
          have m0 := (hbr2.cell (p := ⟨bc, oc + a, none⟩) hbc).trans f0
          have m1 := (hbr2.cell (p := ⟨bc, oc + b, none⟩) hbc).trans f1
          have hbbr : bb < wr.heap.size := Nat.lt_of_lt_of_le hbb hbr2.size
          have hbcr : bc < wr.heap.size := Nat.lt_of_lt_of_le hbc hbr2.size
          have heq := fun w => eqC u.c0 v.c0 w
          have hneq := fun w => neqC u.c0 v.c0 w
          have Hu := Lib.hid hu
          have Hv := Lib.hid hv
          have hca := Hcl.out _ (List.mem_of_getElem? hga)
          have hcb := Hcl.out _ (List.mem_of_getElem? hgb)
          have hbq : ∀ q, u.c0.beq v.c0 = q → (q = true ↔ u.c0 = v.c0) := fun q hq => by
            rw [← hq]
            exact ⟨fun h => beq_true h, fun h => by rw [h]; exact beq_refl8 _⟩
          have Hbq := Lib.hid hbq
          obtain ⟨ca, hcae⟩ : ∃ ca, ca = clsF cl a := ⟨_, rfl⟩
          obtain ⟨cb, hcbe⟩ : ∃ cb, cb = clsF cl b := ⟨_, rfl⟩
          rw [← hcae] at m0 hca
          rw [← hcbe] at m1 hcb
          have Hcae := Lib.hid hcae
          have Hcbe := Lib.hid hcbe
          clear hu hv hwfu hwfv hga hgb hwfa hwfb e0 e1 e2 e3 e4 e5 f0 f1 hbq hcae hcbe
          by_cases hk1 : u.c0.kind = 1
          · have kb1 : (u.c0.kind == 1) = true := by simp [hk1]
            have kb3 : (u.c0.kind == 3) = false := by simp [hk1]
            have kb3' : (u.c0.kind != 3) = true := by simp [hk1]
            cases hq : u.c0.beq v.c0
            · have hne : u.c0 ≠ v.c0 := fun e => by have := (Hbq.out _ hq).2 e; cases this
              have hnop : Hid (NoP ts (clsF cl) a b) := Lib.hid (NoP.cells Hu.out Hv.out ⟨fun _ e => absurd e hne, fun _ _ e => absurd e hne⟩)
              rw [hq] at heq hneq
              clear hq hne hk1
              by_cases hce : ca = cb
              · have hcb1 : ((ca : Int) != (cb : Int)) = false := by simp; omega
                clear hce
                go_upto_region 7 with fail
                go_quiet (fail)
                go_upto_region 9 with fail
                go_quiet (fail)
                have hno2 : Hid (∀ b', b' < b + 1 → NoP ts (clsF cl) a b') := Lib.hid (fun b' hb' => by
                  by_cases e : b' = b
                  · subst e; exact hnop.out
                  · exact hno.out b' (by omega))
                go_wp2
                go_roundw
                case rel => exact ⟨b + 1, by omega, by go_num, hno2, below_drewN hbr2 _⟩
                case measure => simp [intOf]; omega
              · have hcb1 : ((ca : Int) != (cb : Int)) = true := by simp; omega
                clear hce
                go_upto_region 7 with fail
                go_quiet (fail)
                go_upto_region 9 with fail
                go_quiet (fail)
                have hno2 : Hid (∀ b', b' < b + 1 → NoP ts (clsF cl) a b') := Lib.hid (fun b' hb' => by
                  by_cases e : b' = b
                  · subst e; exact hnop.out
                  · exact hno.out b' (by omega))
                go_wp2
                go_roundw
                case rel => exact ⟨b + 1, by omega, by go_num, hno2, below_drewN hbr2 _⟩
                case measure => simp [intOf]; omega
            · have heqc := (Hbq.out _ hq).1 rfl
              rw [hq] at heq hneq
              by_cases hce : ca = cb
              · have hnop : Hid (NoP ts (clsF cl) a b) := Lib.hid (NoP.cells Hu.out Hv.out ⟨fun _ _ => by rw [← Hcae.out, ← Hcbe.out]; exact hce, fun _ h3 _ => by omega⟩)
                have hcb1 : ((ca : Int) != (cb : Int)) = false := by simp; omega
                clear hce heqc hq hk1
                go_upto_region 7 with fail
                go_quiet (fail)
                go_upto_region 9 with fail
                go_quiet (fail)
                have hno2 : Hid (∀ b', b' < b + 1 → NoP ts (clsF cl) a b') := Lib.hid (fun b' hb' => by
                  by_cases e : b' = b
                  · subst e; exact hnop.out
                  · exact hno.out b' (by omega))
                go_wp2
                go_roundw
                case rel => exact ⟨b + 1, by omega, by go_num, hno2, below_drewN hbr2 _⟩
                case measure => simp [intOf]; omega
              · have hcb1 : ((ca : Int) != (cb : Int)) = true := by simp; omega
                have hmust : Must ts (clsF cl) a b := by
                  left
                  have hu := Hu.out
                  have hv := Hv.out
                  cases u with
                  | v x =>
                    cases v with
                    | v y => simp only [Tm.c0, C.mk.injEq, true_and] at heqc; rw [heqc] at hu; exact ⟨_, hu, hv⟩
                    | i y => simp [Tm.c0] at heqc
                    | f s' vs => simp [Tm.c0] at heqc
                  | i x => simp [Tm.c0] at hk1
                  | f s us => simp [Tm.c0] at hk1
                have Hmust := Lib.hid (show a < sizes ts ∧ b < sizes ts ∧ Must ts (clsF cl) a b ∧ clsF cl a ≠ clsF cl b from ⟨by have := Hl.out; omega, by have := Hl.out; omega, hmust, by rw [← Hcae.out, ← Hcbe.out]; exact hce⟩)
                clear hmust hce heqc hq hk1
                go_upto_region 7 with fail
                go_quiet (fail)
                go_wp2
                refine bodyPost_ret (v := .tuple #[.int .i64 a, .int .i64 b, .bool true]) (by simp [results, Try.results88, go_sem, *]) rfl ?_
                exact ⟨a, b, true, rfl, below_drewN hbr2 _, fun _ => Hmust.out, by simp⟩
          · have kb1 : (u.c0.kind == 1) = false := by simp [hk1]
            by_cases hce : ca = cb
            · have hcb1 : ((ca : Int) != (cb : Int)) = false := by simp; omega
              by_cases hk3 : u.c0.kind = 3
              · have kb3 : (u.c0.kind == 3) = true := by simp [hk3]
                have kb3' : (u.c0.kind != 3) = false := by simp [hk3]
                cases hq : u.c0.beq v.c0
                · have hne : u.c0 ≠ v.c0 := fun e => by have := (Hbq.out _ hq).2 e; cases this
                  have hnop : Hid (NoP ts (clsF cl) a b) := Lib.hid (NoP.cells Hu.out Hv.out ⟨fun _ e => absurd e hne, fun _ _ e => absurd e hne⟩)
                  rw [hq] at heq hneq
                  clear hq hne hk1 hk3 hce
                  go_upto_region 7 with fail
                  go_quiet (fail)
                  go_upto_region 9 with fail
                  go_quiet (fail)
                  have hno2 : Hid (∀ b', b' < b + 1 → NoP ts (clsF cl) a b') := Lib.hid (fun b' hb' => by
                    by_cases e : b' = b
                    · subst e; exact hnop.out
                    · exact hno.out b' (by omega))
                  go_wp2
                  go_roundw
                  case rel => exact ⟨b + 1, by omega, by go_num, hno2, below_drewN hbr2 _⟩
                  case measure => simp [intOf]; omega
                · have heqc := (Hbq.out _ hq).1 rfl
                  rw [hq] at heq hneq
                  obtain ⟨s, us, vs, hue, hve, hlen⟩ : ∃ s us vs, u = .f s us ∧ v = .f s vs ∧ us.length = vs.length := by
                    cases u with
                    | v x => simp [Tm.c0] at hk3
                    | i x => simp [Tm.c0] at hk3
                    | f s us =>
                      cases v with
                      | v y => simp [Tm.c0] at heqc
                      | i y => simp [Tm.c0] at heqc
                      | f s' vs =>
                        simp only [Tm.c0, C.mk.injEq, true_and] at heqc
                        obtain ⟨rfl, hl⟩ := heqc
                        exact ⟨s, us, vs, rfl, rfl, by omega⟩
                  have Hue := Lib.hid hue
                  have Hve := Lib.hid hve
                  have Hlen := Lib.hid hlen
                  have Hce := Lib.hid (show clsF cl a = clsF cl b by rw [← Hcae.out, ← Hcbe.out]; exact hce)
                  have hul : us.length ≤ n := by have h1 := subT_lt Hu.out; rw [hue] at h1; simp only [Tm.size] at h1; have := sizes_len9 us; have := Hl.out; omega
                  have Hpu := Lib.hid (fun wx (hb' : Below w.heap.size w wx) => uparts_any (some ⟨bb, off, none⟩) n c ts a u wx (HC.out.below hb') Hu.out hn)
                  have Hpv := Lib.hid (fun wx (hb' : Below w.heap.size w wx) => uparts_any (some ⟨bb, off, none⟩) n c ts b v wx (HC.out.below hb') Hv.out hn)
                  clear hq hk1 hk3 hce heqc hue hve hlen
                  go_upto_region 7 with fail
                  go_quiet (fail)
                  go_upto_region 9 with fail
                  go_quiet (fail)
                  have Hbr := Lib.hid (fun q => below_drewN hbr2 q)
                  go_upto_region 11 with (first
                    | (go_at_call 89; have hfirst := Hpu; go_must (refine (Hpu.out _ (Hbr.out _)).mono ?_); rintro e w1 ⟨P1, np, cp, rfl, hP, hb1⟩; have HP := Lib.hid hP; have Hb1 := Lib.hid (Below.trans (Hbr.out _) (hb1.mono (Hbr.out _).size)); clear hfirst Hpu hP hb1)
                    | (go_at_call 89; go_must (refine (Hpv.out _ Hb1.out).mono ?_); rintro e w2 ⟨Q1, nQ, cQ, rfl, hQ, hb2⟩; have HQ := Lib.hid hQ; have HP2 := Lib.hid (HP.out.below hb2); have Hb2 := Lib.hid (Hb1.out.trans (hb2.mono Hb1.out.size)); clear hQ hb2 HP Hb1))
                  clear k0 k1 k2 k3 k4 k5 m0 m1 heq hneq Hpv Hbr
                  have hpl := HP2.out.len
                  have hql := HQ.out.len
                  rw [ints_len, Hue.out] at hpl
                  rw [ints_len, Hve.out] at hql
                  simp only [partsU, List.length_map, List.length_range] at hpl hql
                  have hnp : us.length = np := hpl
                  have hnQ : us.length = nQ := by have := Hlen.out; omega
                  have HnP := Lib.hid hnp
                  have HnQ := Lib.hid hnQ
                  have hp1 := HP2.out.sl.hcap
                  have hp2 := HP2.out.sl.hmax
                  have hq1 := HQ.out.sl.hcap
                  have hq2 := HQ.out.sl.hmax
                  unfold maxLen at hp2 hq2
                  have hnpn : np ≤ n := by omega
                  have hnQn : nQ ≤ n := by omega
                  have hnpq : nQ = np := by omega
                  have HnpQ := Lib.hid hnpq
                  clear hpl hql hnp hnQ hul hbr2 hnpq
                  go_wp2
                  go_loopw [11] (fun iv wr3 => ∃ i : Nat, i ≤ np ∧ iv = .int .i64 i ∧ Hid (∀ k, k < i → clsF cl (argP a us k) = clsF cl (argP b vs k)) ∧ Below w2.heap.size w2 wr3) (fun iv _ => np - (intOf iv).toNat)
                  case atStart => exact ⟨0, Nat.zero_le _, rfl, Lib.hid (fun k hk => by omega), Below.refl _ _⟩
                  case round =>
                    obtain ⟨i, hi, rfl, hsame, hb3⟩ := hrel
                    have Hb3 := Lib.hid (Hb2.out.trans (hb3.mono Hb2.out.size))
                    by_cases hin : i < np
                    · have hin2 : i < us.length := by have := HnP.out; omega
                      have hin3 : i < vs.length := by have := Hlen.out; omega
                      have hu := Hu.out
                      have hv := Hv.out
                      rw [Hue.out] at hu
                      rw [Hve.out] at hv
                      have hxl := (argP_lt hu hin2).2
                      have hyl := (argP_lt hv hin3).2
                      have hgx : (ints (partsU a u))[i]? = some ((argP a us i : Nat) : Int) := by rw [Hue.out]; exact ints_get (by simp [partsU, hin2])
                      have hgy : (ints (partsU b v))[i]? = some ((argP b vs i : Nat) : Int) := by rw [Hve.out]; exact ints_get (by simp [partsU, hin3])
                      have hmst : Must ts (clsF cl) (argP a us i) (argP b vs i) := .inr ⟨a, b, s, us, vs, i, Hce.out, hu, hv, Hlen.out, hin2, rfl, rfl⟩
                      obtain ⟨bp, op_, rfl, hbp, _, g0⟩ := HP2.out.at_ hgx
                      obtain ⟨bq, oq, rfl, hbq, _, g1⟩ := HQ.out.at_ hgy
                      have hcx := clsF_get (cl := cl) (i := argP a us i) (by have := Hbl.out; have := Hl.out; omega)
                      have hcy := clsF_get (cl := cl) (i := argP b vs i) (by have := Hbl.out; have := Hl.out; omega)
                      obtain ⟨b1, o1, he1, hbx, _, g2⟩ := HB.out.at_ (ints_get hcx)
                      obtain ⟨b2, o2, he2, hby, _, g3⟩ := HB.out.at_ (ints_get hcy)
                      injection he1 with he1
                      injection he1 with j1 j2 j3
                      subst j1; subst j2
                      injection he2 with he2
                      injection he2 with j1 j2 j3
                      subst j1; subst j2
                      have g0' := (hb3.cell (p := ⟨bp, op_ + i, none⟩) hbp).trans g0
                      have g1' := (hb3.cell (p := ⟨bq, oq + i, none⟩) hbq).trans g1
                      have g2' := (Hb3.out.cell (p := ⟨bc, oc + argP a us i, none⟩) hbx).trans g2
                      have g3' := (Hb3.out.cell (p := ⟨bc, oc + argP b vs i, none⟩) hby).trans g3
                      have hbpr := Nat.lt_of_lt_of_le hbp hb3.size
                      have hbqr := Nat.lt_of_lt_of_le hbq hb3.size
                      have hbcr3 := Nat.lt_of_lt_of_le hbx Hb3.out.size
                      have hxn : argP a us i < n := by have := Hl.out; omega
                      have hyn : argP b vs i < n := by have := Hl.out; omega
                      have hinQ : i < nQ := by have := HnpQ.out; omega
                      have hres := Lib.hid (fun (hne : clsF cl (argP a us i) ≠ clsF cl (argP b vs i)) => (show PairOk ts cl (argP a us i) (argP b vs i) from ⟨hxl, hyl, hmst, hne⟩))
                      have hsx : Hid (∀ (e : clsF cl (argP a us i) = clsF cl (argP b vs i)), ∀ k, k < i + 1 → clsF cl (argP a us k) = clsF cl (argP b vs k)) := Lib.hid (fun e k hk => by
                        by_cases hki : k = i
                        · subst hki; exact e
                        · exact hsame.out k (by omega))
                      have hcx2 := Hcl.out _ (List.mem_of_getElem? hcx)
                      have hcy2 := Hcl.out _ (List.mem_of_getElem? hcy)
                      generalize clsF cl (argP a us i) = cx at *
                      generalize clsF cl (argP b vs i) = cy at *
                      generalize argP a us i = x at *
                      generalize argP b vs i = y at *
                      clear hu hv hxl hyl hgx hgy hmst hcx hcy g0 g1 g2 g3 hin2 hin3
                      by_cases hce : cx = cy
                      · have hcn : ((cx : Int) != (cy : Int)) = false := by simp; omega
                        have Hs2 := Lib.hid (hsx.out hce)
                        clear hce
                        go_upto_region 14 with fail
                        go_quiet (fail)
                        go_wp2
                        go_roundw
                        case rel => exact ⟨i + 1, by omega, by go_num, Hs2, below_drewN hb3 _⟩
                        case measure => simp [intOf]; omega
                      · have hcn : ((cx : Int) != (cy : Int)) = true := by simp; omega
                        have Hr2 := Lib.hid (hres.out hce)
                        clear hce
                        go_upto_region 14 with fail
                        go_quiet (fail)
                        go_upto_region 15 with fail
                        go_quiet (fail)
                        go_wp2
                        refine bodyPost_ret (v := .tuple #[.int .i64 x, .int .i64 y, .bool true]) (by simp [results, Try.results88, go_sem, *]) rfl ?_
                        exact ⟨x, y, true, rfl, below_drewN Hb3.out _, fun _ => Hr2.out, by simp⟩
                    · have hnop : NoP ts (clsF cl) a b := by
                        refine ⟨fun n h1 _ => ?_, fun s' us' vs' k _ h1 h2 _ hk => ?_⟩
                        · rw [Hu.out] at h1
                          rw [Hue.out] at h1
                          cases h1
                        · rw [Hu.out] at h1
                          rw [Hv.out] at h2
                          injection h1 with h1
                          injection h2 with h2
                          rw [Hue.out] at h1
                          rw [Hve.out] at h2
                          injection h1 with _ h1
                          injection h2 with _ h2
                          subst h1; subst h2
                          exact hsame.out k (by have := HnP.out; omega)
                      have hno2 : Hid (∀ b', b' < b + 1 → NoP ts (clsF cl) a b') := Lib.hid (fun b' hb' => by
                        by_cases e : b' = b
                        · subst e; exact hnop
                        · exact hno.out b' (by omega))
                      clear hnop
                      go_wp2
                      go_roundw
                      case rel => exact ⟨b + 1, by omega, by go_num, hno2, Hb3.out⟩
                      case measure => simp [intOf]; omega
              · have kb3 : (u.c0.kind == 3) = false := by simp [hk3]
                have kb3' : (u.c0.kind != 3) = true := by simp [hk3]
                have hnop : Hid (NoP ts (clsF cl) a b) := Lib.hid (NoP.cells Hu.out Hv.out ⟨fun h _ => absurd h hk1, fun _ h => absurd h hk3⟩)
                clear hk1 hk3 hce
                go_upto_region 7 with fail
                go_quiet (fail)
                go_upto_region 9 with fail
                go_quiet (fail)
                have hno2 : Hid (∀ b', b' < b + 1 → NoP ts (clsF cl) a b') := Lib.hid (fun b' hb' => by
                  by_cases e : b' = b
                  · subst e; exact hnop.out
                  · exact hno.out b' (by omega))
                go_wp2
                go_roundw
                case rel => exact ⟨b + 1, by omega, by go_num, hno2, below_drewN hbr2 _⟩
                case measure => simp [intOf]; omega
            · have hcb1 : ((ca : Int) != (cb : Int)) = true := by simp; omega
              have hnop : Hid (NoP ts (clsF cl) a b) := Lib.hid (NoP.cells Hu.out Hv.out ⟨fun h _ => absurd h hk1, fun h => absurd h (by rw [← Hcae.out, ← Hcbe.out]; exact hce)⟩)
              clear hk1 hce
              go_upto_region 7 with fail
              go_quiet (fail)
              go_upto_region 9 with fail
              go_quiet (fail)
              have hno2 : Hid (∀ b', b' < b + 1 → NoP ts (clsF cl) a b') := Lib.hid (fun b' hb' => by
                by_cases e : b' = b
                · subst e; exact hnop.out
                · exact hno.out b' (by omega))
              go_wp2
              go_roundw
              case rel => exact ⟨b + 1, by omega, by go_num, hno2, below_drewN hbr2 _⟩
              case measure => simp [intOf]; omega
        · have hba2 : b = a := by omega
          have hall2 : Hid (∀ a', a' < a + 1 → ∀ b', b' < a' → NoP ts (clsF cl) a' b') := Lib.hid (fun a' ha' b' hb' => by
            by_cases e : a' = a
            · subst e; exact hno.out b' (by omega)
            · exact hall.out a' (by omega) b' hb')
          clear hba2
          go_wp2
          go_roundw
          case rel => exact ⟨a + 1, by omega, by go_num, hall2, hbr2⟩
          case measure => simp [intOf]; omega
    · have hcl2 := closed_of (ts := ts) (cls := clsF cl) (fun a' ha' => hall.out a' (by have := Hl.out; omega))
      have Hcl2 := Lib.hid hcl2
      clear hcl2
      go_wp2
      refine bodyPost_ret (v := .tuple #[.int .i64 0, .int .i64 0, .bool false]) (by simp [results, Try.results88, go_sem, *]) rfl ?_
      exact ⟨0, 0, false, rfl, hbr, by simp, fun _ => Hcl2.out⟩
end Go.Proofs.Ytlndjooddkjnoaa
