/- The walks of layer 2's Place, put and Apply, of the document's answer. -/
import Derived.Test.YtlndjooddkjnoaaB7
import Derived.Test.YtlndjooddkjnoaaB0
import Derived.Test.YtlndjooddkjnoaaHhA
set_option linter.unusedVariables false
set_option linter.unusedSimpArgs false
namespace Go.Proofs.Ytlndjooddkjnoaa
open Go.RowKit

/-- a binding in memory -/
def RBd : World → Int × List C → List Value → Prop := fun w p v => ∃ A n c, v = [.int .i64 p.1, .slice A n c] ∧ IsC w A n c p.2 ∧ i64 p.1
theorem keepsBd : Keeps RBd := fun _ _ _ _ ⟨A, n, c, h1, h2, h3⟩ hb => ⟨A, n, c, h1, h2.below hb, h3⟩
abbrev IsBs (w : World) (A : Option Addr) (n cap : Nat) (s : List (Int × List C)) : Prop := IsG RBd 2 w A n cap s
theorem bds_at {w : World} {A : Option Addr} {n c i : Nat} {s : List (Int × List C)} {p : Int × List C} (h : IsBs w A n c s) (hp : s[i]? = some p) : ∃ (b off : Nat) (A' : Option Addr) (n' c' : Nat), A = some ⟨b, off, none⟩ ∧ b < w.heap.size ∧ IsC w A' n' c' p.2 ∧ w.cell? ⟨b, off + i * 2, none⟩ = some (.int .i64 p.1) ∧ w.cell? ⟨b, off + i * 2 + 1, none⟩ = some (.slice A' n' c') := by
  obtain ⟨b, off, v, hA, hb, _, ⟨A', n', c', rfl, ht, ia⟩, hc⟩ := h.at_ hp
  exact ⟨b, off, A', n', c', hA, hb, ht, hc 0 _ rfl, hc 1 _ rfl⟩
theorem bds_cap {w : World} {A : Option Addr} {n c : Nat} {s : List (Int × List C)} (h : IsBs w A n c s) : n ≤ c ∧ c ≤ 2 ^ 63 - 1 := h.cap_le
def RetB (w : World) (v : Value) (e : Ending) (w' : World) : Prop := e = .returned v ∧ w = w'
theorem plB_bnd (s : List (Int × List C)) (v : Int) : -1 ≤ plB s v 0 ∧ plB s v 0 < (s.length : Int) ∨ plB s v 0 = -1 := by
  rcases plB_lk s v 0 with ⟨h, _⟩ | ⟨i, p, h, hp, _⟩
  · exact .inr h
  · have := (List.getElem?_eq_some_iff.1 hp).1
    exact .inl (by omega)
theorem rPlace2_any (A : Option Addr) (n c : Nat) (s : List (Int × List C)) (v : Int) (w : World) (h : IsBs w A n c s) (hn : n ≤ 100000) : Calls Try.prog 86 #[.slice A n c, .int .i64 v] w (RetB w (.int .i64 (plB s v 0))) := by
  have hl := h.len
  have Hl := Lib.hid hl
  have Hh := Lib.hid h
  clear hl h
  generalize hG : plB s v 0 = G
  have HG := Lib.hid hG
  clear hG
  go_enter Try.func86, Try.ntmps86
  go_wp2
  go_loopw [5] (fun iv wr => ∃ k : Nat, k ≤ n ∧ iv = .int .i64 k ∧ Hid (plB (s.drop k) v k = G) ∧ wr = w) (fun iv _ => n - (intOf iv).toNat)
  case atStart => exact ⟨0, Nat.zero_le _, rfl, Lib.hid (by simpa using HG.out), by first | rfl | trivial⟩
  case round =>
    obtain ⟨k, hk, rfl, hres, hwr⟩ := hrel
    try subst hwr
    by_cases hlt : k < n
    · obtain ⟨p, hp⟩ := Hh.out.get hlt
      obtain ⟨b, off, A', n', c', rfl, hbb, hC, e0, e1⟩ := bds_at Hh.out hp
      obtain ⟨hc1, hc2⟩ := bds_cap Hh.out
      have hd := drop_get hp
      have hr := hres.out
      rw [hd, plB] at hr
      have Hr := Lib.hid hr
      have hz : (k : Int) < (n : Int) := by omega
      clear hr hd hp hres hC e1
      by_cases he : p.1 = v
      · have heb : (p.1 == v) = true := by simp [he]
        have hG2 : Hid (G = (k : Int)) := Lib.hid (by have := Hr.out; rw [if_pos he] at this; exact this.symm)
        clear he
        go_wp2
        refine bodyPost_ret (v := .int .i64 (k : Int)) (by simp [results, Try.results86, go_sem, *]) rfl ?_
        exact ⟨by rw [hG2.out], rfl⟩
      · have heb : (p.1 == v) = false := by simp [he]
        have hG2 : Hid (plB (s.drop (k + 1)) v (k + 1) = G) := Lib.hid (by have := Hr.out; rw [if_neg he] at this; exact this)
        clear he
        go_wp2
        go_roundw
        case rel => exact ⟨k + 1, by omega, by go_num, hG2, by first | rfl | trivial⟩
        case measure => simp [intOf]; omega
    · have hr := hres.out
      rw [List.drop_eq_nil_of_le (by have := Hl.out; omega), plB] at hr
      have Hr := Lib.hid hr
      clear hr hres
      go_wp2
      refine bodyPost_ret (v := .int .i64 (-1)) (by simp [results, Try.results86, go_sem, *]) rfl ?_
      exact ⟨by rw [← Hr.out], rfl⟩
set_option maxRecDepth 100000 in
set_option maxHeartbeats 2000000 in
theorem rput_any (A At : Option Addr) (n c k kc : Nat) (s : List (Int × List C)) (t : List C) (w : World) (h : IsBs w A n c s) (ht : IsC w At k kc t) (hn : n ≤ 2000) (hk : k ≤ 2000) (hs : ∀ p ∈ s, p.2.length ≤ 1000) :
    Calls Try.prog 68 #[.slice A n c, .slice At k kc] w (fun e w' => ∃ A' n' c', e = .returned (.slice A' n' c') ∧ IsC w' A' n' c' (putB s t) ∧ Below w.heap.size w w') := by
  have Hl := Lib.hid ht.len
  have Hbs := Lib.hid h
  have Ht := Lib.hid ht
  have Hs := Lib.hid hs
  have Hpl0 := Lib.hid (fun (v : Int) (wx : World) (hb : Below w.heap.size w wx) => rPlace2_any A n c s v wx (IsG.below keepsBd h hb) (by omega))
  obtain ⟨hc1, hc2⟩ := bds_cap h
  have hk1 := ht.sl.hcap
  have hk2 := ht.sl.hmax
  unfold maxLen at hk2
  have hwf := Lib.hid ht.wf
  clear h ht hs
  go_enter Try.func68, Try.ntmps68
  go_wp2
  go_loopw [5, 6] (fun ov iv wr => ∃ (i : Nat) (Ao : Option Addr) (q co : Nat), i ≤ k ∧ iv = .int .i64 i ∧ ov = .slice Ao q co ∧ wr.ownsRow w.heap.size 54 3 (.slice Ao q co) q (flatC (putB s (t.take i))) ∧ Below w.heap.size w wr ∧ q ≤ 1000 * i) (fun _ iv _ => k - (intOf iv).toNat)
  case atStart => exact ⟨0, _, 0, _, Nat.zero_le _, rfl, rfl, own_lit0 (by simp) (Nat.le_refl _), bas _ _, by omega⟩
  case round =>
    obtain ⟨i, Ao, q, co, hi, rfl, rfl, hown, hb, hq⟩ := hrel
    have Hown := Lib.hid hown
    clear hown
    by_cases hlt : i < k
    · obtain ⟨x, hx⟩ := Ht.out.get hlt
      obtain ⟨b, off, rfl, hbb, hwx, e0, e1, e2⟩ := Ht.out.at_ hx
      have e0' := (hb.cell (p := ⟨b, off + i * 3, none⟩) hbb).trans e0
      have e1' := (hb.cell (p := ⟨b, off + i * 3 + 1, none⟩) hbb).trans e1
      have e2' := (hb.cell (p := ⟨b, off + i * 3 + 2, none⟩) hbb).trans e2
      have hbw := Nat.lt_of_lt_of_le hbb hb.size
      have hz : (i : Int) < (k : Int) := by omega
      have Hx := Lib.hid hx
      have Hpl := Lib.hid (Hpl0.out x.n)
      clear e0 e1 e2 hbb hx
      by_cases k1 : x.kind = 1
      · have kb : (x.kind == 1) = true := by simp [k1]
        rcases plB_lk s x.n 0 with ⟨h1, h2⟩ | ⟨j, p, h1, h2, h3⟩
        · rw [h1] at Hpl
          have Hcell : Hid (cellB s x = [x]) := Lib.hid (by unfold cellB; rw [if_pos k1, h2]; rfl)
          clear h1 h2 k1
          go_wp2_with (first
            | (go_at_call 86; go_must (refine (Hpl.out wr (hb)).mono ?_); rintro e w1 ⟨rfl, rfl⟩)
            | (at_builtin; go_must (refine wpList_append_sl rfl (.tmp 30) (.tmp 35) 26 rfl w.heap.size 54 Try.underlying26 infoC rfl (by omega) rfl (Hown.out.alloc _) rfl (Sl.lit wr _ [.int .i64 x.kind, .string x.name, .int .i64 x.n] 54 3 1 rfl rfl (by simp [maxLen])) (one3 _ _ _) (by omega) (by omega) (by have := hb.size; simp; omega) ?_); intro A3 cap3 w3 hown3 hb3 hgr3 hblk3))
          go_roundw
          case rel => exact ⟨i + 1, A3, q + 1, cap3, by omega, by go_num, rfl, by rw [putB_take s Hx.out, Hcell.out, flatC_append]; exact hown3, (hb.alloc hb.size _).trans hb3, by omega⟩
          case measure => simp [intOf]; omega
        · rw [h1] at Hpl
          have Hcell : Hid (cellB s x = p.2) := Lib.hid (by unfold cellB; rw [if_pos k1, h3]; rfl)
          obtain ⟨b5, off5, A5, n5, c5, rfl, hbb5, hC5, f0, f1⟩ := bds_at Hbs.out h2
          have f1' := (hb.cell (p := ⟨b5, off5 + j * 2 + 1, none⟩) hbb5).trans f1
          have hb5w := Nat.lt_of_lt_of_le hbb5 hb.size
          have hjn : j < n := by have := (List.getElem?_eq_some_iff.1 h2).1; have := Hbs.out.len; omega
          have hjz : ((j : Nat) : Int) < (n : Int) := by omega
          have hn5 : n5 ≤ 1000 := by have := Hs.out p (List.mem_of_getElem? h2); have := hC5.len; omega
          have HC5 := Lib.hid (hC5.below hb)
          rw [Nat.zero_add] at Hpl
          clear h1 h2 h3 k1 f0 f1 hbb5 hC5
          go_wp2_with (first
            | (go_at_call 86; go_must (refine (Hpl.out wr (hb)).mono ?_); rintro e w1 ⟨rfl, rfl⟩)
            | (at_builtin; go_must (refine wpList_append_sl rfl (.tmp 37) (.tmp 42) 26 rfl w.heap.size 54 Try.underlying26 infoC rfl (by omega) rfl Hown.out rfl HC5.out.sl (oneC _) (by omega) (by omega) (by have := hb.size; omega) ?_); intro A3 cap3 w3 hown3 hb3 hgr3 hblk3))
          go_roundw
          case rel => exact ⟨i + 1, A3, q + n5, cap3, by omega, by go_num, rfl, by rw [putB_take s Hx.out, Hcell.out, flatC_append]; exact hown3, hb.trans hb3, by omega⟩
          case measure => simp [intOf]; omega
      · have kb : (x.kind == 1) = false := by simp [k1]
        have Hcell : Hid (cellB s x = [x]) := Lib.hid (by unfold cellB; rw [if_neg k1])
        clear k1
        go_wp2_with (first
          | (go_at_call 86; go_must (refine (Hpl.out wr (hb)).mono ?_); rintro e w1 ⟨rfl, rfl⟩)
          | (at_builtin; go_must (refine wpList_append_sl rfl (.tmp 30) (.tmp 35) 26 rfl w.heap.size 54 Try.underlying26 infoC rfl (by omega) rfl (Hown.out.alloc _) rfl (Sl.lit wr _ [.int .i64 x.kind, .string x.name, .int .i64 x.n] 54 3 1 rfl rfl (by simp [maxLen])) (one3 _ _ _) (by omega) (by omega) (by have := hb.size; simp; omega) ?_); intro A3 cap3 w3 hown3 hb3 hgr3 hblk3))
        go_roundw
        case rel => exact ⟨i + 1, A3, q + 1, cap3, by omega, by go_num, rfl, by rw [putB_take s Hx.out, Hcell.out, flatC_append]; exact hown3, (hb.alloc hb.size _).trans hb3, by omega⟩
        case measure => simp [intOf]; omega
    · have hik : i = k := by omega
      subst hik
      have hfin : putB s (t.take i) = putB s t := by rw [List.take_of_length_le (by rw [Hl.out]; exact Nat.le_refl _)]
      have Hfin := Lib.hid hfin
      clear hfin
      go_wp2
      refine bodyPost_ret (v := .slice Ao q co) (by simp [results, Try.results68, go_sem, *]) rfl ?_
      have hown := Hown.out
      rw [Hfin.out] at hown
      refine ⟨Ao, q, co, rfl, ⟨Sl.own hown (by omega), fun y hy => ?_⟩, hb⟩
      obtain ⟨x, hx, hy⟩ := List.mem_flatMap.1 hy
      unfold cellB at hy
      split at hy
      · rcases plB_lk s x.n 0 with ⟨_, e⟩ | ⟨j, p, _, h2, e⟩
        · rw [e] at hy
          simp at hy
          subst hy
          exact hwf.out _ hx
        · rw [e] at hy
          obtain ⟨_, _, _, _, _, _, _, hC5, _⟩ := bds_at Hbs.out h2
          exact hC5.wf _ hy
      · simp at hy
        subst hy
        exact hwf.out _ hx
/-- none, or what is put -/
def RetAp (w : World) (o : Option (List C)) (e : Ending) (w' : World) : Prop := Below w.heap.size w w' ∧ match o with
  | some t => ∃ A n c, e = .returned (.tuple #[.slice A n c, .bool true]) ∧ IsC w' A n c t
  | none => e = .returned (.tuple #[.slice none 0 0, .bool false])
theorem rApply_any (A At : Option Addr) (n c k kc : Nat) (s : List (Int × List C)) (t : List C) (w : World) (h : IsBs w A n c s) (ht : IsC w At k kc t) (hn : n ≤ 2000) (hk : k ≤ 2000) (hs : ∀ p ∈ s, p.2.length ≤ 1000) :
    Calls Try.prog 36 #[.slice A n c, .slice At k kc] w (RetAp w (applyB s t)) := by
  have Hp := Lib.hid (rput_any A At n c k kc s t w h ht hn hk hs)
  have hl := putB_len hs (by omega) t
  have hkl := ht.len
  have hle : (putB s t).length ≤ 2000000 := by rw [hkl] at hl; have : k * 1000 ≤ 2000 * 1000 := Nat.mul_le_mul_right _ hk; omega
  have Hle := Lib.hid hle
  unfold applyB
  clear h ht hs hl hkl hle
  generalize putB s t = u at *
  by_cases h2 : u.length ≤ 200
  · rw [if_pos h2]
    go_enter Try.func36, Try.ntmps36
    go_upto_region 2 with (first | (go_at_call 68; go_must (refine Hp.out.mono ?_); rintro e w1 ⟨A1, n1, c1, rfl, hC, hb⟩))
    have hz : ¬ (200 : Int) < (n1 : Int) := by have := hC.len; omega
    have HC := Lib.hid hC
    clear h2 hC
    go_wp2
    refine bodyPost_ret (v := .tuple #[.slice A1 n1 c1, .bool true]) (by simp [results, Try.results36, go_sem, *]) rfl ?_
    exact ⟨hb, A1, n1, c1, rfl, HC.out⟩
  · rw [if_neg h2]
    go_enter Try.func36, Try.ntmps36
    go_upto_region 2 with (first | (go_at_call 68; go_must (refine Hp.out.mono ?_); rintro e w1 ⟨A1, n1, c1, rfl, hC, hb⟩))
    have hz : (200 : Int) < (n1 : Int) := by have := hC.len; omega
    clear h2 hC
    go_wp2
    refine bodyPost_ret (v := .tuple #[.slice none 0 0, .bool false]) (by simp [results, Try.results36, go_sem, *]) rfl ?_
    exact ⟨hb, rfl⟩
end Go.Proofs.Ytlndjooddkjnoaa
