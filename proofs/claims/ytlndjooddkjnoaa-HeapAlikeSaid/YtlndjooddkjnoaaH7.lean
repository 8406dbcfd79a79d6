/- The walk of the document's slot: may a slot be so? -/
import Derived.Deep.CutBlock
import Derived.Test.YtlndjooddkjnoaaC3
import Derived.Test.YtlndjooddkjnoaaEnd
import Derived.Test.YtlndjooddkjnoaaB0
set_option linter.unusedVariables false
set_option linter.unusedSimpArgs false
namespace Go.Proofs.Ytlndjooddkjnoaa
open Go.RowKit

theorem right_name (s : ByteArray) : rightB [⟨3, s, 0⟩] = okName s := by
  have hc : (⟨3, s, 0⟩ : C).ok = okName s := by simp [C.ok]
  have har : (⟨3, s, 0⟩ : C).ar = 0 := by simp [C.ar]
  cases ho : okName s
  · rw [ho] at hc
    have : skip [⟨3, s, 0⟩] 1 = none := by rw [skip_cons, if_neg (by rw [hc]; decide)]
    simp [rightB, endN, this]
  · rw [ho] at hc
    have : skip [⟨3, s, 0⟩] 1 = some [] := by rw [skip_cons, if_pos hc, har, skip_zero]
    simp [rightB, endN, this]

theorem top_split {l : List C} {p : Nat} {x : C} (k4 : x.kind = 4) : okSl l p x = ((decide (0 ≤ x.n) && decide (x.n ≤ 6)) && (decide ((p : Int) + x.n < l.length) && (okName x.name && !((List.range x.n.toNat).any fun i => (sAt l (p + 1 + i)).kind == 4)))) := by
  simp [okSl, k4]

set_option maxRecDepth 100000 in
set_option maxHeartbeats 4000000 in
theorem qslot_any (A B : Option Addr) (n c m d : Nat) (r : Int) (l : List C) (p : Nat) (w : World) (h : IsC w A n c l) (hn : n ≤ 100000) (hp : p < n) :
    Calls Try.prog 47 #[.agg #[.slice A n c, .slice B m d, .int .i64 r], .int .i64 p] w (RetV w (.bool (okSl l p (sAt l p)))) := by
  have hl := h.len
  have Hl := Lib.hid hl
  obtain ⟨x, hxc⟩ := h.get hp
  have hC := h
  obtain ⟨b, off, rfl, hbb, hwf, h0, h1, h2⟩ := h.at_ hxc
  have hsx := sAt_get hxc
  rw [hsx]
  have HC := Lib.hid hC
  obtain ⟨kd, s, v⟩ := x
  obtain ⟨hwk, hwv, hws⟩ := hwf
  simp only at hwk hwv hws h0 h1 h2
  obtain ⟨hv1, hv2⟩ := hwv
  clear hsx hxc h hC hl
  generalize hR : okSl l p ⟨kd, s, v⟩ = R
  have HR := Lib.hid hR
  clear hR
  go_enter Try.func47, Try.ntmps47
  go_upto_region 2 with fail
  refine wp_world' (Φ := fun X => Below w.heap.size w X ∧ X.heap.size = w.heap.size + 2 ∧ X.heap[w.heap.size]? = some (.cells #[.slice (some ⟨b, off, none⟩) n c, .slice B m d, .int .i64 r] 25 (0, 0)) ∧ X.heap[w.heap.size + 1]? = some (.cells #[.int .i64 kd, .string s, .int .i64 v] 68 (0, 0)))
    ⟨((Below.refl _ _).alloc (Nat.le_refl _) _).alloc (by first | omega | (simp; done) | (simp; omega)) _, (by first | omega | (simp; done) | (simp; omega)), (alloc_past (by first | omega | (simp; done) | (simp; omega))).trans (alloc_at rfl), alloc_at (by first | omega | (simp; done) | (simp; omega))⟩ ?_
  rintro X ⟨hbX, hX1, x0, x1⟩
  obtain ⟨y0, y1, y2, yl⟩ := open3 x0
  obtain ⟨z0, z1, z2, zl⟩ := open3 x1
  obtain ⟨hc, hf⟩ := bcell hbX
  have HX0 := Lib.hid x0
  have HX1 := Lib.hid x1
  have hwX : w.heap.size ≤ X.heap.size := by omega
  have hzX : w.heap.size + 1 < X.heap.size := zl
  clear x0 x1 hX1
  have his := qIs_any (some ⟨b, off, none⟩) B n c m d r v X hn
  have His := Lib.hid his
  clear his
  by_cases k1 : kd = 1
  · subst k1
    by_cases he : s.toList = []
    · obtain rfl := toList_nil he
      have hres : okSl l p ⟨1, ⟨#[]⟩, v⟩ = (decide (0 ≤ v) && decide (v < (n : Int))) := by simp [okSl, empty_toList, Hl.out]
      have Hres := Lib.hid hres
      clear he hres
      go_wp2_with (first | (go_at_call 32; go_must (refine His.out.mono ?_); rintro e w1 ⟨rfl, hb1⟩))
      go_ret
      exact ⟨ret_bool (Hres.out.symm.trans HR.out), hbX.trans (hb1.mono hwX)⟩
    · have hres : okSl l p ⟨1, s, v⟩ = false := by simp [okSl, he]
      have he2 : s.toList.isEmpty = false := by simpa using he
      have Hres := Lib.hid hres
      clear hres
      go_wp2
      go_ret
      exact ⟨ret_bool (Hres.out.symm.trans HR.out), hbX⟩
  by_cases k2 : kd = 2
  · subst k2
    by_cases he : s.toList = []
    · obtain rfl := toList_nil he
      have hres : okSl l p ⟨2, ⟨#[]⟩, v⟩ = (decide (-2147483647 ≤ v) && decide (v ≤ 2147483647)) := by simp [okSl, empty_toList]
      have Hres := Lib.hid hres
      clear he hres
      by_cases hv3 : -2147483647 ≤ v
      · have hd : decide (-2147483647 ≤ v) = true := by simpa using hv3
        have Hd := Lib.hid hd
        clear hd
        go_wp2
        go_ret
        exact ⟨ret_bool (by rw [← HR.out, Hres.out, Hd.out, Bool.true_and]), hbX⟩
      · have hd : decide (-2147483647 ≤ v) = false := by simpa using hv3
        have Hd := Lib.hid hd
        clear hd
        go_wp2
        go_ret
        exact ⟨ret_bool (by rw [← HR.out, Hres.out, Hd.out, Bool.false_and]), hbX⟩
    · have hres : okSl l p ⟨2, s, v⟩ = false := by simp [okSl, he]
      have he2 : s.toList.isEmpty = false := by simpa using he
      have Hres := Lib.hid hres
      clear hres
      go_wp2
      go_ret
      exact ⟨ret_bool (Hres.out.symm.trans HR.out), hbX⟩
  by_cases k3 : kd = 3
  · subst k3
    by_cases he : s.toList = []
    · obtain rfl := toList_nil he
      have hres : okSl l p ⟨3, ⟨#[]⟩, v⟩ = ((decide (0 ≤ v) && decide (v < (n : Int))) && (sAt l v.toNat).kind == 4) := by simp [okSl, empty_toList, Hl.out]
      have Hres := Lib.hid hres
      clear he hres
      cases hin : (decide (0 ≤ v) && decide (v < (n : Int)))
      · rw [hin] at His
        have Hin := Lib.hid hin
        clear hin
        go_wp2_with (first | (go_at_call 32; go_must (refine His.out.mono ?_); rintro e w1 ⟨rfl, hb1⟩))
        go_ret
        exact ⟨ret_bool (by rw [← HR.out, Hres.out, Hin.out, Bool.false_and]), hbX.trans (hb1.mono hwX)⟩
      · rw [hin] at His
        have Hin := Lib.hid hin
        simp at hin
        obtain ⟨q, rfl⟩ : ∃ q : Nat, v = q := ⟨v.toNat, by omega⟩
        have hqn : q < n := by omega
        obtain ⟨u, hu⟩ := HC.out.get hqn
        obtain ⟨b', off', he', _, hwu, e0, e1, e2⟩ := HC.out.at_ hu
        injection he' with he'
        injection he' with he1 he2
        subst he1; subst he2
        have hsu := sAt_get hu
        have Hsu := Lib.hid hsu
        clear hu hsu hin e1 e2
        go_wp2_with (first | (go_at_call 32; go_must (refine His.out.mono ?_); rintro e w1 ⟨rfl, hb1⟩; have w0 := (hb1.block w.heap.size yl).trans HX0.out; have w2 := (hb1.block (w.heap.size + 1) zl).trans HX1.out; obtain ⟨v0, v1, v2, vl⟩ := open3 w0; obtain ⟨u0, u1, u2, ul⟩ := open3 w2; replace hb1 := hbX.trans (hb1.mono hwX); obtain ⟨hc, hf⟩ := bcell hb1; clear w0 w2))
        go_ret
        exact ⟨ret_bool (by rw [← HR.out, Hres.out, Hin.out, Bool.true_and, Int.toNat_natCast, Hsu.out]), hb1⟩
    · have hres : okSl l p ⟨3, s, v⟩ = false := by simp [okSl, he]
      have he2 : s.toList.isEmpty = false := by simpa using he
      have Hres := Lib.hid hres
      clear hres
      go_wp2
      go_ret
      exact ⟨ret_bool (Hres.out.symm.trans HR.out), hbX⟩
  by_cases k4 : kd = 4
  · subst k4
    have hts := top_split (l := l) (p := p) (x := ⟨4, s, v⟩) rfl
    simp only [Hl.out] at hts
    have HT := Lib.hid hts
    clear hts
    by_cases v1 : 0 ≤ v
    · by_cases v6 : v ≤ 6
      · obtain ⟨a, rfl⟩ : ∃ a : Nat, v = a := ⟨v.toNat, by omega⟩
        have ha6 : a ≤ 6 := by omega
        have ha7 : decide ((6 : Int) < (a : Int)) = false := by simp; omega
        by_cases v3 : p + a < n
        · have hd3 : decide (p + a < n) = true := by simpa using v3
          have hd4 : decide ((p : Int) + (a : Int) ≥ (n : Int)) = false := by simp; omega
          have hd5 : decide (n ≤ p + a) = false := by simp; omega
          have hsum : IntKind.i64.wrap ((p : Int) + a) = (p : Int) + a := IntWalk.i64_in _ (by omega)
          have hrr := fun w1 (hx : w1.heap[X.heap.size]? = some (.cells #[.int .i64 3, .string s, .int .i64 0] 54 (0, 0))) => rRight_any (some ⟨X.heap.size, 0, none⟩) 1 1 [⟨3, s, 0⟩] w1 ⟨Sl.blk (cs := #[.int .i64 3, .string s, .int .i64 0]) hx rfl (by simp [maxLen]), by intro c hc; simp at hc; subst hc; exact ⟨⟨(by decide : (-9223372036854775808 : Int) ≤ 3), (by decide : (3 : Int) ≤ 9223372036854775807)⟩, i64_0', hws⟩⟩ (by omega)
          rw [right_name] at hrr
          have Hrr := Lib.hid hrr
          clear hrr
          cases ho : okName s
          · rw [ho] at Hrr
            have Ho := Lib.hid ho
            clear ho His
            go_wp2_with (first | (go_at_call 17; go_must (refine (Hrr.out _ (alloc_at rfl)).mono ?_); rintro e w1 ⟨rfl, hb1⟩))
            go_ret
            exact ⟨ret_bool (by rw [← HR.out, HT.out, Ho.out]; simp), hbX.trans (((Below.refl _ _).alloc (Nat.le_refl _) _).trans (hb1.mono (by first | omega | (simp; done) | (simp; omega))) |>.mono hwX)⟩
          · rw [ho] at Hrr
            have Ho := Lib.hid ho
            clear ho His
            go_wp2_with (first | (go_at_call 17; go_must (refine (Hrr.out _ (alloc_at rfl)).mono ?_); rintro e w1 ⟨rfl, hb1⟩; have hbx1 : Below X.heap.size X w1 := (((Below.refl _ _).alloc (Nat.le_refl _) _).trans (hb1.mono (by first | omega | (simp; done) | (simp; omega)))); have w0 := (hbx1.block w.heap.size yl).trans HX0.out; have w2 := (hbx1.block (w.heap.size + 1) zl).trans HX1.out; obtain ⟨v0, v1, v2, vl⟩ := open3 w0; obtain ⟨u0, u1, u2, ul⟩ := open3 w2; have hbw1 := hbX.trans (hbx1.mono hwX); obtain ⟨hc, hf⟩ := bcell hbw1; clear w0 w2 hb1 hbx1))
            clear hsum
            go_loop [6] (fun i => ∃ k : Nat, k ≤ a ∧ i = .int .i64 (k + 1) ∧ Hid (∀ j, j < k → ((sAt l (p + 1 + j)).kind == 4) = false)) (fun i => a + 1 - (intOf i).toNat)
            case atStart => exact ⟨0, Nat.zero_le _, rfl, Lib.hid (fun j hj => by omega)⟩
            case round =>
              obtain ⟨k, hk, rfl, hres⟩ := hrel
              by_cases hlt : k < a
              · have hlt' : decide ((k : Int) + 1 ≤ (a : Int)) = true := by simp; omega
                have hqn : p + 1 + k < n := by omega
                have hsum : IntKind.i64.wrap ((p : Int) + (k + 1)) = ((p + 1 + k : Nat) : Int) := by rw [IntWalk.i64_in _ (by omega)]; omega
                obtain ⟨u, hu⟩ := HC.out.get hqn
                obtain ⟨b', off', he', _, hwu, e0, e1, e2⟩ := HC.out.at_ hu
                injection he' with he'
                injection he' with he1 he2
                subst he1; subst he2
                have hsu := sAt_get hu
                have Hsu := Lib.hid hsu
                clear hu hsu e1 e2
                by_cases hk4 : u.kind = 4
                · have hk5 : (u.kind == 4) = true := by simp [hk4]
                  have Hk5 := Lib.hid hk5
                  clear hk4
                  go_wp2
                  go_ret
                  refine ⟨ret_bool ?_, hbw1⟩
                  rw [← HR.out, HT.out]
                  have : ((List.range (a : Int).toNat).any fun i => (sAt l (p + 1 + i)).kind == 4) = true := by
                    rw [List.any_eq_true]
                    exact ⟨k, by simpa using hlt, by rw [Hsu.out]; exact Hk5.out⟩
                  rw [this]; simp
                · have hk5 : (u.kind == 4) = false := by simp [hk4]
                  have Hk5 := Lib.hid hk5
                  clear hk4
                  go_wp2
                  go_round
                  case rel =>
                    refine ⟨k + 1, by omega, by go_num, Lib.hid (fun j hj => ?_)⟩
                    by_cases e : j = k
                    · subst e; rw [Hsu.out]; exact Hk5.out
                    · exact hres.out j (by omega)
                  case measure => simp [intOf]; omega
              · have hka : k = a := by omega
                subst hka
                have hlt' : decide ((k : Int) + 1 ≤ (k : Int)) = false := by simp; omega
                go_wp2
                go_ret
                refine ⟨ret_bool ?_, hbw1⟩
                rw [← HR.out, HT.out, Ho.out]
                have : ((List.range (k : Int).toNat).any fun i => (sAt l (p + 1 + i)).kind == 4) = false := by
                  rw [List.any_eq_false]
                  intro i hi
                  have := hres.out i (by simpa using hi)
                  simp [this]
                rw [this]
                simp
                omega
        · have hd4 : decide ((p : Int) + (a : Int) ≥ (n : Int)) = true := by simp; omega
          have hd5 : decide (n ≤ p + a) = true := by simp; omega
          have hsum : IntKind.i64.wrap ((p : Int) + a) = (p : Int) + a := IntWalk.i64_in _ (by omega)
          have hres : decide ((p : Int) + (a : Int) < (n : Int)) = false := by simp; omega
          have Hres := Lib.hid hres
          clear hres His
          go_wp2
          go_ret
          exact ⟨ret_bool (by rw [← HR.out, HT.out, Hres.out]; simp), hbX⟩
      · have hres : decide (v ≤ 6) = false := by simpa using v6
        have Hres := Lib.hid hres
        clear hres His
        go_wp2
        go_ret
        exact ⟨ret_bool (by rw [← HR.out, HT.out, Hres.out]; simp), hbX⟩
    · have hres : decide (0 ≤ v) = false := by simpa using v1
      have Hres := Lib.hid hres
      clear hres His
      go_wp2
      go_ret
      exact ⟨ret_bool (by rw [← HR.out, HT.out, Hres.out]; simp), hbX⟩
  · have hres : okSl l p ⟨kd, s, v⟩ = false := by simp [okSl, k1, k2, k3, k4]
    have Hres := Lib.hid hres
    clear hres His
    go_wp2
    go_ret
    exact ⟨ret_bool (Hres.out.symm.trans HR.out), hbX⟩
end Go.Proofs.Ytlndjooddkjnoaa
